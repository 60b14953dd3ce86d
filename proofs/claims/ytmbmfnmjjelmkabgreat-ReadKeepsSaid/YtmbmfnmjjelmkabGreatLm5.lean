/- What functions of the program come to, each proved from its code. -/
import Derived.Test.YtmbmfnmjjelmkabGreatLm4
namespace Lam
open Go Go.Proofs
set_option linter.unusedVariables false
def cN.loops : Nat → LInfo
  | 1 => ⟨[], [], [], [(8, none), (5, some [14, 19])], [], []⟩
  | 6 => ⟨[28], [false], [1, 3, 4, 26, 27], [], [], []⟩
  | 8 => ⟨[], [], [], [(4, none), (5, some [35, 40]), (2, none), (9, some [42, 51])], [], []⟩
  | 10 => ⟨[], [], [], [(10, none), (3, some [62, 65])], [], []⟩
  | _ => ⟨[], [], [], [], [], []⟩
def cN.L1 (c : Ctx) (J2 : AV → AV → List AObj → Prop) (K : AOut → List AObj → Prop) (lv : List AV) (h0 : List AObj) (n0 : Nat) (c1 : AV) (c3 : AV) (c4 : AV) (c26 : AV) (c27 : AV) : Prop :=
  ∃ I : Nat → List AV → List AObj → Prop, (∃ n, I n lv h0) ∧ ∀ n h, ∀ t28, I n [t28] h →
    runD (binD T_int .lss t28 c27) h fun t29 h =>
    condW t29
    (runD (aF bG h c26 t28) h fun t30 h =>
    runD (fitD bZ (loadD h t30)) h fun t31 h =>
    allocW bZ h fun t6 h =>
    runH (storeH bZ h t6 t31) h fun _ h =>
    runD (aB bZ t6 0) h fun t32 h =>
    runD (fitD T_int (loadD h t32)) h fun t33 h =>
    runD (binD T_int .lss t33 (.int .i64 0)) h fun t34 h =>
    joinW (fun (J3 : AV → AV → List AObj → Prop) =>
    guardW t34 false
    (runD (aB bZ t6 0) h fun t36 h =>
      runD (fitD T_int (loadD h t36)) h fun t37 h =>
      runD (lenD aI h c3) h fun t39 h =>
      runD (binD T_int .geq t37 t39) h fun t40 h =>
      J3 (.bool false) t40 h)
    (J3 (.bool true) .und h))
    (fun t35 t40 h => runD (pickD t35 (.bool true) t40) h fun t41 h =>
    joinW (fun (J4 : AV → AV → List AObj → Prop) =>
    guardW t41 false
    (runD (aB bZ t6 2) h fun t43 h =>
      runD (fitD T_bool (loadD h t43)) h fun t44 h =>
      joinW (fun (J5 : AV → AV → List AObj → Prop) =>
      guardW t44 true
      (runD (aB bZ t6 0) h fun t47 h =>
        runD (fitD T_int (loadD h t47)) h fun t48 h =>
        runD (binD T_int .quo t48 (.int .i64 8)) h fun t49 h =>
        runD (lookupD gT h c4 t49) h fun t50 h =>
        J5 (.bool true) t50 h)
      (J5 (.bool false) .und h))
      (fun t45 t50 h => runD (pickD t45 t50 (.bool false)) h fun t51 h =>
      J4 (.bool false) t51 h))
    (J4 (.bool true) .und h))
    (fun t42 t51 h => runD (pickD t42 (.bool true) t51) h fun t52 h =>
    condW t52
    (K (.ret (.bool false)) h)
    (runD (aB bZ t6 0) h fun t54 h =>
    runD (fitD T_int (loadD h t54)) h fun t55 h =>
    runD (binD T_int .quo t55 (.int .i64 8)) h fun t56 h =>
    runD (aB bZ t6 0) h fun t58 h =>
    runD (fitD T_int (loadD h t58)) h fun t59 h =>
    runD (binD T_int .quo t59 (.int .i64 8)) h fun t60 h =>
    runD (lookupD gT h c4 t60) h fun t61 h =>
    joinW (fun (J6 : AV → AV → List AObj → Prop) =>
    guardW t61 false
    (runD (aB bZ t6 2) h fun t63 h =>
      runD (fitD T_bool (loadD h t63)) h fun t64 h =>
      runD (unD .not t64) h fun t65 h =>
      J6 (.bool false) t65 h)
    (J6 (.bool true) .und h))
    (fun t62 t65 h => runD (pickD t62 (.bool true) t65) h fun t66 h =>
    runH (mapSetH gT h c4 t56 t66) h fun _ h =>
    runD (aB bZ t6 0) h fun t68 h =>
    runD (fitD T_int (loadD h t68)) h fun t69 h =>
    runD (aB bZ t6 1) h fun t70 h =>
    runD (fitD T_int (loadD h t70)) h fun t71 h =>
    runD (aF aI h c3 t69) h fun t72 h =>
    runH (storeH T_int h t72 t71) h fun _ h =>
    runD (binD T_int .add t28 (.int .i64 1)) h fun t73 h =>
    (∃ m, m < n ∧ I m (AV.norms n0 h [t73]) (normH n0 h)) ∧ AV.norms n0 h [c1, c3, c4, c26, c27] = [c1, c3, c4, c26, c27])))))
    (J2 c1 c3 h)
def cN.H (c : Ctx) (t0 : AV) (h : List AObj) (K : AOut → List AObj → Prop) : Prop :=
  boxW T_api_Mem t0 h fun t1 h =>
  runD (aB T_api_Mem t1 0) h fun t7 h =>
  runD (fitD aI (loadD h t7)) h fun t8 h =>
  runD (lenD aI h t8) h fun t9 h =>
  runD (aB T_api_Mem t1 1) h fun t10 h =>
  runD (fitD aI (loadD h t10)) h fun t11 h =>
  runD (lenD aI h t11) h fun t12 h =>
  runD (binD T_int .neq t9 t12) h fun t13 h =>
  joinW (fun (J1 : AV → AV → List AObj → Prop) =>
  guardW t13 false
  (runD (aB T_api_Mem t1 0) h fun t15 h =>
    runD (fitD aI (loadD h t15)) h fun t16 h =>
    runD (lenD aI h t16) h fun t17 h =>
    callW false c (.fn (.func 33) [] []) [t17] h (fun t18 h =>
    runD (unD .not t18) h fun t19 h =>
    J1 (.bool false) t19 h)
    (fun v h => K (.pan v) h))
  (J1 (.bool true) .und h))
  (fun t14 t19 h => runD (pickD t14 (.bool true) t19) h fun t20 h =>
  condW t20
  (K (.ret (.bool false)) h)
  (runD (aB T_api_Mem t1 1) h fun t21 h =>
  runD (fitD aI (loadD h t21)) h fun t22 h =>
  callW false c (.fn (.func 34) [] []) [t22] h (fun t23 h =>
  runD (gG gT h.length) h fun t24 h =>
  runD (aB T_api_Mem t1 2) h fun t25 h =>
  runD (fitD bG (loadD h t25)) h fun t26 h =>
  runD (lenD bG h t26) h fun t27 h =>
  joinW (fun (J2 : AV → AV → List AObj → Prop) =>
  promV [false] [(.int .i64 0)] h fun lv h => cN.L1 c J2 K (AV.norms h.length h lv) (normH h.length h) h.length (AV.norm h.length h t1) (AV.norm h.length h t23) (AV.norm h.length h t24) (AV.norm h.length h t26) (AV.norm h.length h t27))
  (fun t1 t3 h => runD (aB T_api_Mem t1 0) h fun t75 h =>
  runD (fitD aI (loadD h t75)) h fun t76 h =>
  callW false c (.fn (.func 35) [] []) [t3, t76] h (fun t77 h =>
  K (.ret t77) h)
  (fun v h => K (.pan v) h)))
  (fun v h => K (.pan v) h)))
def fH.loops : Nat → LInfo
  | _ => ⟨[], [], [], [], [], []⟩
def fH.H (c : Ctx) (t0 : AV) (h : List AObj) (K : AOut → List AObj → Prop) : Prop :=
  allocW T_api_Mem h fun t2 h =>
  runD (lenD aI h t0) h fun t5 h =>
  callW false c (.fn (.func 33) [] []) [t5] h (fun t6 h =>
  runD (unD .not t6) h fun t7 h =>
  condW t7
  (runD (buildD T_api_Mem []) h fun t8 h =>
    runH (storeH T_api_Mem h t2 t8) h fun _ h =>
    loadRes (fitD T_api_Mem (loadD h t2)) fun r0 => K (.ret (.tup [r0, (.int .i64 40)])) h)
  (callW false c (.fn (.func 34) [] []) [t0] h (fun t10 h =>
  callW false c (.fn (.func 34) [] []) [t0] h (fun t12 h =>
  runD (buildD T_api_Mem [(0, t10), (1, t12)]) h fun t13 h =>
  runH (storeH T_api_Mem h t2 t13) h fun _ h =>
  loadRes (fitD T_api_Mem (loadD h t2)) fun r0 => K (.ret (.tup [r0, (.int .i64 0)])) h)
  (fun v h => K (.pan v) h))
  (fun v h => K (.pan v) h)))
  (fun v h => K (.pan v) h)
def dZ.loops : Nat → LInfo
  | 1 => ⟨[], [], [], [(3, none), (3, some [5, 8])], [], []⟩
  | _ => ⟨[], [], [], [], [], []⟩
def dZ.H (c : Ctx) (t0 : AV) (h : List AObj) (K : AOut → List AObj → Prop) : Prop :=
  runD (binD T_int .leq t0 (.int .i64 4096)) h fun t4 h =>
  joinW (fun (J1 : AV → AV → List AObj → Prop) =>
  guardW t4 true
  (runD (binD T_int .rem t0 (.int .i64 8)) h fun t7 h =>
    runD (binD T_int .eql t7 (.int .i64 0)) h fun t8 h =>
    J1 (.bool true) t8 h)
  (J1 (.bool false) .und h))
  (fun t5 t8 h => runD (pickD t5 t8 (.bool false)) h fun t9 h =>
  K (.ret t9) h)
def fI.loops : Nat → LInfo
  | _ => ⟨[], [], [], [], [], []⟩
def fI.H (c : Ctx) (t0 : AV) (t1 : AV) (t2 : AV) (h : List AObj) (K : AOut → List AObj → Prop) : Prop :=
  boxW T_api_Mem t0 h fun t3 h =>
  allocW T_api_Mem h fun t6 h =>
  runD (fitD T_api_Mem (loadD h t3)) h fun t9 h =>
  callW false c (.fn (.func 152) [] []) [t9, t1] h (fun t11 h =>
  runD (unD .not t11) h fun t12 h =>
  condW t12
  (runD (fitD T_api_Mem (loadD h t3)) h fun t13 h =>
    runH (storeH T_api_Mem h t6 t13) h fun _ h =>
    loadRes (fitD T_api_Mem (loadD h t6)) fun r0 => K (.ret (.tup [r0, (.int .i64 40)])) h)
  (runD (aB T_api_Mem t3 0) h fun t14 h =>
  runD (fitD aI (loadD h t14)) h fun t15 h =>
  runD (lenD aI h t15) h fun t16 h =>
  runD (gC aI t16 t16 h.length) h fun t17 h =>
  runD (aB T_api_Mem t3 0) h fun t19 h =>
  runD (fitD aI (loadD h t19)) h fun t20 h =>
  runM (copyH aI h t17 t20) h fun t21 h =>
  runD (aF aI h t17 t1) h fun t25 h =>
  runH (storeH T_int h t25 t2) h fun _ h =>
  runD (aB T_api_Mem t3 1) h fun t27 h =>
  runD (fitD aI (loadD h t27)) h fun t28 h =>
  runD (aB T_api_Mem t3 2) h fun t29 h =>
  runD (fitD bG (loadD h t29)) h fun t30 h =>
  callW false c.noS (.fn (.func 153) [] []) [t30] h (fun t31 h =>
  runD (buildD bZ [(0, t1), (1, t2)]) h fun t34 h =>
  runD (fB bG 1 [(0, t34)] h.length) h fun t35 h =>
  runDM (appendD bG h t31 t35 h.length) (appendH bG h t31 t35) h fun t36 h =>
  runD (buildD T_api_Mem [(0, t17), (1, t28), (2, t36)]) h fun t37 h =>
  runH (storeH T_api_Mem h t6 t37) h fun _ h =>
  sepB t31 [t27] = true ∧ loadRes (fitD T_api_Mem (loadD h t6)) fun r0 => K (.ret (.tup [r0, (.int .i64 0)])) h)
  (fun _ _ => False)))
  (fun v h => K (.pan v) h)
def eO.loops : Nat → LInfo
  | _ => ⟨[], [], [], [], [], []⟩
def eO.H (c : Ctx) (t0 : AV) (t1 : AV) (h : List AObj) (K : AOut → List AObj → Prop) : Prop :=
  boxW T_api_Mem t0 h fun t2 h =>
  allocW T_api_Mem h fun t4 h =>
  runD (fitD T_api_Mem (loadD h t2)) h fun t8 h =>
  runD (fitD T_api_Mem (loadD h t2)) h fun t9 h =>
  callW false c.noS (.fn (.func 154) [] []) [t9, t1] h (fun t11 h =>
  callW false c.noS (.fn (.func 152) [] []) [t8, t11] h (fun t12 h =>
  runD (unD .not t12) h fun t13 h =>
  condW t13
  (runD (fitD T_api_Mem (loadD h t2)) h fun t14 h =>
    runH (storeH T_api_Mem h t4 t14) h fun _ h =>
    loadRes (fitD T_api_Mem (loadD h t4)) fun r0 => K (.ret (.tup [r0, (.int .i64 40)])) h)
  (runD (aB T_api_Mem t2 2) h fun t15 h =>
  runD (fitD bG (loadD h t15)) h fun t16 h =>
  callW false c (.fn (.func 155) [] []) [t16] h (fun t17 h =>
  allocW bG h fun t6 h =>
  runH (storeH bG h t6 t17) h fun _ h =>
  runD (fitD T_api_Mem (loadD h t2)) h fun t18 h =>
  callW false c (.fn (.func 156) [] []) [t18, t1] h (fun t20 h =>
  joinW (fun (J1 : AV → AV → AV → List AObj → Prop) =>
  rangeX c.iterS t20 h
  (fun id r args h K => lpIs h id .ready r ∧ argX1 args fun t21 =>
  lpIs h id .ready r ∧
  runD (fitD bG (loadD (List.set h id (.lp .busy none r)) t6)) (List.set h id (.lp .busy none r)) fun t22 h =>
  runD (aF bG h t22 t21) h fun t24 h =>
  runD (aB bZ t24 2) h fun t25 h =>
  runH (storeH T_bool h t25 (.bool true)) h fun _ h =>
  lpIs h id .busy r ∧ K (.ret (.bool true)) (List.set h id (.lp .ready none r)))
  (fun id r ao h => endX id r ao h
  (fun h => J1 t2 t4 t6 h)
  (fun h => loadRes (fitD T_api_Mem (loadD h t4)) fun r0 => K (.ret (.tup [r0, (.int .i64 0)])) h)
  (fun i h => exitW i 0 (J1 t2 t4 t6 h) (False))
  (fun l h => False)
  (fun v h => K (.pan v) h)))
  (fun t2 t4 t6 h => runD (fitD bG (loadD h t6)) h fun t26 h =>
  runD (aB T_api_Mem t2 2) h fun t27 h =>
  runH (storeH bG h t27 t26) h fun _ h =>
  runD (fitD T_api_Mem (loadD h t2)) h fun t28 h =>
  runH (storeH T_api_Mem h t4 t28) h fun _ h =>
  loadRes (fitD T_api_Mem (loadD h t4)) fun r0 => K (.ret (.tup [r0, (.int .i64 0)])) h))
  (fun v h => K (.pan v) h))
  (fun v h => K (.pan v) h)))
  (fun _ _ => False))
  (fun _ _ => False)
def eP.loops : Nat → LInfo
  | _ => ⟨[], [], [], [], [], []⟩
def eP.H (c : Ctx) (t0 : AV) (h : List AObj) (K : AOut → List AObj → Prop) : Prop :=
  boxW T_api_Mem t0 h fun t1 h =>
  allocW T_api_Mem h fun t2 h =>
  runD (fitD T_api_Mem (loadD h t1)) h fun t4 h =>
  callW false c (.fn (.func 13) [] []) [t4] h (fun t5 h =>
  runD (unD .not t5) h fun t6 h =>
  condW t6
  (runD (fitD T_api_Mem (loadD h t1)) h fun t7 h =>
    runH (storeH T_api_Mem h t2 t7) h fun _ h =>
    loadRes (fitD T_api_Mem (loadD h t2)) fun r0 => K (.ret (.tup [r0, (.int .i64 40)])) h)
  (runD (fitD T_api_Mem (loadD h t1)) h fun t8 h =>
  callW false c (.fn (.func 157) [] []) [t8, (.fn (.func 158) [] [])] h (fun t9 h =>
  runH (storeH T_api_Mem h t2 t9) h fun _ h =>
  loadRes (fitD T_api_Mem (loadD h t2)) fun r0 => K (.ret (.tup [r0, (.int .i64 0)])) h)
  (fun v h => K (.pan v) h)))
  (fun v h => K (.pan v) h)
def eA.loops : Nat → LInfo
  | 1 => ⟨[], [], [], [(3, none), (5, some [7, 12]), (2, none), (2, some [14, 16])], [], []⟩
  | _ => ⟨[], [], [], [], [], []⟩
def eA.H (c : Ctx) (t0 : AV) (t1 : AV) (h : List AObj) (K : AOut → List AObj → Prop) : Prop :=
  boxW T_api_Mem t0 h fun t2 h =>
  runD (binD T_int .geq t1 (.int .i64 0)) h fun t6 h =>
  joinW (fun (J1 : AV → AV → List AObj → Prop) =>
  guardW t6 true
  (runD (aB T_api_Mem t2 0) h fun t9 h =>
    runD (fitD aI (loadD h t9)) h fun t10 h =>
    runD (lenD aI h t10) h fun t11 h =>
    runD (binD T_int .lss t1 t11) h fun t12 h =>
    J1 (.bool true) t12 h)
  (J1 (.bool false) .und h))
  (fun t7 t12 h => runD (pickD t7 t12 (.bool false)) h fun t13 h =>
  joinW (fun (J2 : AV → AV → List AObj → Prop) =>
  guardW t13 true
  (runD (fitD T_api_Mem (loadD h t2)) h fun t15 h =>
    callW false c (.fn (.func 13) [] []) [t15] h (fun t16 h =>
    J2 (.bool true) t16 h)
    (fun v h => K (.pan v) h))
  (J2 (.bool false) .und h))
  (fun t14 t16 h => runD (pickD t14 t16 (.bool false)) h fun t17 h =>
  K (.ret t17) h))
def eZ.loops : Nat → LInfo
  | 1 => ⟨[], [], [], [(3, none), (6, some [7, 13])], [], []⟩
  | _ => ⟨[], [], [], [], [], []⟩
def eZ.H (c : Ctx) (t0 : AV) (t1 : AV) (h : List AObj) (K : AOut → List AObj → Prop) : Prop :=
  boxW T_api_Mem t0 h fun t2 h =>
  runD (binD T_int .lss t1 (.int .i64 0)) h fun t6 h =>
  joinW (fun (J1 : AV → AV → List AObj → Prop) =>
  guardW t6 false
  (runD (aB T_api_Mem t2 0) h fun t9 h =>
    runD (fitD aI (loadD h t9)) h fun t10 h =>
    runD (lenD aI h t10) h fun t11 h =>
    runD (binD T_int .quo t11 (.int .i64 8)) h fun t12 h =>
    runD (binD T_int .geq t1 t12) h fun t13 h =>
    J1 (.bool false) t13 h)
  (J1 (.bool true) .und h))
  (fun t7 t13 h => runD (pickD t7 (.bool true) t13) h fun t14 h =>
  condW t14
  (K (.ret (.int .i64 (-1))) h)
  (runD (binD T_int .mul t1 (.int .i64 8)) h fun t16 h =>
  K (.ret t16) h))
def pmem_of.loops : Nat → LInfo
  | _ => ⟨[], [], [], [], [], []⟩
def pmem_of.H (c : Ctx) (t0 : AV) (t1 : AV) (h : List AObj) (K : AOut → List AObj → Prop) : Prop :=
  boxW T_api_Mem t0 h fun t2 h =>
  boxW T_int t1 h fun t3 h =>
  K (.ret (.fn (.func 159) [] [t2, t3])) h
def eC.loops : Nat → LInfo
  | 3 => ⟨[17], [false], [1, 4, 5, 15, 16], [], [5], []⟩
  | _ => ⟨[], [], [], [], [], []⟩
def eC.L1 (c : Ctx) (J1 : AV → AV → List AObj → Prop) (K : AOut → List AObj → Prop) (lv : List AV) (h0 : List AObj) (n0 : Nat) (c1 : AV) (c4 : AV) (c5 : AV) (c15 : AV) (c16 : AV) : Prop :=
  ∃ I : Nat → List AV → List AObj → Prop, (∃ n, I n lv h0) ∧ ∀ n h, ∀ t17, I n [t17] h →
    runD (binD T_int .lss t17 c16) h fun t18 h =>
    condW t18
    (joinW (fun (J2 : List AObj → Prop) =>
    runD (aF bG h c15 t17) h fun t19 h =>
    runD (fitD bZ (loadD h t19)) h fun t20 h =>
    allocW bZ h fun t7 h =>
    runH (storeH bZ h t7 t20) h fun _ h =>
    runD (fitD bZ (loadD h t7)) h fun t22 h =>
    callW false c c1 [t22] h (fun t23 h =>
    condW t23
    (runD (aB T_api_Mem c5 1) h fun t24 h =>
      runD (fitD aI (loadD h t24)) h fun t25 h =>
      runD (aB bZ t7 0) h fun t26 h =>
      runD (fitD T_int (loadD h t26)) h fun t27 h =>
      runD (aB bZ t7 1) h fun t28 h =>
      runD (fitD T_int (loadD h t28)) h fun t29 h =>
      runD (aF aI h t25 t27) h fun t30 h =>
      runH (storeH T_int h t30 t29) h fun _ h =>
      J2 h)
    (runD (aB T_api_Mem c5 2) h fun t31 h =>
    runD (fitD bG (loadD h t31)) h fun t32 h =>
    runD (fitD bZ (loadD h t7)) h fun t33 h =>
    runD (fB bG 1 [(0, t33)] h.length) h fun t34 h =>
    runDM (appendD bG h t32 t34 h.length) (appendH bG h t32 t34) h fun t35 h =>
    runD (aB T_api_Mem c5 2) h fun t36 h =>
    runH (storeH bG h t36 t35) h fun _ h =>
    J2 h))
    (fun v h => K (.pan v) h))
    (fun h => runD (binD T_int .add t17 (.int .i64 1)) h fun t37 h =>
    (∃ m, m < n ∧ I m (AV.norms n0 h [t37]) (normH n0 h)) ∧ AV.norms n0 h [c1, c4, c5, c15, c16] = [c1, c4, c5, c15, c16]))
    (J1 c4 c5 h)
def eC.H (c : Ctx) (t0 : AV) (t1 : AV) (h : List AObj) (K : AOut → List AObj → Prop) : Prop :=
  boxW T_api_Mem t0 h fun t2 h =>
  allocW T_api_Mem h fun t4 h =>
  runD (aB T_api_Mem t2 0) h fun t8 h =>
  runD (fitD aI (loadD h t8)) h fun t9 h =>
  runD (aB T_api_Mem t2 1) h fun t10 h =>
  runD (fitD aI (loadD h t10)) h fun t11 h =>
  callW false c.noS (.fn (.func 34) [] []) [t11] h (fun t12 h =>
  runD (buildD T_api_Mem [(0, t9), (1, t12)]) h fun t13 h =>
  allocW T_api_Mem h fun t5 h =>
  runH (storeH T_api_Mem h t5 t13) h fun _ h =>
  runD (aB T_api_Mem t2 2) h fun t14 h =>
  runD (fitD bG (loadD h t14)) h fun t15 h =>
  runD (lenD bG h t15) h fun t16 h =>
  joinW (fun (J1 : AV → AV → List AObj → Prop) =>
  promV [false] [(.int .i64 0)] (boxH [t5] h) fun lv h => eC.L1 c J1 K (AV.norms h.length h lv) (normH h.length h) h.length (AV.norm h.length h t1) (AV.norm h.length h t4) (AV.norm h.length h t5) (AV.norm h.length h t15) (AV.norm h.length h t16))
  (fun t4 t5 h => runD (fitD T_api_Mem (loadD h t5)) h fun t38 h =>
  runH (storeH T_api_Mem h t4 t38) h fun _ h =>
  loadRes (fitD T_api_Mem (loadD h t4)) fun r0 => K (.ret r0) h))
  (fun _ _ => False)
def dF.loops : Nat → LInfo
  | _ => ⟨[], [], [], [], [], []⟩
def dF.H (c : Ctx) (t0 : AV) (h : List AObj) (K : AOut → List AObj → Prop) : Prop :=
  boxW bZ t0 h fun t1 h =>
  runD (aB bZ t1 2) h fun t3 h =>
  runD (fitD T_bool (loadD h t3)) h fun t4 h =>
  K (.ret t4) h
def eD.loops : Nat → LInfo
  | 1 => ⟨[9], [false], [0, 2, 7, 8], [], [], []⟩
  | 3 => ⟨[], [], [], [(6, none), (4, some [19, 23])], [], []⟩
  | _ => ⟨[], [], [], [], [], []⟩
def eD.L1 (c : Ctx) (J1 : List AObj → Prop) (K : AOut → List AObj → Prop) (lv : List AV) (h0 : List AObj) (n0 : Nat) (c0 : AV) (c2 : AV) (c7 : AV) (c8 : AV) : Prop :=
  ∃ I : Nat → List AV → List AObj → Prop, (∃ n, I n lv h0) ∧ ∀ n h, ∀ t9, I n [t9] h →
    runD (binD T_int .lss t9 c8) h fun t10 h =>
    condW t10
    (runD (aF bG h c7 t9) h fun t12 h =>
    runD (fitD bZ (loadD h t12)) h fun t13 h =>
    allocW bZ h fun t5 h =>
    runH (storeH bZ h t5 t13) h fun _ h =>
    runD (aB bZ t5 0) h fun t14 h =>
    runD (fitD T_int (loadD h t14)) h fun t15 h =>
    runD (binD T_int .quo t15 (.int .i64 8)) h fun t16 h =>
    runD (fitD T_int (loadD h c2)) h fun t17 h =>
    runD (binD T_int .eql t16 t17) h fun t18 h =>
    joinW (fun (J2 : AV → AV → List AObj → Prop) =>
    guardW t18 true
    (callW false c c0 [t9] h (fun t22 h =>
      runD (unD .not t22) h fun t23 h =>
      J2 (.bool true) t23 h)
      (fun v h => K (.pan v) h))
    (J2 (.bool false) .und h))
    (fun t19 t23 h => runD (pickD t19 t23 (.bool false)) h fun t24 h =>
    condW t24
    (K (.ret (.tup [])) h)
    (runD (binD T_int .add t9 (.int .i64 1)) h fun t25 h =>
    (∃ m, m < n ∧ I m (AV.norms n0 h [t25]) (normH n0 h)) ∧ AV.norms n0 h [c0, c2, c7, c8] = [c0, c2, c7, c8])))
    (J1 h)
def eD.H (c : Ctx) (t0 : AV) (t1 : AV) (t2 : AV) (h : List AObj) (K : AOut → List AObj → Prop) : Prop :=
  runD (aB T_api_Mem t1 2) h fun t6 h =>
  runD (fitD bG (loadD h t6)) h fun t7 h =>
  runD (lenD bG h t7) h fun t8 h =>
  joinW (fun (J1 : List AObj → Prop) =>
  promV [false] [(.int .i64 0)] h fun lv h => eD.L1 c J1 K (AV.norms h.length h lv) (normH h.length h) h.length (AV.norm h.length h t0) (AV.norm h.length h t2) (AV.norm h.length h t7) (AV.norm h.length h t8))
  (fun h => K (.ret (.tup [])) h)
theorem cN.eq (F : List (FuncId × aD)) (S : List (FuncId × Con)) (t0 : AV) (h : List AObj) (K : AOut → List AObj → Prop) : funW (ctx F S cN.loops) Tryz.f13 [t0] h K = cN.H (ctx F S cN.loops) t0 h K := by kernel_rfl
theorem fH.eq (F : List (FuncId × aD)) (S : List (FuncId × Con)) (t0 : AV) (h : List AObj) (K : AOut → List AObj → Prop) : funW (ctx F S fH.loops) Tryz.f28 [t0] h K = fH.H (ctx F S fH.loops) t0 h K := by kernel_rfl
theorem dZ.eq (F : List (FuncId × aD)) (S : List (FuncId × Con)) (t0 : AV) (h : List AObj) (K : AOut → List AObj → Prop) : funW (ctx F S dZ.loops) Tryz.f33 [t0] h K = dZ.H (ctx F S dZ.loops) t0 h K := by kernel_rfl
theorem fI.eq (F : List (FuncId × aD)) (S : List (FuncId × Con)) (t0 t1 t2 : AV) (h : List AObj) (K : AOut → List AObj → Prop) : funW (ctx F S fI.loops) Tryz.f148 [t0, t1, t2] h K = fI.H (ctx F S fI.loops) t0 t1 t2 h K := by kernel_rfl
theorem eO.eq (F : List (FuncId × aD)) (S : List (FuncId × Con)) (Is : List (FuncId × (Con → Con))) (t0 t1 : AV) (h : List AObj) (K : AOut → List AObj → Prop) : funW (ctxI F S Is eO.loops) Tryz.f149 [t0, t1] h K = eO.H (ctxI F S Is eO.loops) t0 t1 h K := by kernel_rfl
theorem eP.eq (F : List (FuncId × aD)) (S : List (FuncId × Con)) (t0 : AV) (h : List AObj) (K : AOut → List AObj → Prop) : funW (ctx F S eP.loops) Tryz.f150 [t0] h K = eP.H (ctx F S eP.loops) t0 h K := by kernel_rfl
theorem eA.eq (F : List (FuncId × aD)) (S : List (FuncId × Con)) (t0 t1 : AV) (h : List AObj) (K : AOut → List AObj → Prop) : funW (ctx F S eA.loops) Tryz.f152 [t0, t1] h K = eA.H (ctx F S eA.loops) t0 t1 h K := by kernel_rfl
theorem eZ.eq (F : List (FuncId × aD)) (S : List (FuncId × Con)) (t0 t1 : AV) (h : List AObj) (K : AOut → List AObj → Prop) : funW (ctx F S eZ.loops) Tryz.f154 [t0, t1] h K = eZ.H (ctx F S eZ.loops) t0 t1 h K := by kernel_rfl
theorem pmem_of.eq (F : List (FuncId × aD)) (S : List (FuncId × Con)) (t0 t1 : AV) (h : List AObj) (K : AOut → List AObj → Prop) : funW (ctx F S pmem_of.loops) Tryz.f156 [t0, t1] h K = pmem_of.H (ctx F S pmem_of.loops) t0 t1 h K := by kernel_rfl
theorem eC.eq (F : List (FuncId × aD)) (S : List (FuncId × Con)) (t0 t1 : AV) (h : List AObj) (K : AOut → List AObj → Prop) : funW (ctx F S eC.loops) Tryz.f157 [t0, t1] h K = eC.H (ctx F S eC.loops) t0 t1 h K := by kernel_rfl
theorem dF.eq (F : List (FuncId × aD)) (S : List (FuncId × Con)) (t0 : AV) (h : List AObj) (K : AOut → List AObj → Prop) : funW (ctx F S dF.loops) Tryz.f158 [t0] h K = dF.H (ctx F S dF.loops) t0 h K := by kernel_rfl
theorem eD.eq (F : List (FuncId × aD)) (S : List (FuncId × Con)) (l : Nat) (Y : Con) (t0 t1 t2 : AV) (h : List AObj) (K : AOut → List AObj → Prop) : funW ((ctx F S eD.loops).withY l Y) Tryz.f159 [t0, t1, t2] h K = eD.H ((ctx F S eD.loops).withY l Y) t0 t1 t2 h K := by kernel_rfl
theorem cN.at : Tryz.prog.funcs[13]? = some Tryz.f13 := by kernel_rfl
theorem cN.nm : (Tryz.f13.name == "runtime.NumGoroutine") = false := by kernel_rfl
theorem cN.bd : Tryz.f13.body.isNone = false := by kernel_rfl
theorem fH.at : Tryz.prog.funcs[28]? = some Tryz.f28 := by kernel_rfl
theorem fH.nm : (Tryz.f28.name == "runtime.NumGoroutine") = false := by kernel_rfl
theorem fH.bd : Tryz.f28.body.isNone = false := by kernel_rfl
theorem dZ.at : Tryz.prog.funcs[33]? = some Tryz.f33 := by kernel_rfl
theorem dZ.nm : (Tryz.f33.name == "runtime.NumGoroutine") = false := by kernel_rfl
theorem dZ.bd : Tryz.f33.body.isNone = false := by kernel_rfl
theorem fI.at : Tryz.prog.funcs[148]? = some Tryz.f148 := by kernel_rfl
theorem fI.nm : (Tryz.f148.name == "runtime.NumGoroutine") = false := by kernel_rfl
theorem fI.bd : Tryz.f148.body.isNone = false := by kernel_rfl
theorem eO.at : Tryz.prog.funcs[149]? = some Tryz.f149 := by kernel_rfl
theorem eO.nm : (Tryz.f149.name == "runtime.NumGoroutine") = false := by kernel_rfl
theorem eO.bd : Tryz.f149.body.isNone = false := by kernel_rfl
theorem eP.at : Tryz.prog.funcs[150]? = some Tryz.f150 := by kernel_rfl
theorem eP.nm : (Tryz.f150.name == "runtime.NumGoroutine") = false := by kernel_rfl
theorem eP.bd : Tryz.f150.body.isNone = false := by kernel_rfl
theorem eA.at : Tryz.prog.funcs[152]? = some Tryz.f152 := by kernel_rfl
theorem eA.nm : (Tryz.f152.name == "runtime.NumGoroutine") = false := by kernel_rfl
theorem eA.bd : Tryz.f152.body.isNone = false := by kernel_rfl
theorem eZ.at : Tryz.prog.funcs[154]? = some Tryz.f154 := by kernel_rfl
theorem eZ.nm : (Tryz.f154.name == "runtime.NumGoroutine") = false := by kernel_rfl
theorem eZ.bd : Tryz.f154.body.isNone = false := by kernel_rfl
theorem pmem_of.at : Tryz.prog.funcs[156]? = some Tryz.f156 := by kernel_rfl
theorem pmem_of.nm : (Tryz.f156.name == "runtime.NumGoroutine") = false := by kernel_rfl
theorem pmem_of.bd : Tryz.f156.body.isNone = false := by kernel_rfl
theorem eC.at : Tryz.prog.funcs[157]? = some Tryz.f157 := by kernel_rfl
theorem eC.nm : (Tryz.f157.name == "runtime.NumGoroutine") = false := by kernel_rfl
theorem eC.bd : Tryz.f157.body.isNone = false := by kernel_rfl
theorem dF.at : Tryz.prog.funcs[158]? = some Tryz.f158 := by kernel_rfl
theorem dF.nm : (Tryz.f158.name == "runtime.NumGoroutine") = false := by kernel_rfl
theorem dF.bd : Tryz.f158.body.isNone = false := by kernel_rfl
theorem eD.at : Tryz.prog.funcs[159]? = some Tryz.f159 := by kernel_rfl
theorem eD.nm : (Tryz.f159.name == "runtime.NumGoroutine") = false := by kernel_rfl
theorem eD.bd : Tryz.f159.body.isNone = false := by kernel_rfl
end Lam
namespace Lam
open Go Go.Proofs
set_option linter.unusedVariables false
set_option linter.unnecessarySimpa false
set_option linter.unusedSimpArgs false
def dZ.C : aD
  | [.int .i64 n] => some (false, pD True (.bool (szB n)))
  | _ => none
set_option maxRecDepth 20000 in
theorem dZ.spec : FSpec Tryz.prog 33 dZ.C := by
  refine FSpec.of (ctx_ok (F := []) (S := []) (by simp) (by simp) dZ.loops) dZ.at dZ.nm dZ.bd ?_
  intro vs b S v news e hS
  unfold dZ.C at e
  split at e
  rotate_left
  · cases e
  cases e
  rw [dZ.eq]
  unfold dZ.H
  simp (maxSteps := 4000000) only [go_sem, Nat.reduceEqDiff, Nat.reduceLT, Nat.reduceAdd, Nat.reduceSub, Nat.reduceLeDiff, List.reduceReplicate, Int.reduceToNat]
  exact ⟨fun _ => by decide, aH rfl rfl⟩

def aT.C : aD
  | [.sl _ (.ints .i64 l)] => some (true, some (roomy l.length, .sref false 0 0 0 l.length, [.row .own 0 (.ints .i64 l)]))
  | _ => none
set_option maxRecDepth 20000 in
theorem aT.spec : FSpec Tryz.prog 34 aT.C := by
  refine FSpec.of (ctx_ok (F := []) (S := []) (by simp) (by simp) aT.loops) aT.at aT.nm aT.bd ?_
  intro vs b S v news e hS
  unfold aT.C at e
  split at e
  rotate_left
  · cases e
  cases e
  rw [aT.eq]
  unfold aT.H
  simp (maxSteps := 4000000) only [go_sem, Nat.reduceEqDiff, Nat.reduceLT, Nat.reduceAdd, Nat.reduceSub, Nat.reduceLeDiff, List.reduceReplicate, Int.reduceToNat]
  rename_i l
  intro b hb
  refine ⟨fun h => ?_, fun h => ⟨hS, wS rfl (by simp)⟩⟩
  have : l = [] := List.eq_nil_of_length_eq_zero (hb h)
  subst this
  exact wT rfl
def aV.C : aD
  | [.sl _ (.pends l)] => some (true, some (roomy l.length, .sref false 0 0 0 l.length, [.row .own 0 (.pends l)]))
  | _ => none
set_option maxRecDepth 20000 in
theorem aV.spec : FSpec Tryz.prog 155 aV.C := by
  refine FSpec.of (ctx_ok (F := []) (S := []) (by simp) (by simp) aV.loops) aV.at aV.nm aV.bd ?_
  intro vs b S v news e hS
  unfold aV.C at e
  split at e
  rotate_left
  · cases e
  cases e
  rw [aV.eq]
  unfold aV.H
  simp (maxSteps := 4000000) only [go_sem, Nat.reduceEqDiff, Nat.reduceLT, Nat.reduceAdd, Nat.reduceSub, Nat.reduceLeDiff, List.reduceReplicate, Int.reduceToNat]
  rename_i l
  intro b hb
  refine ⟨fun h => ?_, fun h => ⟨hS, wS rfl (by simp)⟩⟩
  have : l = [] := List.eq_nil_of_length_eq_zero (hb h)
  subst this
  exact wT rfl
def aW.C : aD
  | [.sl _ (.pends l)] => some (false, pD True (.sl true (.pends l)))
  | _ => none
set_option maxRecDepth 20000 in
theorem aW.spec : FSpec Tryz.prog 153 aW.C := by
  refine FSpec.of (ctx_ok (F := []) (S := []) (by simp) (by simp) aW.loops) aW.at aW.nm aW.bd ?_
  intro vs b S v news e hS
  unfold aW.C at e
  split at e
  rotate_left
  · cases e
  cases e
  rw [aW.eq]
  unfold aW.H
  simp (maxSteps := 4000000) only [go_sem, Nat.reduceEqDiff, Nat.reduceLT, Nat.reduceAdd, Nat.reduceSub, Nat.reduceLeDiff, List.reduceReplicate, Int.reduceToNat]
  exact ⟨by omega, aAX rfl⟩
def bI.C : aD
  | [.sl _ (.ints .i64 a), .sl _ (.ints .i64 b)] => some (false, pD (roomy a.length) (.bool (decide (a = b))))
  | _ => none
set_option maxRecDepth 20000 in
theorem bI.spec : FSpec Tryz.prog 35 bI.C := by
  refine FSpec.of (ctx_ok (F := []) (S := []) (by simp) (by simp) bI.loops) bI.at bI.nm bI.bd ?_
  intro vs b S v news e hS
  unfold bI.C at e
  split at e
  rotate_left
  · cases e
  cases e
  rw [bI.eq]
  unfold bI.H
  simp (maxSteps := 4000000) only [go_sem, Nat.reduceEqDiff, Nat.reduceLT, Nat.reduceAdd, Nat.reduceSub, Nat.reduceLeDiff, List.reduceReplicate, Int.reduceToNat]
  rename_i a _ b
  unfold roomy at hS
  refine ⟨fun hne => ?_, fun heq => ?_⟩
  · have : decide (a = b) = false := by rw [decide_eq_false_iff_not]; rintro rfl; exact hne rfl
    rw [this]; exact aH rfl rfl
  rw [aA]
  unfold bI.L1
  have hlen : a.length = b.length := by omega
  refine ⟨fun m lv h' => ∃ k : Nat, k + m = a.length ∧ lv = [.int .i64 k] ∧ h' = [] ∧ ∀ i, i < k → a.getD i 0 = b.getD i 0, ⟨a.length, 0, by omega, rfl, rfl, fun i hi => by omega⟩, ?_⟩
  rintro m h' t8 ⟨k, hk, hlv, rfl, hall⟩
  simp only [List.cons.injEq, and_true] at hlv
  subst hlv
  simp only [go_sem, Nat.reduceEqDiff, Nat.reduceLT, Nat.reduceAdd, Nat.reduceSub, Nat.reduceLeDiff, List.reduceReplicate, Int.reduceToNat]
  refine ⟨fun hlt => ⟨by omega, by omega, fun h0 => ?_, fun h0 => ?_⟩, fun hge => ?_⟩
  · have : decide (a = b) = false := by rw [decide_eq_false_iff_not]; rintro rfl; exact h0 rfl
    rw [this]; exact aH rfl rfl
  · refine ⟨m - 1, by omega, k + 1, by omega, by rw [w64 (by omega) (by omega)]; rfl, ?_⟩
    intro i hi
    by_cases e : i = k
    · subst e; exact h0
    · exact hall i (by omega)
  · have : a = b := by
      apply List.ext_getElem hlen
      intro i h1 h2
      have := hall i (by omega)
      rw [List.getD_eq_getElem?_getD, List.getD_eq_getElem?_getD, List.getElem?_eq_getElem h1, List.getElem?_eq_getElem h2] at this
      exact this
    rw [decide_eq_true this]; exact aH rfl rfl

def cN.C : aD
  | [.agg [.sl false (.ints .i64 vol), .sl false (.ints .i64 per), .sl false (.pends pend)]] => some (false, pD (smallM vol per pend) (.bool (checkB vol per pend)))
  | _ => none
set_option maxRecDepth 20000 in
theorem cN.spec : FSpec Tryz.prog 13 cN.C := by
  refine FSpec.of (ctx_ok (F := [(33, dZ.C), (34, aT.C), (35, bI.C)]) (S := []) (by simpa using ⟨dZ.spec, aT.spec, bI.spec⟩) (by simp) cN.loops) cN.at cN.nm cN.bd ?_
  intro vs b S v news e hS
  unfold cN.C at e
  split at e
  rotate_left
  · cases e
  cases e
  rw [cN.eq]
  unfold cN.H
  simp (maxSteps := 4000000) only [go_sem, Nat.reduceEqDiff, Nat.reduceLT, Nat.reduceAdd, Nat.reduceSub, Nat.reduceLeDiff, List.reduceReplicate, Int.reduceToNat, dZ.C, aT.C, bI.C]
  rename_i vol per pend
  obtain ⟨r1, r2, r3⟩ := hS
  unfold roomy at r1 r2 r3
  refine ⟨fun hb => ?_, fun hb => ⟨r2, ?_⟩⟩
  · have : checkB vol per pend = false := by
      unfold checkB
      rw [Bool.or_eq_true] at hb
      rcases hb with hb | hb
      · have : ¬ vol.length = per.length := by
          intro h; rw [h] at hb; simp at hb
        simp [this]
      · have : szB vol.length = false := by simpa using hb
        simp [this]
    rw [this]; exact aH rfl rfl
  rw [Bool.or_eq_false_iff] at hb
  have hlen : vol.length = per.length := by
    have := hb.1
    rw [Bool.not_eq_false', decide_eq_true_eq] at this
    omega
  have hsz : szB vol.length = true := by simpa using hb.2
  have hcheck : checkB vol per pend = decide (chk pend per (fun _ => false) = some vol) := by unfold checkB; rw [hsz, decide_eq_true hlen]; simp
  rw [hcheck, aA]
  unfold cN.L1
  refine ⟨fun m lv h' => ∃ (k : Nat) (l : List Int) (o : Int → Bool), k + m = pend.length ∧ lv = [.int .i64 k] ∧ l.length = per.length ∧ chk pend per (fun _ => false) = chk (pend.drop k) l o ∧
      h' = [.box (.agg [.sl false (.ints .i64 vol), .sl false (.ints .i64 per), .sl false (.pends pend)]), .row .own 0 (.ints .i64 l), .map (.ib o)],
    ⟨pend.length, 0, per, fun _ => false, by omega, rfl, rfl, rfl, rfl⟩, ?_⟩
  rintro m h' t28 ⟨k, l, o, hk, hlv, hll, hchk, rfl⟩
  simp only [List.cons.injEq, and_true] at hlv
  subst hlv
  simp only [go_sem, Nat.reduceEqDiff, Nat.reduceLT, Nat.reduceAdd, Nat.reduceSub, Nat.reduceLeDiff, List.reduceReplicate, Int.reduceToNat, hll, encPend]
  refine ⟨fun hlt => ⟨by omega, ?_⟩, fun hge => ?_⟩
  · have hkl : k < pend.length := by omega
    have hd : pend.drop k = pend.getD k ⟨0, 0, false⟩ :: pend.drop (k + 1) := by
      rw [List.getD_eq_getElem?_getD, List.getElem?_eq_getElem hkl, List.drop_eq_getElem_cons hkl]; rfl
    generalize pend.getD k ⟨0, 0, false⟩ = p at *
    have hch : chk (pend.drop k) l o = match badB p l.length o with
      | true => none
      | false => chk (pend.drop (k + 1)) (l.set p.at_.toNat p.val) (opens p o) := by rw [hd]; rfl
    rw [hll] at hch
    refine ⟨fun _ _ => by decide, fun hbad => ?_, fun hok => ?_⟩
    · have : badB p per.length o = true := hbad
      rw [this] at hch
      rw [hchk, hch]; exact aH rfl rfl
    · have hb2 : badB p per.length o = false := hok
      rw [hb2] at hch
      simp only [badB, Bool.or_eq_false_iff, decide_eq_false_iff_not] at hb2
      refine ⟨by decide, by decide, by omega, by omega, m - 1, by omega, k + 1, _, opens p o, by omega, by rw [w64 (by omega) (by omega)]; rfl, ?_, by rw [hchk]; exact hch, rfl⟩
      rw [List.length_set]; exact hll
  · have : k = pend.length := by omega
    subst this
    rw [List.drop_length] at hchk
    have hl : l.take per.length = l := List.take_of_length_le (by omega)
    simp only [hl, go_sem, Nat.reduceEqDiff, Nat.reduceLT, Nat.reduceAdd, Nat.reduceSub, Nat.reduceLeDiff, List.reduceReplicate, Int.reduceToNat, bI.C]
    refine ⟨by unfold roomy; omega, ?_⟩
    rw [hchk]
    have : decide (chk [] l o = some vol) = decide (l = vol) := by simp [chk]
    rw [this]; exact aH rfl rfl
def eA.C : aD
  | [.agg [.sl false (.ints .i64 vol), .sl false (.ints .i64 per), .sl false (.pends pend)], .int .i64 at_] => some (false, pD (smallM vol per pend) (.bool (placeB vol per pend at_)))
  | _ => none
set_option maxRecDepth 20000 in
theorem eA.spec : FSpec Tryz.prog 152 eA.C := by
  refine FSpec.of (ctx_ok (F := [(13, cN.C)]) (S := []) (by simpa using cN.spec) (by simp) eA.loops) eA.at eA.nm eA.bd ?_
  intro vs b S v news e hS
  unfold eA.C at e
  split at e
  rotate_left
  · cases e
  cases e
  rw [eA.eq]
  unfold eA.H
  simp (maxSteps := 4000000) only [go_sem, Nat.reduceEqDiff, Nat.reduceLT, Nat.reduceAdd, Nat.reduceSub, Nat.reduceLeDiff, List.reduceReplicate, Int.reduceToNat, cN.C]
  exact ⟨fun _ => hS, aH rfl rfl⟩
def eZ.C : aD
  | [.agg [.sl false (.ints .i64 vol), .sl false (.ints .i64 per), .sl false (.pends pend)], .int .i64 line] => some (false, pD (roomy vol.length) (.int .i64 (firstI vol line)))
  | _ => none
set_option maxRecDepth 20000 in
theorem eZ.spec : FSpec Tryz.prog 154 eZ.C := by
  refine FSpec.of (ctx_ok (F := []) (S := []) (by simp) (by simp) eZ.loops) eZ.at eZ.nm eZ.bd ?_
  intro vs b S v news e hS
  unfold eZ.C at e
  split at e
  rotate_left
  · cases e
  cases e
  rw [eZ.eq]
  unfold eZ.H
  simp (maxSteps := 4000000) only [go_sem, Nat.reduceEqDiff, Nat.reduceLT, Nat.reduceAdd, Nat.reduceSub, Nat.reduceLeDiff, List.reduceReplicate, Int.reduceToNat]
  rename_i vol per pend line
  unfold roomy at hS
  have e : IntKind.i64.wrap ((vol.length : Int).tdiv 8) = ((vol.length / 8 : Nat) : Int) := by rw [tdiv8]; exact w64 (by omega) (by omega)
  rw [e]
  refine ⟨fun _ => by decide, fun hb => ?_, fun hb => ?_⟩
  · unfold firstI; rw [if_pos hb]; exact aH rfl rfl
  · have h2 := hb
    rw [Bool.or_eq_false_iff, decide_eq_false_iff_not, decide_eq_false_iff_not] at h2
    rw [w64 (by omega) (by omega)]
    unfold firstI; rw [hb]; exact aH rfl rfl
def fI.C : aD
  | [.agg [.sl false (.ints .i64 vol), .sl false (.ints .i64 per), .sl false (.pends pend)], .int .i64 at_, .int .i64 val] => some (false, pD (smallM vol per pend ∧ roomy (pend.length + 1)) (putM vol per pend at_ val))
  | _ => none
set_option maxRecDepth 20000 in
theorem fI.spec : FSpec Tryz.prog 148 fI.C := by
  refine FSpec.of (ctx_ok (F := [(152, eA.C), (153, aW.C)]) (S := []) (by simpa using ⟨eA.spec, aW.spec⟩) (by simp) fI.loops) fI.at fI.nm fI.bd ?_
  intro vs b S v news e hS
  unfold fI.C at e
  split at e
  rotate_left
  · cases e
  cases e
  rw [fI.eq]
  unfold fI.H
  simp (maxSteps := 4000000) only [go_sem, Nat.reduceEqDiff, Nat.reduceLT, Nat.reduceAdd, Nat.reduceSub, Nat.reduceLeDiff, List.reduceReplicate, Int.reduceToNat, eA.C, aW.C]
  rename_i vol per pend at_ val
  obtain ⟨hS, hr⟩ := hS
  refine ⟨hS, fun hb => ?_, fun hb => ?_⟩
  · unfold putM; rw [hb]; exact aH rfl rfl
  · have hp : 0 ≤ at_ ∧ at_ < (vol.length : Int) := by
      simp only [placeB, Bool.and_eq_true, decide_eq_true_eq] at hb
      exact hb.1
    have e : vol ++ List.take (vol.length - min vol.length vol.length) (List.drop (min vol.length vol.length) (List.replicate vol.length 0)) = vol := by simp
    rw [e]
    have hl : (pend ++ [(⟨at_, val, false⟩ : Pend)]).length = pend.length + 1 := by simp
    rw [hl]
    refine ⟨⟨by omega, by omega, hS.1⟩, hp, by omega, hr, rfl, ?_⟩
    unfold putM
    simp only [hb, if_true]
    refine aH ?_ rfl
    have t1 : (vol.set at_.toNat val).take vol.length = vol.set at_.toNat val := List.take_of_length_le (by simp)
    have t2 : (pend ++ [(⟨at_, val, false⟩ : Pend)]).take (pend.length + 1) = pend ++ [(⟨at_, val, false⟩ : Pend)] := List.take_of_length_le (by simp)
    simp only [go_sem, Nat.reduceEqDiff, Nat.reduceLT, Nat.reduceAdd, Nat.reduceSub, Nat.reduceLeDiff, List.reduceReplicate, Int.reduceToNat, memV, t1, t2]
def eD.I : Con → Con := fun Y args h K => match args with
  | [.fn (.yield l) [] [], a0, a1] => eD.H ((ctx [] [] eD.loops).withY l Y) (.fn (.yield l) [] []) a0 a1 h K
  | _ => False
theorem eD.spec : ISpec Tryz.prog 159 eD.I := by
  refine ISpec.of (ctx_ok (F := []) (S := []) (by simp) (by simp) eD.loops).toOkI eD.at eD.nm eD.bd ?_
  intro Yc l cap h K hC
  unfold eD.I at hC
  split at hC
  · rename_i e
    simp only [List.cons.injEq, AV.fn.injEq, Fn.yield.injEq, and_true, true_and] at e
    obtain ⟨rfl, rfl⟩ := e
    rw [eD.eq]; exact hC
  · exact hC.elim
def pmem_of.K : Con := fun args h K => match args with
  | [a0, a1] => pmem_of.H (ctx [] [] pmem_of.loops) a0 a1 h K
  | _ => False
theorem pmem_of.spec : SSpec Tryz.prog 156 pmem_of.K := by
  refine SSpec.of (ctx_ok (F := []) (S := []) (by simp) (by simp) pmem_of.loops) pmem_of.at pmem_of.nm pmem_of.bd ?_
  intro args h K hC
  unfold pmem_of.K at hC
  split at hC
  · rw [pmem_of.eq]; exact hC
  · exact hC.elim
def eO.C : aD
  | [.agg [.sl false (.ints .i64 vol), .sl false (.ints .i64 per), .sl false (.pends pend)], .int .i64 line] => some (false, pD (smallM vol per pend) (flushM vol per pend line))
  | _ => none
set_option maxRecDepth 20000 in
theorem eO.spec : FSpec Tryz.prog 149 eO.C := by
  refine FSpec.of (ctxI_ok (F := [(152, eA.C), (154, eZ.C), (155, aV.C)]) (S := [(156, pmem_of.K)]) (Is := [(159, eD.I)]) (by simpa using ⟨eA.spec, eZ.spec, aV.spec⟩) (by simpa using pmem_of.spec) (by simpa using eD.spec) eO.loops) eO.at eO.nm eO.bd ?_
  intro vs b S v news e hS
  unfold eO.C at e
  split at e
  rotate_left
  · cases e
  cases e
  rw [eO.eq]
  unfold eO.H
  simp (maxSteps := 4000000) only [go_sem, Nat.reduceEqDiff, Nat.reduceLT, Nat.reduceAdd, Nat.reduceSub, Nat.reduceLeDiff, List.reduceReplicate, Int.reduceToNat, eA.C, eZ.C, aV.C, pmem_of.K, pmem_of.H, eD.I, eD.H, aA]
  rename_i vol per pend line
  refine ⟨hS.1, hS, fun hb => ?_, fun hb => ⟨hS.2.2, ?_⟩⟩
  · unfold flushM; rw [hb]; exact aH rfl rfl
  intro l r
  obtain ⟨s1, s2, s3⟩ := hS
  unfold roomy at s1 s2 s3
  unfold eD.L1
  refine ⟨fun m lv h' => ∃ k : Nat, k + m = pend.length ∧ lv = [.int .i64 k] ∧ h' = [.box (.agg [.sl false (.ints .i64 vol), .sl false (.ints .i64 per), .sl false (.pends pend)]),
      .box (.agg [.sl false (.ints .i64 []), .sl false (.ints .i64 []), .sl false (.pends [])]), .row .own 0 (.pends (flushP line (pend.take k) ++ pend.drop k)), .box (.sref false 2 0 0 pend.length),
      .box (.agg [.sl false (.ints .i64 vol), .sl false (.ints .i64 per), .sl false (.pends pend)]), .box (.int .i64 line), .lp .ready none r],
    ⟨pend.length, 0, by omega, rfl, rfl⟩, ?_⟩
  rintro m h' t9 ⟨k, hk, hlv, rfl⟩
  simp only [List.cons.injEq, and_true] at hlv
  subst hlv
  have hlen : (flushP line (pend.take k) ++ pend.drop k).length = pend.length := by simp [flushP]; omega
  simp only [go_sem, Nat.reduceEqDiff, Nat.reduceLT, Nat.reduceAdd, Nat.reduceSub, Nat.reduceLeDiff, List.reduceReplicate, Int.reduceToNat, encPend, hlen]
  refine ⟨fun hlt => ?_, fun hge => ?_⟩
  · have hkl : k < pend.length := by omega
    have hget : (flushP line (pend.take k) ++ pend.drop k).getD k ⟨0, 0, false⟩ = pend.getD k ⟨0, 0, false⟩ := by
      rw [List.getD_eq_getElem?_getD, List.getElem?_append_right (by simp [flushP]; omega)]
      have e : k - (flushP line (pend.take k)).length = 0 := by simp [flushP]; omega
      rw [e, List.getElem?_drop, Nat.add_zero, List.getD_eq_getElem?_getD]
    have hdrop : pend.drop k = pend.getD k ⟨0, 0, false⟩ :: pend.drop (k + 1) := by
      rw [List.getD_eq_getElem?_getD, List.getElem?_eq_getElem hkl, List.drop_eq_getElem_cons hkl]; rfl
    have hset : ∀ q : Pend, (flushP line (pend.take k) ++ pend.drop k).set k q = flushP line (pend.take k) ++ q :: pend.drop (k + 1) := by
      intro q
      rw [hdrop, List.set_append_right _ _ (by simp [flushP]; omega)]
      have e : k - (flushP line (pend.take k)).length = 0 := by simp [flushP]; omega
      rw [e]; rfl
    have hnx : flushP line (pend.take (k + 1)) = flushP line (pend.take k) ++ [if lineOf (pend.getD k ⟨0, 0, false⟩).at_ = line then { pend.getD k ⟨0, 0, false⟩ with fl := true } else pend.getD k ⟨0, 0, false⟩] := by
      rw [gA pend k ⟨0, 0, false⟩ hkl]
      simp [flushP]
    rw [aA]
    simp only [iI, hget, hset]
    refine ⟨by omega, by decide, fun hc => ?_, fun hc => ?_⟩
    · have hc : lineOf (pend.getD k ⟨0, 0, false⟩).at_ = line := by simpa [lineOf] using hc
      simp only [go_sem, Nat.reduceEqDiff, Nat.reduceLT, Nat.reduceAdd, Nat.reduceSub, Nat.reduceLeDiff, List.reduceReplicate, Int.reduceToNat]
      refine ⟨⟨by omega, by omega⟩, hkl, m - 1, by omega, k + 1, by omega, by rw [w64 (by omega) (by omega)]; rfl, ?_⟩
      rw [hnx, if_pos hc, List.append_assoc]; rfl
    · have hc : ¬ lineOf (pend.getD k ⟨0, 0, false⟩).at_ = line := by simpa [lineOf] using hc
      simp only [go_sem, Nat.reduceEqDiff, Nat.reduceLT, Nat.reduceAdd, Nat.reduceSub, Nat.reduceLeDiff, List.reduceReplicate, Int.reduceToNat]
      refine ⟨m - 1, by omega, k + 1, by omega, by rw [w64 (by omega) (by omega)]; rfl, ?_⟩
      rw [hnx, if_neg hc, List.append_assoc, hdrop]; rfl
  · have : k = pend.length := by omega
    subst this
    rw [List.take_length, List.drop_length, List.append_nil] at hlen
    have e : flushP line (pend.take pend.length) ++ pend.drop pend.length = flushP line pend := by rw [List.take_length, List.drop_length, List.append_nil]
    rw [e]
    unfold flushM
    simp only [hb, if_true]
    refine aH ?_ rfl
    have t1 : (flushP line pend).take pend.length = flushP line pend := List.take_of_length_le (by omega)
    simp only [go_sem, Nat.reduceEqDiff, Nat.reduceLT, Nat.reduceAdd, Nat.reduceSub, Nat.reduceLeDiff, List.reduceReplicate, Int.reduceToNat, memV, t1]
def dF.C : aD
  | [.agg [.int .i64 a, .int .i64 v, .bool f]] => some (false, pD True (.bool f))
  | _ => none
set_option maxRecDepth 20000 in
theorem dF.spec : FSpec Tryz.prog 158 dF.C := by
  refine FSpec.of (ctx_ok (F := []) (S := []) (by simp) (by simp) dF.loops) dF.at dF.nm dF.bd ?_
  intro vs b S v news e hS
  unfold dF.C at e
  split at e
  rotate_left
  · cases e
  cases e
  rw [dF.eq]
  unfold dF.H
  simp (maxSteps := 4000000) only [go_sem, Nat.reduceEqDiff, Nat.reduceLT, Nat.reduceAdd, Nat.reduceSub, Nat.reduceLeDiff, List.reduceReplicate, Int.reduceToNat]
  exact aH rfl rfl
def eC.K : Con := fun args h K => match args with
  | [a0, a1] => eC.H (ctx [(34, aT.C), (158, dF.C)] [] eC.loops) a0 a1 h K
  | _ => False
theorem eC.spec : SSpec Tryz.prog 157 eC.K := by
  refine SSpec.of (ctx_ok (F := [(34, aT.C), (158, dF.C)]) (S := []) (by simpa using ⟨aT.spec, dF.spec⟩) (by simp) eC.loops) eC.at eC.nm eC.bd ?_
  intro args h K hC
  unfold eC.K at hC
  split at hC
  · rw [eC.eq]; exact hC
  · exact hC.elim

def eP.C : aD
  | [.agg [.sl false (.ints .i64 vol), .sl false (.ints .i64 per), .sl false (.pends pend)]] => some (false, pD (smallM vol per pend) (fenceM fFl (checkB vol per pend) vol per pend))
  | _ => none
set_option maxRecDepth 20000 in
theorem eP.spec : FSpec Tryz.prog 150 eP.C := by
  refine FSpec.of (ctx_ok (F := [(13, cN.C)]) (S := [(157, eC.K)]) (by simpa using cN.spec) (by simpa using eC.spec) eP.loops) eP.at eP.nm eP.bd ?_
  intro vs b S v news e hS
  unfold eP.C at e
  split at e
  rotate_left
  · cases e
  cases e
  rw [eP.eq]
  unfold eP.H
  simp (maxSteps := 4000000) only [go_sem, Nat.reduceEqDiff, Nat.reduceLT, Nat.reduceAdd, Nat.reduceSub, Nat.reduceLeDiff, List.reduceReplicate, Int.reduceToNat, cN.C, eC.K, eC.H, aT.C]
  rename_i vol per pend
  refine ⟨hS, fun hb => ?_, fun hb => ⟨hS.2.1, ?_⟩⟩
  · unfold fenceM; rw [hb]; exact aH rfl rfl
  obtain ⟨s1, s2, s3⟩ := hS
  unfold roomy at s1 s2 s3
  have hrange := yS hb
  rw [aA]
  unfold eC.L1
  refine ⟨fun m lv h' => ∃ k v : Nat, k + m = pend.length ∧ lv = [.int .i64 k] ∧ h' = [.box (.agg [.sl false (.ints .i64 vol), .sl false (.ints .i64 per), .sl false (.pends pend)]), .box (.agg [.sl false (.ints .i64 []), .sl false (.ints .i64 []), .sl false (.pends [])]), .box (.agg [.sl false (.ints .i64 vol), .sl false (.ints .i64 per), .sl false (.pends pend)]), .box (.agg [.sl false (.ints .i64 []), .sl false (.ints .i64 []), .sl false (.pends [])]), .row .own 0 (.ints .i64 (keepW fFl (pend.take k) per)), .box (.agg [.sl false (.ints .i64 vol), .sref false 4 0 0 per.length, .sref false 6 v 0 (keepP fFl (pend.take k)).length]), .row .own v (.pends (keepP fFl (pend.take k)))],
    ⟨pend.length, 0, 0, by omega, rfl, rfl⟩, ?_⟩
  rintro m h' t17 ⟨k, v, hk, hlv, rfl⟩
  simp only [List.cons.injEq, and_true] at hlv
  subst hlv
  have hwl : (keepW fFl (pend.take k) per).length = per.length := oX _ _ _
  have hpl : (keepP fFl (pend.take k)).length ≤ k := Nat.le_trans (List.length_filter_le _ _) (by simp; omega)
  simp only [go_sem, Nat.reduceEqDiff, Nat.reduceLT, Nat.reduceAdd, Nat.reduceSub, Nat.reduceLeDiff, List.reduceReplicate, Int.reduceToNat, encPend, hwl, dF.C]
  refine ⟨fun hlt => ?_, fun hge => ?_⟩
  · have hkl : k < pend.length := by omega
    have hr := hrange _ (gH pend k ⟨0, 0, false⟩ hkl)
    have hW := sT fFl (pend.getD k ⟨0, 0, false⟩) (pend.take k) per
    have hP := aAc fFl (pend.getD k ⟨0, 0, false⟩) (pend.take k)
    rw [← gA pend k ⟨0, 0, false⟩ hkl] at hW hP
    generalize pend.getD k ⟨0, 0, false⟩ = p at *
    try rw [aA]
    refine ⟨by omega, fun hc => ?_, fun hc => ?_⟩
    · have hc : fFl p = true := hc
      rw [hc] at hW hP
      simp only [go_sem, Nat.reduceEqDiff, Nat.reduceLT, Nat.reduceAdd, Nat.reduceSub, Nat.reduceLeDiff, List.reduceReplicate, Int.reduceToNat]
      refine ⟨hr, by omega, m - 1, by omega, k + 1, v, by omega, by rw [w64 (by omega) (by omega)]; rfl, ?_⟩
      rw [hW, hP]
    · have hc : fFl p = false := hc
      rw [hc] at hW hP
      simp only [go_sem, Nat.reduceEqDiff, Nat.reduceLT, Nat.reduceAdd, Nat.reduceSub, Nat.reduceLeDiff, List.reduceReplicate, Int.reduceToNat]
      refine ⟨by unfold roomy; simp; omega, m - 1, by omega, k + 1, v + 1, by omega, by rw [w64 (by omega) (by omega)]; rfl, ?_⟩
      rw [hW, hP]
  · have : k = pend.length := by omega
    subst this
    rw [List.take_length] at hwl hpl ⊢
    have t1 : (keepW fFl pend per).take per.length = keepW fFl pend per := List.take_of_length_le (by omega)
    have t2 : (keepP fFl pend).take (keepP fFl pend).length = keepP fFl pend := List.take_length
    unfold fenceM
    simp only [hb, if_true, go_sem, Nat.reduceEqDiff, Nat.reduceLT, Nat.reduceAdd, Nat.reduceSub, Nat.reduceLeDiff, List.reduceReplicate, Int.reduceToNat]
    refine aH ?_ rfl
    simp only [go_sem, Nat.reduceEqDiff, Nat.reduceLT, Nat.reduceAdd, Nat.reduceSub, Nat.reduceLeDiff, List.reduceReplicate, Int.reduceToNat, memV, t1, t2]

end Lam
namespace Lam
open Go Go.Proofs
set_option linter.unusedVariables false
set_option linter.unnecessarySimpa false
set_option linter.unusedSimpArgs false
def dU.C : aD
  | [.int .i64 n] => some (false, pD True (.bool (lt1 n)))
  | _ => none
set_option maxRecDepth 20000 in
theorem dU.spec : FSpec Tryz.prog 103 dU.C := by
  refine FSpec.of (ctx_ok (F := []) (S := []) (by simp) (by simp) dU.loops) dU.at dU.nm dU.bd ?_
  intro vs b S v news e hS
  unfold dU.C at e
  split at e
  rotate_left
  · cases e
  cases e
  rw [dU.eq]
  unfold dU.H
  simp (maxSteps := 4000000) only [go_sem, Nat.reduceEqDiff, Nat.reduceLT, Nat.reduceAdd, Nat.reduceSub, Nat.reduceLeDiff, List.reduceReplicate, Int.reduceToNat]
  exact aH rfl rfl
def dQ.C : aD
  | [.int .i64 n] => some (false, pD True (.bool (blockB n)))
  | _ => none
set_option maxRecDepth 20000 in
theorem dQ.spec : FSpec Tryz.prog 105 dQ.C := by
  refine FSpec.of (ctx_ok (F := []) (S := []) (by simp) (by simp) dQ.loops) dQ.at dQ.nm dQ.bd ?_
  intro vs b S v news e hS
  unfold dQ.C at e
  split at e
  rotate_left
  · cases e
  cases e
  rw [dQ.eq]
  unfold dQ.H
  simp (maxSteps := 4000000) only [go_sem, Nat.reduceEqDiff, Nat.reduceLT, Nat.reduceAdd, Nat.reduceSub, Nat.reduceLeDiff, List.reduceReplicate, Int.reduceToNat]
  exact aH rfl rfl
def dV.C : aD
  | [.int .i64 n] => some (false, pD True (.bool (noBlock n)))
  | _ => none
set_option maxRecDepth 20000 in
theorem dV.spec : FSpec Tryz.prog 107 dV.C := by
  refine FSpec.of (ctx_ok (F := [(105, dQ.C)]) (S := []) (by simpa using dQ.spec) (by simp) dV.loops) dV.at dV.nm dV.bd ?_
  intro vs b S v news e hS
  unfold dV.C at e
  split at e
  rotate_left
  · cases e
  cases e
  rw [dV.eq]
  unfold dV.H
  simp (maxSteps := 4000000) only [go_sem, Nat.reduceEqDiff, Nat.reduceLT, Nat.reduceAdd, Nat.reduceSub, Nat.reduceLeDiff, List.reduceReplicate, Int.reduceToNat, dQ.C]
  exact aH rfl rfl
theorem xF (c : Ctx) (hd : c.drawn = false) (f : FuncId) (p : Int → Bool) (hf : ∀ n, c.envF f [.int .i64 n] = some (false, pD True (.bool (p n)))) (x : Bool) (l : List Int) (hr : roomy l.length) :
    bB.H c (.sl x (.ints .i64 l)) (.fn (.func f) [] []) [] (Post false (.int .i64 (idxI p l)) []) := by
  unfold roomy at hr
  unfold bB.H
  simp only [go_sem, Nat.reduceEqDiff, Nat.reduceLT, Nat.reduceAdd, Nat.reduceSub, Nat.reduceLeDiff, List.reduceReplicate, Int.reduceToNat]
  rw [aA]
  unfold bB.L1
  refine loop1 (σ := Nat) (fun k => .int .i64 k) (fun k => []) (fun k => l.length - k) (fun k => k ≤ l.length ∧ ∀ y ∈ l.take k, p y = false) 0 rfl rfl ⟨Nat.zero_le _, by simp⟩ ?_
  rintro I back k ⟨hk, hall⟩
  simp only [hf, hd, go_sem, Nat.reduceEqDiff, Nat.reduceLT, Nat.reduceAdd, Nat.reduceSub, Nat.reduceLeDiff, List.reduceReplicate, Int.reduceToNat]
  refine ⟨fun hlt => ⟨by omega, fun h => ?_, fun h => ?_⟩, fun hge => ?_⟩
  · have hkl : k < l.length := by omega
    have h1 : l.any p = true := List.any_eq_true.2 ⟨_, gH l k 0 hkl, h⟩
    have h2 : l.findIdx p = k := by
      rw [List.findIdx_eq hkl]
      refine ⟨by rw [List.getD_eq_getElem?_getD, List.getElem?_eq_getElem hkl] at h; exact h, fun j hj => ?_⟩
      have := hall l[j] (List.mem_take_iff_getElem.2 ⟨j, by omega, rfl⟩)
      simpa using this
    unfold idxI; rw [if_pos h1, h2]
    exact aH rfl rfl
  · refine back (k + 1) (by omega) (by rw [wnext (by omega)]) rfl ⟨by omega, fun y hy => ?_⟩
    rw [gA l k 0 (by omega), List.mem_append, List.mem_singleton] at hy
    rcases hy with hy | rfl
    · exact hall y hy
    · exact h
  · obtain rfl : k = l.length := by omega
    rw [List.take_length] at hall
    have h1 : ¬ l.any p = true := by
      rw [List.any_eq_true]; rintro ⟨y, hy, hp⟩; rw [hall y hy] at hp; cases hp
    unfold idxI; rw [if_neg h1]
    exact aH rfl rfl
def predI (f : Nat) : Option (Int → Bool) :=
  if f = 103 then some lt1 else
  if f = 107 then some noBlock else
  none
@[go_sem] theorem aMI : predI 103 = some lt1 := rfl
@[go_sem] theorem aMJ : predI 107 = some noBlock := rfl
def bB.C : aD
  | [.sl _ (.ints .i64 l), .fn (.func f) [] []] => match predI f with
    | some p => some (false, pD (roomy l.length) (.int .i64 (idxI p l)))
    | none => none
  | _ => none
theorem bB.spec : FSpec Tryz.prog 102 bB.C := by
  refine FSpec.of (ctx_ok (F := [(103, dU.C), (107, dV.C)]) (S := []) (by simpa using ⟨dU.spec, dV.spec⟩) (by simp) bB.loops) bB.at bB.nm bB.bd ?_
  intro vs b S v news e hS
  unfold bB.C at e
  split at e
  rotate_left
  · cases e
  rw [bB.eq]
  rename_i x l f
  split at e
  rotate_left
  · cases e
  rename_i p hp
  cases e
  refine xF _ rfl f p (fun n => ?_) x l hS
  unfold predI at hp
  simp only [aCc]
  repeat' split at hp
  all_goals first | (rename_i h; subst h; cases hp; rfl) | cases hp
def bJ.C : aD
  | [.sl _ (.ints .i64 l), .fn (.func f) [] []] => match predI f with
    | some p => some (false, pD (roomy l.length) (.bool (l.any p)))
    | none => none
  | _ => none
theorem bJ.spec : FSpec Tryz.prog 106 bJ.C := by
  refine FSpec.of (ctx_ok (F := [(102, bB.C)]) (S := []) (by simpa using bB.spec) (by simp) bJ.loops) bJ.at bJ.nm bJ.bd ?_
  intro vs b S v news e hS
  unfold bJ.C at e
  split at e
  rotate_left
  · cases e
  rw [bJ.eq]
  rename_i x l f
  split at e
  rotate_left
  · cases e
  rename_i p hp
  cases e
  unfold bJ.H
  simp only [bB.C, hp, go_sem, Nat.reduceEqDiff, Nat.reduceLT, Nat.reduceAdd, Nat.reduceSub, Nat.reduceLeDiff, List.reduceReplicate, Int.reduceToNat]
  refine ⟨hS, ?_⟩
  have : decide (0 ≤ idxI p l) = l.any p := by
    unfold idxI
    cases h : l.any p
    · rfl
    · rw [if_pos rfl]; exact decide_eq_true (by omega)
  rw [this]; exact aH rfl rfl
end Lam
namespace Lam
open Go Go.Proofs
set_option linter.unusedVariables false
set_option linter.unnecessarySimpa false
set_option linter.unusedSimpArgs false
end Lam
namespace Lam
open Go Go.Proofs
set_option linter.unusedVariables false
def sum_Of.loops : Nat → LInfo
  | 4 => ⟨[4, 10], [false, false], [3, 8, 9], [], [], []⟩
  | _ => ⟨[], [], [], [], [], []⟩
def sum_Of.L1 (c : Ctx) (J1 : AV → List AObj → Prop) (K : AOut → List AObj → Prop) (lv : List AV) (h0 : List AObj) (n0 : Nat) (c3 : AV) (c8 : AV) (c9 : AV) : Prop :=
  ∃ I : Nat → List AV → List AObj → Prop, (∃ n, I n lv h0) ∧ ∀ n h, ∀ t4, ∀ t10, I n [t4, t10] h →
    runD (binD T_int .lss t10 c9) h fun t11 h =>
    condW t11
    (runD (aF aI h c8 t10) h fun t12 h =>
    runD (fitD T_int (loadD h t12)) h fun t13 h =>
    callW false c (.fn (.func 112) [] []) [c3, t4, t13] h (fun t16 h =>
    runD (binD T_int .add t10 (.int .i64 1)) h fun t17 h =>
    (∃ m, m < n ∧ I m (AV.norms n0 h [t16, t17]) (normH n0 h)) ∧ AV.norms n0 h [c3, c8, c9] = [c3, c8, c9])
    (fun v h => K (.pan v) h))
    (J1 t4 h)
def sum_Of.H (c : Ctx) (t0 : AV) (h : List AObj) (K : AOut → List AObj → Prop) : Prop :=
  callW false c (.fn (.func 111) [] []) [] h (fun t7 h =>
  allocW fY h fun t3 h =>
  runH (storeH fY h t3 t7) h fun _ h =>
  runD (lenD aI h t0) h fun t9 h =>
  joinW (fun (J1 : AV → List AObj → Prop) =>
  promV [false, false] [(.int .u32 4294967295), (.int .i64 0)] h fun lv h => sum_Of.L1 c J1 K (AV.norms h.length h lv) (normH h.length h) h.length (AV.norm h.length h t3) (AV.norm h.length h t0) (AV.norm h.length h t9))
  (fun t4 h => runD (unD .xor t4) h fun t19 h =>
  runD (convD h gE T_int t19) h fun t20 h =>
  K (.ret t20) h))
  (fun v h => K (.pan v) h)
def cY.loops : Nat → LInfo
  | 2 => ⟨[3], [false], [0], [], [], []⟩
  | 6 => ⟨[2, 8], [false, false], [0, 1, 3], [], [], []⟩
  | _ => ⟨[], [], [], [], [], []⟩
def cY.L2 (c : Ctx) (J3 : AV → AV → AV → AV → List AObj → Prop) (K : AOut → List AObj → Prop) (lv : List AV) (h0 : List AObj) (n0 : Nat) (c0 : AV) (c1 : AV) (c3 : AV) : Prop :=
  ∃ I : Nat → List AV → List AObj → Prop, (∃ n, I n lv h0) ∧ ∀ n h, ∀ t2, ∀ t8, I n [t2, t8] h →
    runD (binD T_int .lss t8 (.int .i64 8)) h fun t9 h =>
    condW t9
    (runD (binD gE .shr t2 (.int .u64 1)) h fun t11 h =>
    runD (binD gE .and t2 (.int .u32 1)) h fun t13 h =>
    runD (unD .neg t13) h fun t14 h =>
    runD (binD gE .and (.int .u32 3988292384) t14) h fun t15 h =>
    runD (binD gE .xor t11 t15) h fun t16 h =>
    runD (binD T_int .add t8 (.int .i64 1)) h fun t17 h =>
    (∃ m, m < n ∧ I m (AV.norms n0 h [t16, t17]) (normH n0 h)) ∧ AV.norms n0 h [c0, c1, c3] = [c0, c1, c3])
    (J3 c0 c1 t2 c3 h)
def cY.L1 (c : Ctx) (J1 : AV → List AObj → Prop) (K : AOut → List AObj → Prop) (lv : List AV) (h0 : List AObj) (n0 : Nat) (c0 : AV) : Prop :=
  ∃ I : Nat → List AV → List AObj → Prop, (∃ n, I n lv h0) ∧ ∀ n h, ∀ t3, I n [t3] h →
    runD (binD T_int .lss t3 (.int .i64 256)) h fun t4 h =>
    condW t4
    (joinW (fun (J2 : AV → AV → List AObj → Prop) =>
    runD (convD h T_int gE t3) h fun t7 h =>
    joinW (fun (J3 : AV → AV → AV → AV → List AObj → Prop) =>
    promV [false, false] [t7, (.int .i64 0)] h fun lv h => cY.L2 c J3 K (AV.norms h.length h lv) (normH h.length h) h.length (AV.norm h.length h c0) (AV.norm h.length h t3) (AV.norm h.length h t3))
    (fun t0 t1 t2 t3 h => runD (aF fY h t0 t1) h fun t20 h =>
    runH (storeH gE h t20 t2) h fun _ h =>
    J2 t0 t3 h))
    (fun t0 t3 h => runD (binD T_int .add t3 (.int .i64 1)) h fun t21 h =>
    (∃ m, m < n ∧ I m (AV.norms n0 h [t21]) (normH n0 h)) ∧ AV.norms n0 h [t0] = [c0]))
    (J1 c0 h)
def cY.H (c : Ctx) (h : List AObj) (K : AOut → List AObj → Prop) : Prop :=
  allocW fY h fun t0 h =>
  joinW (fun (J1 : AV → List AObj → Prop) =>
  promV [false] [(.int .i64 0)] h fun lv h => cY.L1 c J1 K (AV.norms h.length h lv) (normH h.length h) h.length (AV.norm h.length h t0))
  (fun t0 h => runD (fitD fY (loadD h t0)) h fun t22 h =>
  runH (storeH fY h t0 t22) h fun _ h =>
  loadRes (fitD fY (loadD h t0)) fun r0 => K (.ret r0) h)
def eU.loops : Nat → LInfo
  | 2 => ⟨[1, 7], [false, false], [0, 2], [], [], []⟩
  | _ => ⟨[], [], [], [], [], []⟩
def eU.L1 (c : Ctx) (J1 : AV → List AObj → Prop) (K : AOut → List AObj → Prop) (lv : List AV) (h0 : List AObj) (n0 : Nat) (c0 : AV) (c2 : AV) : Prop :=
  ∃ I : Nat → List AV → List AObj → Prop, (∃ n, I n lv h0) ∧ ∀ n h, ∀ t1, ∀ t7, I n [t1, t7] h →
    runD (binD T_int .geq t7 (.int .i64 0)) h fun t9 h =>
    condW t9
    (runD (convD h T_int gN c2) h fun t15 h =>
    runD (binD gN .shr t15 t7) h fun t17 h =>
    runD (convD h gN T_uint8 t17) h fun t18 h =>
    callW false c (.fn (.func 122) [] []) [c0, t1, t18] h (fun t19 h =>
    runD (binD T_int .sub t7 (.int .i64 8)) h fun t11 h =>
    (∃ m, m < n ∧ I m (AV.norms n0 h [t19, t11]) (normH n0 h)) ∧ AV.norms n0 h [c0, c2] = [c0, c2])
    (fun v h => K (.pan v) h))
    (J1 t1 h)
def eU.H (c : Ctx) (t0 : AV) (t1 : AV) (t2 : AV) (h : List AObj) (K : AOut → List AObj → Prop) : Prop :=
  joinW (fun (J1 : AV → List AObj → Prop) =>
  promV [false, false] [t1, (.int .i64 56)] h fun lv h => eU.L1 c J1 K (AV.norms h.length h lv) (normH h.length h) h.length (AV.norm h.length h t0) (AV.norm h.length h t2))
  (fun t1 h => K (.ret t1) h)
def fC.loops : Nat → LInfo
  | _ => ⟨[], [], [], [], [], []⟩
def fC.H (c : Ctx) (t0 : AV) (t1 : AV) (t2 : AV) (h : List AObj) (K : AOut → List AObj → Prop) : Prop :=
  runD (binD gE .shr t1 (.int .u64 8)) h fun t8 h =>
  runD (convD h gE T_uint8 t1) h fun t11 h =>
  runD (binD T_uint8 .xor t11 t2) h fun t13 h =>
  runD (aY t0) h fun t14 h =>
  runD (aF fY h t14 t13) h fun t15 h =>
  runD (fitD gE (loadD h t15)) h fun t16 h =>
  runD (binD gE .xor t8 t16) h fun t17 h =>
  K (.ret t17) h
theorem sum_Of.eq (F : List (FuncId × aD)) (S : List (FuncId × Con)) (t0 : AV) (h : List AObj) (K : AOut → List AObj → Prop) : funW (ctx F S sum_Of.loops) Tryz.f93 [t0] h K = sum_Of.H (ctx F S sum_Of.loops) t0 h K := by kernel_rfl
theorem cY.eq (F : List (FuncId × aD)) (S : List (FuncId × Con)) (h : List AObj) (K : AOut → List AObj → Prop) : funW (ctx F S cY.loops) Tryz.f111 [] h K = cY.H (ctx F S cY.loops)  h K := by kernel_rfl
theorem eU.eq (F : List (FuncId × aD)) (S : List (FuncId × Con)) (t0 t1 t2 : AV) (h : List AObj) (K : AOut → List AObj → Prop) : funW (ctx F S eU.loops) Tryz.f112 [t0, t1, t2] h K = eU.H (ctx F S eU.loops) t0 t1 t2 h K := by kernel_rfl
theorem fC.eq (F : List (FuncId × aD)) (S : List (FuncId × Con)) (t0 t1 t2 : AV) (h : List AObj) (K : AOut → List AObj → Prop) : funW (ctx F S fC.loops) Tryz.f122 [t0, t1, t2] h K = fC.H (ctx F S fC.loops) t0 t1 t2 h K := by kernel_rfl
theorem sum_Of.at : Tryz.prog.funcs[93]? = some Tryz.f93 := by kernel_rfl
theorem sum_Of.nm : (Tryz.f93.name == "runtime.NumGoroutine") = false := by kernel_rfl
theorem sum_Of.bd : Tryz.f93.body.isNone = false := by kernel_rfl
theorem cY.at : Tryz.prog.funcs[111]? = some Tryz.f111 := by kernel_rfl
theorem cY.nm : (Tryz.f111.name == "runtime.NumGoroutine") = false := by kernel_rfl
theorem cY.bd : Tryz.f111.body.isNone = false := by kernel_rfl
theorem eU.at : Tryz.prog.funcs[112]? = some Tryz.f112 := by kernel_rfl
theorem eU.nm : (Tryz.f112.name == "runtime.NumGoroutine") = false := by kernel_rfl
theorem eU.bd : Tryz.f112.body.isNone = false := by kernel_rfl
theorem fC.at : Tryz.prog.funcs[122]? = some Tryz.f122 := by kernel_rfl
theorem fC.nm : (Tryz.f122.name == "runtime.NumGoroutine") = false := by kernel_rfl
theorem fC.bd : Tryz.f122.body.isNone = false := by kernel_rfl
end Lam
set_option linter.unnecessarySimpa false
set_option linter.unusedSectionVars false
namespace Lam
open Go Go.Proofs
set_option linter.unusedVariables false
set_option linter.unusedSimpArgs false
theorem xG (c t3 : Int) (xs : List Int) (h : List AObj) (J : AV → AV → AV → AV → List AObj → Prop) (K : AOut → List AObj → Prop) (hh : h = [AObj.row .arr 0 (.ints .u32 xs)])
    (hJ : J (.ptr 0 []) (.int .i64 t3) (.int .u32 (bitN 8 c)) (.int .i64 t3) h) :
    cY.L2 (ctx [] [] cY.loops) J K [.int .u32 c, .int .i64 0] h 1 (.ptr 0 []) (.int .i64 t3) (.int .i64 t3) := by
  unfold cY.L2
  refine ⟨fun n lv h' => ∃ k : Nat, k + n = 8 ∧ lv = [.int .u32 (bitN k c), .int .i64 k] ∧ h' = h, ⟨8, 0, rfl, rfl, rfl⟩, ?_⟩
  rintro n h' t2 t8 ⟨k, hk, hlv, rfl⟩
  simp only [List.cons.injEq, and_true] at hlv
  obtain ⟨rfl, rfl⟩ := hlv
  subst hh
  simp only [go_sem, Nat.reduceLT]
  refine ⟨fun hlt => ⟨by decide, n - 1, by omega, k + 1, by omega, ?_⟩, fun hge => ?_⟩
  · rw [w64 (by omega) (by omega)]
    rfl
  · have : k = 8 := by omega
    subst this; exact hJ

theorem xH (J : AV → List AObj → Prop) (K : AOut → List AObj → Prop) (hJ : J (.ptr 0 []) [AObj.row .arr 0 (.ints .u32 tabL)]) :
    cY.L1 (ctx [] [] cY.loops) J K [.int .i64 0] [AObj.row .arr 0 (.ints .u32 (List.replicate 256 0))] 1 (.ptr 0 []) := by
  unfold cY.L1
  refine ⟨fun n lv h' => ∃ k : Nat, k + n = 256 ∧ lv = [.int .i64 k] ∧ h' = [AObj.row .arr 0 (.ints .u32 ((List.range k).map tabE ++ List.replicate n 0))], ⟨256, 0, rfl, rfl, rfl⟩, ?_⟩
  rintro n h' t3 ⟨k, hk, hlv, rfl⟩
  simp only [List.cons.injEq, and_true] at hlv
  subst hlv
  simp only [go_sem, Nat.reduceLT]
  refine ⟨fun hlt => ?_, fun hge => ?_⟩
  · simp only [aA]
    apply xG _ _ _ _ _ _ rfl
    have hlen : ((List.range k).map tabE ++ List.replicate n 0).length = 256 := by simp; omega
    simp only [go_sem, Nat.reduceLT, hlen, Int.toNat_natCast]
    refine ⟨by omega, by omega, n - 1, by omega, k + 1, by omega, ?_, ?_⟩
    · rw [w64 (by omega) (by omega)]; rfl
    · obtain ⟨m, rfl⟩ : ∃ m, n = m + 1 := ⟨n - 1, by omega⟩
      simp [List.range_succ, List.replicate_succ, tabE]
  · have hn : n = 0 := by omega
    have hk : k = 256 := by omega
    subst hn hk
    simpa [tabL] using hJ

theorem xI : cY.H (ctx [] [] cY.loops) [] (Post false (.arr (.ints .u32 tabL)) []) := by
  unfold cY.H
  simp only [go_sem, Nat.reduceLT]
  simp only [aA]
  apply xH
  have : tabL.length = 256 := by simp [tabL]
  simp only [go_sem, this]
  exact aH rfl rfl

def cY.C : aD
  | [] => some (false, pD True (.arr (.ints .u32 tabL)))
  | _ => none
theorem cY.spec : FSpec Tryz.prog 111 cY.C := by
  refine FSpec.of (ctx_ok (F := []) (S := []) (by simp) (by simp) cY.loops) cY.at cY.nm cY.bd ?_
  intro vs b S v news e hS
  unfold cY.C at e
  split at e
  rotate_left
  · cases e
  rw [cY.eq]
  cases e
  exact xI
def fC.K : Con := fun args h K => match args with
  | [a0, a1, a2] => fC.H (ctx [] [] fC.loops) a0 a1 a2 h K
  | _ => False
theorem fC.spec : SSpec Tryz.prog 122 fC.K := by
  refine SSpec.of (ctx_ok (F := []) (S := []) (by simp) (by simp) fC.loops) fC.at fC.nm fC.bd ?_
  intro args h K hC
  unfold fC.K at hC
  split at hC
  · rw [fC.eq]; exact hC
  · exact hC.elim
theorem yY (t : List Int) (ht : t.length = 256) (c b : Int) (h : List AObj) (K : AOut → List AObj → Prop) (id : Nat) (hid : h[id]? = some (.row .arr 0 (.ints .u32 t))) (hK : K (.ret (.int .u32 (withS t c b))) h) :
    fC.K [.ptr id [], .int .u32 c, .int .u8 b] h K := by
  unfold fC.K
  simp only
  unfold fC.H
  simp only [go_sem, hid, ht]
  have hr : 0 ≤ xorI .u8 (IntKind.u8.wrap c) b ∧ xorI .u8 (IntKind.u8.wrap c) b < 256 := wV _
  exact ⟨by decide, hr, (Int.toNat_lt hr.1).2 hr.2, hK⟩

def eU.K : Con := fun args h K => match args with
  | [a0, a1, a2] => eU.H (ctx [] [(122, fC.K)] eU.loops) a0 a1 a2 h K
  | _ => False
theorem eU.spec : SSpec Tryz.prog 112 eU.K := by
  refine SSpec.of (ctx_ok (F := []) (S := [(122, fC.K)]) (by simp) (by simpa using fC.spec) eU.loops) eU.at eU.nm eU.bd ?_
  intro args h K hC
  unfold eU.K at hC
  split at hC
  · rw [eU.eq]; exact hC
  · exact hC.elim
theorem yZ (t : List Int) (ht : t.length = 256) (c w : Int) (h : List AObj) (K : AOut → List AObj → Prop) (hh : h = [.row .arr 0 (.ints .u32 t)]) (hK : K (.ret (.int .u32 (wordS t c w))) h) :
    eU.K [.ptr 0 [], .int .u32 c, .int .i64 w] h K := by
  unfold eU.K
  simp only
  unfold eU.H
  subst hh
  simp only [aA, go_sem, Nat.reduceLT]
  unfold eU.L1
  refine ⟨fun n lv h' => ∃ k : Nat, k + n = 8 ∧ lv = [.int .u32 (wordN t w k c), .int .i64 (56 - 8 * k)] ∧ h' = [.row .arr 0 (.ints .u32 t)], ⟨8, 0, rfl, rfl, rfl⟩, ?_⟩
  rintro n h' t1 t7 ⟨k, hk, hlv, rfl⟩
  simp only [List.cons.injEq, and_true] at hlv
  obtain ⟨rfl, rfl⟩ := hlv
  simp only [go_sem, Nat.reduceLT, Nat.reduceEqDiff]
  refine ⟨fun hlt => ?_, fun hge => ?_⟩
  · refine ⟨hlt, ?_⟩
    apply yY t ht _ _ _ _ _ rfl
    simp only [go_sem, Nat.reduceLT]
    refine ⟨n - 1, by omega, k + 1, by omega, ?_⟩
    rw [w64 (by omega) (by omega)]
    simp only [wordN]
    congr 3
    omega
  · have : k = 8 := by omega
    subst this; exact hK

def sum_Of.C : aD
  | [.sl _ (.ints .i64 l)] => some (false, pD (roomy l.length) (.int .i64 (sumOf l)))
  | _ => none
theorem sum_Of.spec : FSpec Tryz.prog 93 sum_Of.C := by
  refine FSpec.of (ctx_ok (F := [(111, cY.C)]) (S := [(112, eU.K)]) (by simpa using cY.spec) (by simpa using eU.spec) sum_Of.loops) sum_Of.at sum_Of.nm sum_Of.bd ?_
  intro vs b S v news e hS
  unfold sum_Of.C at e
  split at e
  rotate_left
  · cases e
  rw [sum_Of.eq]
  rename_i x l
  cases e
  unfold roomy at hS
  unfold sum_Of.H
  have htl : tabL.length = 256 := aBX
  simp only [go_sem, Nat.reduceEqDiff, Nat.reduceLT, cY.C, htl, List.length_replicate, aA]
  unfold sum_Of.L1
  refine ⟨fun n lv h' => ∃ k : Nat, k + n = l.length ∧ lv = [.int .u32 ((l.take k).foldl (wordS tabL) 4294967295), .int .i64 k] ∧ h' = [.row .arr 0 (.ints .u32 tabL)], ⟨l.length, 0, by omega, rfl, rfl⟩, ?_⟩
  rintro n h' t4 t10 ⟨k, hk, hlv, rfl⟩
  simp only [List.cons.injEq, and_true] at hlv
  obtain ⟨rfl, rfl⟩ := hlv
  simp only [go_sem, Nat.reduceLT, Nat.reduceEqDiff]
  refine ⟨fun hlt => ?_, fun hge => ?_⟩
  · refine ⟨by omega, ?_⟩
    apply yZ tabL htl _ _ _ _ rfl
    simp only [go_sem, Nat.reduceLT]
    refine ⟨n - 1, by omega, k + 1, by omega, ?_⟩
    rw [w64 (by omega) (by omega)]
    have hkl : k < l.length := by omega
    have : l.take (k + 1) = l.take k ++ [l.getD k 0] := by
      rw [List.take_add_one, List.getElem?_eq_getElem hkl, List.getD_eq_getElem?_getD, List.getElem?_eq_getElem hkl]; rfl
    rw [this, List.foldl_append]
    rfl
  · have : k = l.length := by omega
    subst this
    rw [List.take_length]
    exact aH rfl rfl
end Lam
namespace Lam
open Go Go.Proofs
set_option linter.unusedVariables false
set_option linter.unnecessarySimpa false
set_option linter.unusedSimpArgs false
def fH.C : aD
  | [.sl _ (.ints .i64 l)] => some (false, pD (roomy l.length) (newM l))
  | _ => none
set_option maxRecDepth 20000 in
theorem fH.spec : FSpec Tryz.prog 28 fH.C := by
  refine FSpec.of (ctx_ok (F := [(33, dZ.C), (34, aT.C)]) (S := []) (by simpa using ⟨dZ.spec, aT.spec⟩) (by simp) fH.loops) fH.at fH.nm fH.bd ?_
  intro vs b S v news e hS
  unfold fH.C at e
  split at e
  rotate_left
  · cases e
  cases e
  rw [fH.eq]
  unfold fH.H
  simp (maxSteps := 4000000) only [go_sem, Nat.reduceEqDiff, Nat.reduceLT, Nat.reduceAdd, Nat.reduceSub, Nat.reduceLeDiff, List.reduceReplicate, Int.reduceToNat, dZ.C, aT.C]
  rename_i l
  unfold roomy at hS
  refine ⟨fun hb => ?_, fun hb => ?_⟩
  · unfold newM; rw [hb]; exact aH rfl rfl
  · refine ⟨hS, hS, ?_⟩
    unfold newM; simp only [hb, if_true]
    refine aH ?_ rfl
    simp only [go_sem, Nat.reduceEqDiff, Nat.reduceLT, Nat.reduceAdd, Nat.reduceSub, Nat.reduceLeDiff, List.reduceReplicate, Int.reduceToNat, memV, List.take_length]
end Lam
namespace Lam
open Go Go.Proofs
set_option linter.unusedVariables false
def fJ.loops : Nat → LInfo
  | _ => ⟨[], [], [], [], [], []⟩
def fJ.H (c : Ctx) (t0 : AV) (t1 : AV) (h : List AObj) (K : AOut → List AObj → Prop) : Prop :=
  boxW T_api_Mem t0 h fun t2 h =>
  boxW eF t1 h fun t3 h =>
  allocW T_api_Mem h fun t4 h =>
  runD (fitD T_api_Mem (loadD h t2)) h fun t6 h =>
  runD (fitD eF (loadD h t3)) h fun t7 h =>
  runD (fB gB 1 [(0, t7)] h.length) h fun t8 h =>
  callW false c (.fn (.func 96) [] []) [t6, t8] h (fun t9 h =>
  runD (bH t9 0) h fun t10 h =>
  runD (bH t9 1) h fun t11 h =>
  runH (storeH T_api_Mem h t4 t10) h fun _ h =>
  loadRes (fitD T_api_Mem (loadD h t4)) fun r0 => K (.ret (.tup [r0, t11])) h)
  (fun v h => K (.pan v) h)
def fG.loops : Nat → LInfo
  | _ => ⟨[], [], [], [], [], []⟩
def fG.H (c : Ctx) (t0 : AV) (t1 : AV) (h : List AObj) (K : AOut → List AObj → Prop) : Prop :=
  boxW T_api_Mem t0 h fun t2 h =>
  allocW T_api_Mem h fun t4 h =>
  runD (fitD T_api_Mem (loadD h t2)) h fun t6 h =>
  callW false c (.fn (.func 113) [] []) [t6, t1] h (fun t8 h =>
  runD (unD .not t8) h fun t9 h =>
  condW t9
  (runD (fitD T_api_Mem (loadD h t2)) h fun t10 h =>
    runH (storeH T_api_Mem h t4 t10) h fun _ h =>
    loadRes (fitD T_api_Mem (loadD h t4)) fun r0 => K (.ret (.tup [r0, (.int .i64 40)])) h)
  (runD (fitD T_api_Mem (loadD h t2)) h fun t11 h =>
  runD (lenD gB h t1) h fun t14 h =>
  callW false c (.fn (.func 114) [] []) [t11, t1, t14] h (fun t15 h =>
  runH (storeH T_api_Mem h t4 t15) h fun _ h =>
  loadRes (fitD T_api_Mem (loadD h t4)) fun r0 => K (.ret (.tup [r0, (.int .i64 0)])) h)
  (fun v h => K (.pan v) h)))
  (fun v h => K (.pan v) h)
def eG.loops : Nat → LInfo
  | 1 => ⟨[], [], [], [(3, none), (5, some [7, 12])], [], []⟩
  | _ => ⟨[], [], [], [], [], []⟩
def eG.H (c : Ctx) (t0 : AV) (t1 : AV) (h : List AObj) (K : AOut → List AObj → Prop) : Prop :=
  boxW T_api_Mem t0 h fun t2 h =>
  runD (fitD T_api_Mem (loadD h t2)) h fun t5 h =>
  callW false c (.fn (.func 13) [] []) [t5] h (fun t6 h =>
  joinW (fun (J1 : AV → AV → List AObj → Prop) =>
  guardW t6 true
  (runD (aB T_api_Mem t2 0) h fun t9 h =>
    runD (fitD aI (loadD h t9)) h fun t10 h =>
    runD (lenD aI h t10) h fun t11 h =>
    callW false c (.fn (.func 123) [] []) [t1, t11] h (fun t12 h =>
    J1 (.bool true) t12 h)
    (fun v h => K (.pan v) h))
  (J1 (.bool false) .und h))
  (fun t7 t12 h => runD (pickD t7 t12 (.bool false)) h fun t13 h =>
  K (.ret t13) h))
  (fun v h => K (.pan v) h)
def dG.loops : Nat → LInfo
  | 4 => ⟨[15], [false], [1, 6, 7, 8, 14], [], [], []⟩
  | _ => ⟨[], [], [], [], [], []⟩
def dG.L1 (c : Ctx) (J1 : AV → AV → List AObj → Prop) (K : AOut → List AObj → Prop) (lv : List AV) (h0 : List AObj) (n0 : Nat) (c1 : AV) (c6 : AV) (c7 : AV) (c8 : AV) (c14 : AV) : Prop :=
  ∃ I : Nat → List AV → List AObj → Prop, (∃ n, I n lv h0) ∧ ∀ n h, ∀ t15, I n [t15] h →
    runD (binD T_int .lss t15 c14) h fun t16 h =>
    condW t16
    (runD (aF gB h c1 t15) h fun t21 h =>
    runD (aB eF t21 0) h fun t22 h =>
    runD (fitD T_int (loadD h t22)) h fun t23 h =>
    runD (lookupD dS h c8 t23) h fun t24 h =>
    runD (aF gB h c1 t15) h fun t28 h =>
    runD (fitD eF (loadD h t28)) h fun t29 h =>
    callW false c t24 [c7, t29] h (fun t30 h =>
    runD (binD T_int .add t15 (.int .i64 1)) h fun t31 h =>
    (∃ m, m < n ∧ I m (AV.norms n0 h [t31]) (normH n0 h)) ∧ AV.norms n0 h [c1, c6, c7, c8, c14] = [c1, c6, c7, c8, c14])
    (fun v h => K (.pan v) h))
    (J1 c6 c7 h)
def dG.H (c : Ctx) (t0 : AV) (t1 : AV) (t2 : AV) (h : List AObj) (K : AOut → List AObj → Prop) : Prop :=
  boxW T_api_Mem t0 h fun t3 h =>
  allocW T_api_Mem h fun t6 h =>
  runD (fitD T_api_Mem (loadD h t3)) h fun t10 h =>
  runD (buildD fS [(0, t10)]) h fun t11 h =>
  boxW fS t11 h fun t12 h =>
  callW false c (.fn (.func 124) [] []) [] h (fun t13 h =>
  joinW (fun (J1 : AV → AV → List AObj → Prop) =>
  promV [false] [(.int .i64 0)] h fun lv h => dG.L1 c J1 K (AV.norms h.length h lv) (normH h.length h) h.length (AV.norm h.length h t1) (AV.norm h.length h t6) (AV.norm h.length h t12) (AV.norm h.length h t13) (AV.norm h.length h t2))
  (fun t6 t7 h => runD (aY t7) h fun t33 h =>
  runD (aB fS t33 0) h fun t34 h =>
  runD (fitD T_api_Mem (loadD h t34)) h fun t35 h =>
  runH (storeH T_api_Mem h t6 t35) h fun _ h =>
  loadRes (fitD T_api_Mem (loadD h t6)) fun r0 => K (.ret r0) h))
  (fun v h => K (.pan v) h)
def eH.loops : Nat → LInfo
  | 1 => ⟨[], [], [], [(3, none), (2, some [8, 10]), (2, none), (3, some [12, 15])], [], []⟩
  | 2 => ⟨[], [], [], [(2, none), (4, some [18, 22])], [], []⟩
  | _ => ⟨[], [], [], [], [], []⟩
def eH.H (c : Ctx) (t0 : AV) (t1 : AV) (h : List AObj) (K : AOut → List AObj → Prop) : Prop :=
  boxW T_int t1 h fun t3 h =>
  runD (fitD T_int (loadD h t3)) h fun t6 h =>
  runD (binD T_int .geq t6 (.int .i64 0)) h fun t7 h =>
  joinW (fun (J1 : AV → AV → List AObj → Prop) =>
  guardW t7 true
  (runD (fitD T_int (loadD h t3)) h fun t9 h =>
    runD (binD T_int .leq t9 (.int .i64 4096)) h fun t10 h =>
    J1 (.bool true) t10 h)
  (J1 (.bool false) .und h))
  (fun t8 t10 h => runD (pickD t8 t10 (.bool false)) h fun t11 h =>
  joinW (fun (J2 : AV → AV → List AObj → Prop) =>
  guardW t11 true
  (runD (fitD T_int (loadD h t3)) h fun t13 h =>
    runD (binD T_int .rem t13 (.int .i64 8)) h fun t14 h =>
    runD (binD T_int .eql t14 (.int .i64 0)) h fun t15 h =>
    J2 (.bool true) t15 h)
  (J2 (.bool false) .und h))
  (fun t12 t15 h => runD (pickD t12 t15 (.bool false)) h fun t16 h =>
  joinW (fun (J3 : AV → AV → List AObj → Prop) =>
  guardW t16 true
  (callW false c (.fn (.func 136) [] []) [t0, (.fn (.func 137) [] [t3])] h (fun t21 h =>
    runD (unD .not t21) h fun t22 h =>
    J3 (.bool true) t22 h)
    (fun v h => K (.pan v) h))
  (J3 (.bool false) .und h))
  (fun t18 t22 h => runD (pickD t18 t22 (.bool false)) h fun t23 h =>
  K (.ret t23) h)))
def dK.loops : Nat → LInfo
  | _ => ⟨[], [], [], [], [], []⟩
def dK.H (c : Ctx) (h : List AObj) (K : AOut → List AObj → Prop) : Prop :=
  runD (gG dS h.length) h fun t1 h =>
  runH (mapSetH dS h t1 (.int .i64 1) (.fn (.func 139) [] [])) h fun _ h =>
  runH (mapSetH dS h t1 (.int .i64 2) (.fn (.func 140) [] [])) h fun _ h =>
  K (.ret t1) h
def cU.loops : Nat → LInfo
  | _ => ⟨[], [], [], [], [], []⟩
def cU.H (c : Ctx) (t0 : AV) (t1 : AV) (h : List AObj) (K : AOut → List AObj → Prop) : Prop :=
  boxW eF t0 h fun t2 h =>
  runD (fitD eF (loadD h t2)) h fun t4 h =>
  runD (fitD T_int (loadD h t1)) h fun t5 h =>
  callW false c (.fn (.func 138) [] []) [t4, t5] h (fun t6 h =>
  runD (unD .not t6) h fun t7 h =>
  K (.ret t7) h)
  (fun v h => K (.pan v) h)
def fD.loops : Nat → LInfo
  | 2 => ⟨[], [], [], [(4, none), (7, some [14, 21]), (2, none), (8, some [23, 31])], [], []⟩
  | _ => ⟨[], [], [], [], [], []⟩
def fD.H (c : Ctx) (t0 : AV) (t1 : AV) (h : List AObj) (K : AOut → List AObj → Prop) : Prop :=
  boxW eF t0 h fun t2 h =>
  runD (gG gX h.length) h fun t6 h =>
  runH (mapSetH gX h t6 (.int .i64 1) t1) h fun _ h =>
  runD (binD T_int .quo t1 (.int .i64 8)) h fun t9 h =>
  runH (mapSetH gX h t6 (.int .i64 2) t9) h fun _ h =>
  runD (aB eF t2 1) h fun t11 h =>
  runD (fitD T_int (loadD h t11)) h fun t12 h =>
  runD (binD T_int .geq t12 (.int .i64 0)) h fun t13 h =>
  joinW (fun (J1 : AV → AV → List AObj → Prop) =>
  guardW t13 true
  (runD (aB eF t2 1) h fun t15 h =>
    runD (fitD T_int (loadD h t15)) h fun t16 h =>
    runD (aB eF t2 0) h fun t18 h =>
    runD (fitD T_int (loadD h t18)) h fun t19 h =>
    runD (lookupD gX h t6 t19) h fun t20 h =>
    runD (binD T_int .lss t16 t20) h fun t21 h =>
    J1 (.bool true) t21 h)
  (J1 (.bool false) .und h))
  (fun t14 t21 h => runD (pickD t14 t21 (.bool false)) h fun t22 h =>
  joinW (fun (J2 : AV → AV → List AObj → Prop) =>
  guardW t22 true
  (runD (aB eF t2 0) h fun t24 h =>
    runD (fitD T_int (loadD h t24)) h fun t25 h =>
    runD (binD T_int .eql t25 (.int .i64 1)) h fun t26 h =>
    joinW (fun (J3 : AV → AV → List AObj → Prop) =>
    guardW t26 false
    (runD (aB eF t2 2) h fun t28 h =>
      runD (fitD T_int (loadD h t28)) h fun t29 h =>
      runD (binD T_int .eql t29 (.int .i64 0)) h fun t30 h =>
      J3 (.bool false) t30 h)
    (J3 (.bool true) .und h))
    (fun t27 t30 h => runD (pickD t27 (.bool true) t30) h fun t31 h =>
    J2 (.bool true) t31 h))
  (J2 (.bool false) .und h))
  (fun t23 t31 h => runD (pickD t23 t31 (.bool false)) h fun t32 h =>
  K (.ret t32) h))
def cD.loops : Nat → LInfo
  | _ => ⟨[], [], [], [], [], []⟩
def cD.H (c : Ctx) (t0 : AV) (t1 : AV) (h : List AObj) (K : AOut → List AObj → Prop) : Prop :=
  boxW eF t1 h fun t3 h =>
  runD (aY t0) h fun t7 h =>
  runD (aB fS t7 0) h fun t8 h =>
  runD (fitD T_api_Mem (loadD h t8)) h fun t9 h =>
  runD (aB eF t3 1) h fun t10 h =>
  runD (fitD T_int (loadD h t10)) h fun t11 h =>
  runD (aB eF t3 2) h fun t12 h =>
  runD (fitD T_int (loadD h t12)) h fun t13 h =>
  callW false c.noS (.fn (.func 148) [] []) [t9, t11, t13] h (fun t14 h =>
  runD (bH t14 0) h fun t15 h =>
  runD (bH t14 1) h fun t16 h =>
  runD (aY t0) h fun t17 h =>
  runD (aB fS t17 0) h fun t18 h =>
  runH (storeH T_api_Mem h t18 t15) h fun _ h =>
  K (.ret (.tup [])) h)
  (fun _ _ => False)
def bV.loops : Nat → LInfo
  | _ => ⟨[], [], [], [], [], []⟩
def bV.H (c : Ctx) (t0 : AV) (t1 : AV) (h : List AObj) (K : AOut → List AObj → Prop) : Prop :=
  boxW eF t1 h fun t3 h =>
  runD (aY t0) h fun t7 h =>
  runD (aB fS t7 0) h fun t8 h =>
  runD (fitD T_api_Mem (loadD h t8)) h fun t9 h =>
  runD (aB eF t3 1) h fun t10 h =>
  runD (fitD T_int (loadD h t10)) h fun t11 h =>
  callW false c.noS (.fn (.func 149) [] []) [t9, t11] h (fun t12 h =>
  runD (bH t12 0) h fun t13 h =>
  runD (bH t12 1) h fun t14 h =>
  runD (aY t0) h fun t15 h =>
  runD (aB fS t15 0) h fun t16 h =>
  runH (storeH T_api_Mem h t16 t13) h fun _ h =>
  runD (aY t0) h fun t20 h =>
  runD (aB fS t20 0) h fun t21 h =>
  runD (fitD T_api_Mem (loadD h t21)) h fun t22 h =>
  callW false c (.fn (.func 150) [] []) [t22] h (fun t23 h =>
  runD (bH t23 0) h fun t24 h =>
  runD (bH t23 1) h fun t25 h =>
  runD (aY t0) h fun t26 h =>
  runD (aB fS t26 0) h fun t27 h =>
  runH (storeH T_api_Mem h t27 t24) h fun _ h =>
  K (.ret (.tup [])) h)
  (fun v h => K (.pan v) h))
  (fun _ _ => False)
theorem fJ.eq (F : List (FuncId × aD)) (S : List (FuncId × Con)) (t0 t1 : AV) (h : List AObj) (K : AOut → List AObj → Prop) : funW (ctx F S fJ.loops) Tryz.f74 [t0, t1] h K = fJ.H (ctx F S fJ.loops) t0 t1 h K := by kernel_rfl
theorem fG.eq (F : List (FuncId × aD)) (S : List (FuncId × Con)) (t0 t1 : AV) (h : List AObj) (K : AOut → List AObj → Prop) : funW (ctx F S fG.loops) Tryz.f96 [t0, t1] h K = fG.H (ctx F S fG.loops) t0 t1 h K := by kernel_rfl
theorem eG.eq (F : List (FuncId × aD)) (S : List (FuncId × Con)) (t0 t1 : AV) (h : List AObj) (K : AOut → List AObj → Prop) : funW (ctx F S eG.loops) Tryz.f113 [t0, t1] h K = eG.H (ctx F S eG.loops) t0 t1 h K := by kernel_rfl
theorem dG.eq (F : List (FuncId × aD)) (S : List (FuncId × Con)) (t0 t1 t2 : AV) (h : List AObj) (K : AOut → List AObj → Prop) : funW (ctx F S dG.loops) Tryz.f114 [t0, t1, t2] h K = dG.H (ctx F S dG.loops) t0 t1 t2 h K := by kernel_rfl
theorem eH.eq (F : List (FuncId × aD)) (S : List (FuncId × Con)) (t0 t1 : AV) (h : List AObj) (K : AOut → List AObj → Prop) : funW (ctx F S eH.loops) Tryz.f123 [t0, t1] h K = eH.H (ctx F S eH.loops) t0 t1 h K := by kernel_rfl
theorem dK.eq (F : List (FuncId × aD)) (S : List (FuncId × Con)) (h : List AObj) (K : AOut → List AObj → Prop) : funW (ctx F S dK.loops) Tryz.f124 [] h K = dK.H (ctx F S dK.loops)  h K := by kernel_rfl
theorem cU.eq (F : List (FuncId × aD)) (S : List (FuncId × Con)) (t0 t1 : AV) (h : List AObj) (K : AOut → List AObj → Prop) : funW (ctx F S cU.loops) Tryz.f137 [t0, t1] h K = cU.H (ctx F S cU.loops) t0 t1 h K := by kernel_rfl
theorem fD.eq (F : List (FuncId × aD)) (S : List (FuncId × Con)) (t0 t1 : AV) (h : List AObj) (K : AOut → List AObj → Prop) : funW (ctx F S fD.loops) Tryz.f138 [t0, t1] h K = fD.H (ctx F S fD.loops) t0 t1 h K := by kernel_rfl
theorem cD.eq (F : List (FuncId × aD)) (S : List (FuncId × Con)) (t0 t1 : AV) (h : List AObj) (K : AOut → List AObj → Prop) : funW (ctx F S cD.loops) Tryz.f139 [t0, t1] h K = cD.H (ctx F S cD.loops) t0 t1 h K := by kernel_rfl
theorem bV.eq (F : List (FuncId × aD)) (S : List (FuncId × Con)) (t0 t1 : AV) (h : List AObj) (K : AOut → List AObj → Prop) : funW (ctx F S bV.loops) Tryz.f140 [t0, t1] h K = bV.H (ctx F S bV.loops) t0 t1 h K := by kernel_rfl
theorem fJ.at : Tryz.prog.funcs[74]? = some Tryz.f74 := by kernel_rfl
theorem fJ.nm : (Tryz.f74.name == "runtime.NumGoroutine") = false := by kernel_rfl
theorem fJ.bd : Tryz.f74.body.isNone = false := by kernel_rfl
theorem fG.at : Tryz.prog.funcs[96]? = some Tryz.f96 := by kernel_rfl
theorem fG.nm : (Tryz.f96.name == "runtime.NumGoroutine") = false := by kernel_rfl
theorem fG.bd : Tryz.f96.body.isNone = false := by kernel_rfl
theorem eG.at : Tryz.prog.funcs[113]? = some Tryz.f113 := by kernel_rfl
theorem eG.nm : (Tryz.f113.name == "runtime.NumGoroutine") = false := by kernel_rfl
theorem eG.bd : Tryz.f113.body.isNone = false := by kernel_rfl
theorem dG.at : Tryz.prog.funcs[114]? = some Tryz.f114 := by kernel_rfl
theorem dG.nm : (Tryz.f114.name == "runtime.NumGoroutine") = false := by kernel_rfl
theorem dG.bd : Tryz.f114.body.isNone = false := by kernel_rfl
theorem eH.at : Tryz.prog.funcs[123]? = some Tryz.f123 := by kernel_rfl
theorem eH.nm : (Tryz.f123.name == "runtime.NumGoroutine") = false := by kernel_rfl
theorem eH.bd : Tryz.f123.body.isNone = false := by kernel_rfl
theorem dK.at : Tryz.prog.funcs[124]? = some Tryz.f124 := by kernel_rfl
theorem dK.nm : (Tryz.f124.name == "runtime.NumGoroutine") = false := by kernel_rfl
theorem dK.bd : Tryz.f124.body.isNone = false := by kernel_rfl
theorem cU.at : Tryz.prog.funcs[137]? = some Tryz.f137 := by kernel_rfl
theorem cU.nm : (Tryz.f137.name == "runtime.NumGoroutine") = false := by kernel_rfl
theorem cU.bd : Tryz.f137.body.isNone = false := by kernel_rfl
theorem fD.at : Tryz.prog.funcs[138]? = some Tryz.f138 := by kernel_rfl
theorem fD.nm : (Tryz.f138.name == "runtime.NumGoroutine") = false := by kernel_rfl
theorem fD.bd : Tryz.f138.body.isNone = false := by kernel_rfl
theorem cD.at : Tryz.prog.funcs[139]? = some Tryz.f139 := by kernel_rfl
theorem cD.nm : (Tryz.f139.name == "runtime.NumGoroutine") = false := by kernel_rfl
theorem cD.bd : Tryz.f139.body.isNone = false := by kernel_rfl
theorem bV.at : Tryz.prog.funcs[140]? = some Tryz.f140 := by kernel_rfl
theorem bV.nm : (Tryz.f140.name == "runtime.NumGoroutine") = false := by kernel_rfl
theorem bV.bd : Tryz.f140.body.isNone = false := by kernel_rfl
end Lam
namespace Lam
open Go Go.Proofs
set_option linter.unusedVariables false
set_option linter.unnecessarySimpa false
set_option linter.unusedSimpArgs false
def fD.C : aD
  | [.agg [.int .i64 k, .int .i64 a, .int .i64 w], .int .i64 n] => some (false, pD True (.bool (mmay ⟨k, a, w⟩ n)))
  | _ => none
set_option maxRecDepth 20000 in
theorem fD.spec : FSpec Tryz.prog 138 fD.C := by
  refine FSpec.of (ctx_ok (F := []) (S := []) (by simp) (by simp) fD.loops) fD.at fD.nm fD.bd ?_
  intro vs b S v news e hS
  unfold fD.C at e
  split at e
  rotate_left
  · cases e
  cases e
  rw [fD.eq]
  unfold fD.H
  simp (maxSteps := 4000000) only [go_sem, Nat.reduceEqDiff, Nat.reduceLT, Nat.reduceAdd, Nat.reduceSub, Nat.reduceLeDiff, List.reduceReplicate, Int.reduceToNat]
  refine ⟨by decide, ?_⟩
  exact aH rfl rfl
def cU.K : Con := fun args h K => match args with
  | [a0, a1] => cU.H (ctx [(138, fD.C)] [] cU.loops) a0 a1 h K
  | _ => False
theorem cU.spec : SSpec Tryz.prog 137 cU.K := by
  refine SSpec.of (ctx_ok (F := [(138, fD.C)]) (S := []) (by simpa using fD.spec) (by simp) cU.loops) cU.at cU.nm cU.bd ?_
  intro args h K hC
  unfold cU.K at hC
  split at hC
  · rw [cU.eq]; exact hC
  · exact hC.elim
def aJ.K : Con := fun args h K => match args with
  | [a0, a1] => aJ.H (ctx [] [(137, cU.K)] aJ.loops) a0 a1 h K
  | _ => False
theorem aJ.spec : SSpec Tryz.prog 147 aJ.K := by
  refine SSpec.of (ctx_ok (F := []) (S := [(137, cU.K)]) (by simp) (by simpa using cU.spec) aJ.loops) aJ.at aJ.nm aJ.bd ?_
  intro args h K hC
  unfold aJ.K at hC
  split at hC
  · rw [aJ.eq]; exact hC
  · exact hC.elim
def aL.K : Con := fun args h K => match args with
  | [a0, a1] => aL.H (ctx [] [(147, aJ.K)] aL.loops) a0 a1 h K
  | _ => False
theorem aL.spec : SSpec Tryz.prog 136 aL.K := by
  refine SSpec.of (ctx_ok (F := []) (S := [(147, aJ.K)]) (by simp) (by simpa using aJ.spec) aL.loops) aL.at aL.nm aL.bd ?_
  intro args h K hC
  unfold aL.K at hC
  split at hC
  · rw [aL.eq]; exact hC
  · exact hC.elim

theorem rG (x : Mic) (n : Int) (h : List AObj) (K : AOut → List AObj → Prop) (id : Nat) (hid : h[id]? = some (.box (.int .i64 n)))
    (hK : K (.ret (.bool (!mmay x n))) (h ++ [.box (encMic x)])) : cU.K [.agg [.int .i64 x.kind, .int .i64 x.at_, .int .i64 x.val], .ptr id []] h K := by
  have hlt : id < h.length := (List.getElem?_eq_some_iff.1 hid).1
  have hid' : ∀ r, (h ++ r)[id]? = some (.box (.int .i64 n)) := fun r => by rw [List.getElem?_append_left hlt]; exact hid
  have hlen : ∀ o r, (h ++ o :: r)[h.length]? = some o := fun o r => by simp
  unfold cU.K
  simp only
  unfold cU.H
  simp only [go_sem, Nat.reduceEqDiff, Nat.reduceLT, Nat.reduceAdd, Nat.reduceSub, Nat.reduceLeDiff, List.reduceReplicate, Int.reduceToNat, hid', hlen, fD.C]
  exact hK

theorem aCf (l : List Mic) (n : Int) (K : AOut → List AObj → Prop) (x : Bool) (hr : roomy l.length) (h : List AObj) (hh : h = [.box (.int .i64 n)])
    (hK : ∀ r h', (r = -1 ∧ (∀ y ∈ l, mmay y n = true)) ∨ (0 ≤ r ∧ ∃ y ∈ l, mmay y n = false) → K (.ret (.int .i64 r)) h') :
    aJ.K [.sl x (.mics l), .fn (.func 137) [] [.ptr 0 []]] h K := by
  unfold roomy at hr
  unfold aJ.K
  simp only
  unfold aJ.H
  subst hh
  simp only [go_sem, Nat.reduceEqDiff, Nat.reduceLT, Nat.reduceAdd, Nat.reduceSub, Nat.reduceLeDiff, List.reduceReplicate, Int.reduceToNat, aA]
  unfold aJ.L1
  refine ⟨fun m lv h' => ∃ k : Nat, k + m = l.length ∧ lv = [.int .i64 k] ∧ h' = [.box (.int .i64 n)] ∧ ∀ y ∈ l.take k, mmay y n = true, ⟨l.length, 0, by omega, rfl, rfl, by simp⟩, ?_⟩
  rintro m h' t8 ⟨k, hk, hlv, rfl, hall⟩
  simp only [List.cons.injEq, and_true] at hlv
  subst hlv
  simp only [go_sem, Nat.reduceEqDiff, Nat.reduceLT, Nat.reduceAdd, Nat.reduceSub, Nat.reduceLeDiff, List.reduceReplicate, Int.reduceToNat]
  refine ⟨fun hlt => ⟨by omega, ?_⟩, fun hge => ?_⟩
  · have hkl : k < l.length := by omega
    apply rG _ n _ _ 0 rfl
    simp only [go_sem, Nat.reduceEqDiff, Nat.reduceLT, Nat.reduceAdd, Nat.reduceSub, Nat.reduceLeDiff, List.reduceReplicate, Int.reduceToNat]
    refine ⟨fun h => hK _ _ (.inr ⟨by omega, _, gH l k _ hkl, by simpa using h⟩), fun h => ?_⟩
    refine ⟨m - 1, by omega, k + 1, by omega, by rw [w64 (by omega) (by omega)]; rfl, ?_⟩
    intro y hy
    rw [gA l k ⟨0, 0, 0⟩ hkl] at hy
    rcases List.mem_append.1 hy with hy | hy
    · exact hall y hy
    · rw [List.mem_singleton.1 hy]; simpa using h
  · have : k = l.length := by omega
    subst this
    rw [List.take_length] at hall
    exact hK _ _ (.inl ⟨rfl, hall⟩)

theorem zA (l : List Mic) (n : Int) (K : AOut → List AObj → Prop) (x : Bool) (hr : roomy l.length) (h : List AObj) (hh : h = [.box (.int .i64 n)])
    (hK : ∀ h', K (.ret (.bool (!l.all (mmay · n)))) h') :
    aL.K [.sl x (.mics l), .fn (.func 137) [] [.ptr 0 []]] h K := by
  unfold aL.K
  simp only
  unfold aL.H
  subst hh
  simp only [go_sem, Nat.reduceEqDiff, Nat.reduceLT, Nat.reduceAdd, Nat.reduceSub, Nat.reduceLeDiff, List.reduceReplicate, Int.reduceToNat]
  apply aCf l n _ x hr _ rfl
  intro r h' hcase
  simp only [go_sem, Nat.reduceEqDiff, Nat.reduceLT, Nat.reduceAdd, Nat.reduceSub, Nat.reduceLeDiff, List.reduceReplicate, Int.reduceToNat]
  have : decide (0 ≤ r) = !l.all (mmay · n) := by
    rcases hcase with ⟨rfl, h⟩ | ⟨h0, y, hy, h⟩
    · have : l.all (mmay · n) = true := List.all_eq_true.2 h
      rw [this]; rfl
    · have : l.all (mmay · n) = false := by
        rw [List.all_eq_false]; exact ⟨y, hy, by simp [h]⟩
      rw [this]; simpa using h0
  rw [this]; exact hK h'

def eH.C : aD
  | [.sl _ (.mics l), .int .i64 n] => some (false, pD (roomy l.length) (.bool (sizedB n && l.all (mmay · n))))
  | _ => none
set_option maxRecDepth 20000 in
theorem eH.spec : FSpec Tryz.prog 123 eH.C := by
  refine FSpec.of (ctx_ok (F := []) (S := [(136, aL.K)]) (by simp) (by simpa using aL.spec) eH.loops) eH.at eH.nm eH.bd ?_
  intro vs b S v news e hS
  unfold eH.C at e
  split at e
  rotate_left
  · cases e
  cases e
  rw [eH.eq]
  unfold eH.H
  simp (maxSteps := 4000000) only [go_sem, Nat.reduceEqDiff, Nat.reduceLT, Nat.reduceAdd, Nat.reduceSub, Nat.reduceLeDiff, List.reduceReplicate, Int.reduceToNat]
  refine ⟨by simp, ?_⟩
  rw [aA]
  simp only [iI]
  refine ⟨fun hs => ?_, fun hs => ?_⟩
  · apply zA _ _ _ _ hS _ rfl
    intro h'
    simp only [go_sem, Nat.reduceEqDiff, Nat.reduceLT, Nat.reduceAdd, Nat.reduceSub, Nat.reduceLeDiff, List.reduceReplicate, Int.reduceToNat, Bool.not_not]
    exact aH (by rw [show sizedB _ = true from hs, Bool.true_and]; rfl) rfl
  · simp only [go_sem, Nat.reduceEqDiff, Nat.reduceLT, Nat.reduceAdd, Nat.reduceSub, Nat.reduceLeDiff, List.reduceReplicate, Int.reduceToNat]
    exact aH (by rw [show sizedB _ = false from hs, Bool.false_and]; rfl) rfl


def cD.K : Con := fun args h K => match args with
  | [a0, a1] => cD.H (ctx [(148, fI.C)] [] cD.loops) a0 a1 h K
  | _ => False
theorem cD.spec : SSpec Tryz.prog 139 cD.K := by
  refine SSpec.of (ctx_ok (F := [(148, fI.C)]) (S := []) (by simpa using fI.spec) (by simp) cD.loops) cD.at cD.nm cD.bd ?_
  intro args h K hC
  unfold cD.K at hC
  split at hC
  · rw [cD.eq]; exact hC
  · exact hC.elim
def bV.K : Con := fun args h K => match args with
  | [a0, a1] => bV.H (ctx [(149, eO.C), (150, eP.C)] [] bV.loops) a0 a1 h K
  | _ => False
theorem bV.spec : SSpec Tryz.prog 140 bV.K := by
  refine SSpec.of (ctx_ok (F := [(149, eO.C), (150, eP.C)]) (S := []) (by simpa using ⟨eO.spec, eP.spec⟩) (by simp) bV.loops) bV.at bV.nm bV.bd ?_
  intro args h K hC
  unfold bV.K at hC
  split at hC
  · rw [bV.eq]; exact hC
  · exact hC.elim
def dK.K : Con := fun args h K => match args with
  | [] => dK.H (ctx [] [] dK.loops)  h K
  | _ => False
theorem dK.spec : SSpec Tryz.prog 124 dK.K := by
  refine SSpec.of (ctx_ok (F := []) (S := []) (by simp) (by simp) dK.loops) dK.at dK.nm dK.bd ?_
  intro args h K hC
  unfold dK.K at hC
  split at hC
  · rw [dK.eq]; exact hC
  · exact hC.elim
def dG.C : aD
  | [.agg [.sl false (.ints .i64 vol), .sl false (.ints .i64 per), .sl false (.pends pend)], .sl _ (.mics l), .int .i64 n] => some (false, pD (Mm.ok ⟨vol, per, pend⟩ ∧ (∀ x ∈ l, MayN x vol.length) ∧ pend.length + l.length ≤ 1000000 ∧ 0 ≤ n ∧ n ≤ (l.length : Int)) (runS ⟨vol, per, pend⟩ (l.take n.toNat)).V)
  | _ => none
set_option maxRecDepth 20000 in
theorem dG.spec : FSpec Tryz.prog 114 dG.C := by
  refine FSpec.of (ctx_ok (F := []) (S := [(124, dK.K), (139, cD.K), (140, bV.K)]) (by simp) (by simpa using ⟨dK.spec, cD.spec, bV.spec⟩) dG.loops) dG.at dG.nm dG.bd ?_
  intro vs b S v news e hS
  unfold dG.C at e
  split at e
  rotate_left
  · cases e
  cases e
  rw [dG.eq]
  unfold dG.H
  simp (maxSteps := 4000000) only [go_sem, Nat.reduceEqDiff, Nat.reduceLT, Nat.reduceAdd, Nat.reduceSub, Nat.reduceLeDiff, List.reduceReplicate, Int.reduceToNat, dK.K, dK.H]
  rename_i vol per pend _ l n
  obtain ⟨ok, hl, hsz, hn0, hn1⟩ := hS
  rw [aA]
  unfold dG.L1
  refine loop1 (σ := Nat) (fun k => .int .i64 k) (fun k => [.box (memV vol per pend), .box (memV [] [] []), .box (.agg [(runS ⟨vol, per, pend⟩ (l.take k)).V]), .map (.ifn fun j => if j = 2 then some 140 else if j = 1 then some 139 else none)]) (fun k => n.toNat - k) (fun k => k ≤ n.toNat) 0 rfl rfl (Nat.zero_le _) ?_
  intro I back k hk
  have okk := runS_ok (l.take k) ok fun x hx => hl x ((List.take_sublist _ _).subset hx)
  have lenk := wY (l.take k) ⟨vol, per, pend⟩
  have pendk := pB (l.take k) ⟨vol, per, pend⟩
  rw [List.length_take] at pendk
  simp only [] at lenk pendk
  simp only [go_sem, Nat.reduceEqDiff, Nat.reduceLT, Nat.reduceAdd, Nat.reduceSub, Nat.reduceLeDiff, List.reduceReplicate, Int.reduceToNat]
  refine ⟨fun hlt => ?_, fun hge => ?_⟩
  · have hkl : k < l.length := by omega
    have hnx : runS ⟨vol, per, pend⟩ (l.take (k + 1)) = stepM (runS ⟨vol, per, pend⟩ (l.take k)) (l.getD k ⟨0, 0, 0⟩) := by
      rw [gA l k ⟨0, 0, 0⟩ hkl, yT]; rfl
    have hx := hl _ (gH l k ⟨0, 0, 0⟩ hkl)
    generalize l.getD k ⟨0, 0, 0⟩ = x at *
    generalize runS ⟨vol, per, pend⟩ (l.take k) = m at *
    have hsm : smallM m.vol m.per m.pend := OkM.small okk (by omega)
    refine ⟨by omega, ?_⟩
    rcases hx with ⟨hkd, h0, h1⟩ | ⟨hkd, h0, h1, _⟩
    · have hp : placeB m.vol m.per m.pend x.at_ = true := uR.2 ⟨⟨h0, by omega⟩, okk⟩
      have hst : stepM m x = store m x.at_ x.val := by unfold stepM; rw [if_pos hkd]
      have e : (if x.kind = 2 then some 140 else if x.kind = 1 then some 139 else none : Option Nat) = some 139 := by rw [if_neg (by omega), if_pos hkd]
      simp only [e, cD.K, cD.H, fI.C, putM_ok hp, go_sem, Nat.reduceEqDiff, Nat.reduceLT, Nat.reduceAdd, Nat.reduceSub, Nat.reduceLeDiff, List.reduceReplicate, Int.reduceToNat]
      refine ⟨by omega, ⟨hsm, by unfold roomy; omega⟩, back (k + 1) (by omega) (by rw [wnext (by omega)]) ?_ (by omega)⟩
      rw [hnx, hst]; rfl
    · have hp : placeB m.vol m.per m.pend (firstI m.vol x.at_) = true := (OkM.first okk h0 (by omega)).2
      have hst : stepM m x = persist m x.at_ := by unfold stepM; rw [if_neg (by omega)]
      have e : (if x.kind = 2 then some 140 else if x.kind = 1 then some 139 else none : Option Nat) = some 140 := by rw [if_pos hkd]
      have okf := okk.flush x.at_
      simp only [e, bV.K, bV.H, eO.C, aBe hp, aBf, kT.2 okf, eP.C, go_sem, Nat.reduceEqDiff, Nat.reduceLT, Nat.reduceAdd, Nat.reduceSub, Nat.reduceLeDiff, List.reduceReplicate, Int.reduceToNat]
      refine ⟨by omega, hsm, OkM.small okf (by rw [aAf]; omega), back (k + 1) (by omega) (by rw [wnext (by omega)]) ?_ (by omega)⟩
      rw [hnx, hst]; rfl
  · have : k = n.toNat := by omega
    subst this
    refine aH ?_ rfl
    simp only [go_sem, Nat.reduceEqDiff, Nat.reduceLT, Nat.reduceAdd, Nat.reduceSub, Nat.reduceLeDiff, List.reduceReplicate, Int.reduceToNat]

def soundB (m : Mm) (l : List Mic) : Bool := m.okB && stepsB l m.vol.length
def eG.C : aD
  | [.agg [.sl false (.ints .i64 vol), .sl false (.ints .i64 per), .sl false (.pends pend)], .sl _ (.mics l)] => some (false, pD (smallM vol per pend ∧ roomy l.length) (.bool (soundB ⟨vol, per, pend⟩ l)))
  | _ => none
set_option maxRecDepth 20000 in
theorem eG.spec : FSpec Tryz.prog 113 eG.C := by
  refine FSpec.of (ctx_ok (F := [(13, cN.C), (123, eH.C)]) (S := []) (by simpa using ⟨cN.spec, eH.spec⟩) (by simp) eG.loops) eG.at eG.nm eG.bd ?_
  intro vs b S v news e hS
  unfold eG.C at e
  split at e
  rotate_left
  · cases e
  cases e
  rw [eG.eq]
  unfold eG.H
  simp (maxSteps := 4000000) only [go_sem, Nat.reduceEqDiff, Nat.reduceLT, Nat.reduceAdd, Nat.reduceSub, Nat.reduceLeDiff, List.reduceReplicate, Int.reduceToNat, cN.C, eH.C]
  exact ⟨hS.1, fun _ => hS.2, aH rfl rfl⟩
/-- steps that may be, on a memory that may be -/
theorem uZ {m : Mm} {l : List Mic} : soundB m l = true ↔ m.ok ∧ ∀ x ∈ l, MayN x m.vol.length := by
  unfold soundB stepsB
  rw [Bool.and_eq_true, Bool.and_eq_true, Mm.ok_iff, List.all_eq_true]
  constructor
  · rintro ⟨h1, _, h2⟩
    exact ⟨h1, fun x hx => (wX h1.sz).1 (h2 x hx)⟩
  · rintro ⟨h1, h2⟩
    have hmd := h1.md
    have hsz := h1.sz
    refine ⟨h1, ?_, fun x hx => (wX h1.sz).2 (h2 x hx)⟩
    unfold sizedB
    simp only [Bool.and_eq_true, decide_eq_true_eq]
    refine ⟨⟨by omega, by omega⟩, ?_⟩
    rw [Int.tmod_eq_emod_of_nonneg (by omega)]; omega
def runV (m : Mm) (l : List Mic) : AV := if soundB m l = true then .tup [(runS m l).V, .int .i64 0] else .tup [m.V, .int .i64 40]
def fG.C : aD
  | [.agg [.sl false (.ints .i64 vol), .sl false (.ints .i64 per), .sl false (.pends pend)], .sl _ (.mics l)] => some (false, pD (smallM vol per pend ∧ pend.length + l.length ≤ 1000000) (runV ⟨vol, per, pend⟩ l))
  | _ => none
set_option maxRecDepth 20000 in
theorem fG.spec : FSpec Tryz.prog 96 fG.C := by
  refine FSpec.of (ctx_ok (F := [(113, eG.C), (114, dG.C)]) (S := []) (by simpa using ⟨eG.spec, dG.spec⟩) (by simp) fG.loops) fG.at fG.nm fG.bd ?_
  intro vs b S v news e hS
  unfold fG.C at e
  split at e
  rotate_left
  · cases e
  cases e
  rw [fG.eq]
  unfold fG.H
  simp (maxSteps := 4000000) only [go_sem, Nat.reduceEqDiff, Nat.reduceLT, Nat.reduceAdd, Nat.reduceSub, Nat.reduceLeDiff, List.reduceReplicate, Int.reduceToNat, eG.C, dG.C]
  rename_i vol per pend _ l
  obtain ⟨hs, hz⟩ := hS
  refine ⟨⟨hs, by unfold roomy; omega⟩, fun h => ?_, fun h => ?_⟩
  · unfold runV; rw [h]; exact aH rfl rfl
  · obtain ⟨ok, hl⟩ := uZ.1 h
    refine ⟨⟨ok, hl, hz, by omega, by omega⟩, ?_⟩
    unfold runV; simp only [h, if_true]
    refine aH ?_ rfl
    simp only [go_sem, Nat.reduceEqDiff, Nat.reduceLT, Nat.reduceAdd, Nat.reduceSub, Nat.reduceLeDiff, List.reduceReplicate, Int.reduceToNat, Int.toNat_natCast, List.take_length]
def fJ.C : aD
  | [.agg [.sl false (.ints .i64 vol), .sl false (.ints .i64 per), .sl false (.pends pend)], .agg [.int .i64 a, .int .i64 b, .int .i64 c]] => some (false, pD (smallM vol per pend ∧ pend.length + 1 ≤ 1000000) (runV ⟨vol, per, pend⟩ [⟨a, b, c⟩]))
  | _ => none
set_option maxRecDepth 20000 in
theorem fJ.spec : FSpec Tryz.prog 74 fJ.C := by
  refine FSpec.of (ctx_ok (F := [(96, fG.C)]) (S := []) (by simpa using fG.spec) (by simp) fJ.loops) fJ.at fJ.nm fJ.bd ?_
  intro vs b S v news e hS
  unfold fJ.C at e
  split at e
  rotate_left
  · cases e
  cases e
  rw [fJ.eq]
  unfold fJ.H
  simp (maxSteps := 4000000) only [go_sem, Nat.reduceEqDiff, Nat.reduceLT, Nat.reduceAdd, Nat.reduceSub, Nat.reduceLeDiff, List.reduceReplicate, Int.reduceToNat, fG.C]
  rename_i vol per pend a b c
  unfold runV
  cases h : soundB ⟨vol, per, pend⟩ [⟨a, b, c⟩]
  · simp only [aA, gq, Int.reduceEq, Int.reduceLT, Int.reduceLE, implies_true, reduceCtorEq, if_true, if_false, go_sem, Nat.reduceEqDiff, Nat.reduceLT, Nat.reduceAdd, Nat.reduceSub, Nat.reduceLeDiff, List.reduceReplicate, Int.reduceToNat]
    exact ⟨⟨hS.1, by omega⟩, aH rfl rfl⟩
  · simp only [aA, gq, Int.reduceEq, Int.reduceLT, Int.reduceLE, implies_true, reduceCtorEq, if_true, if_false, go_sem, Nat.reduceEqDiff, Nat.reduceLT, Nat.reduceAdd, Nat.reduceSub, Nat.reduceLeDiff, List.reduceReplicate, Int.reduceToNat]
    exact ⟨⟨hS.1, by omega⟩, aH rfl rfl⟩
end Lam
namespace Lam
open Go Go.Proofs
set_option linter.unusedVariables false
def eB.loops : Nat → LInfo
  | 6 => ⟨[47], [false], [5, 45, 46], [], [], []⟩
  | _ => ⟨[], [], [], [], [], []⟩
def eB.L1 (c : Ctx) (J1 : List AObj → Prop) (J4 : AV → List AObj → Prop) (K : AOut → List AObj → Prop) (lv : List AV) (h0 : List AObj) (n0 : Nat) (c5 : AV) (c45 : AV) (c46 : AV) : Prop :=
  ∃ I : Nat → List AV → List AObj → Prop, (∃ n, I n lv h0) ∧ ∀ n h, ∀ t47, I n [t47] h →
    runD (binD T_int .lss t47 c46) h fun t48 h =>
    condW t48
    (runD (aF aI h c45 t47) h fun t49 h =>
    runD (fitD T_int (loadD h t49)) h fun t50 h =>
    runD (binD T_int .neq t50 (.int .i64 0)) h fun t52 h =>
    condW t52
    (J1 h)
    (runD (binD T_int .add t47 (.int .i64 1)) h fun t53 h =>
    (∃ m, m < n ∧ I m (AV.norms n0 h [t53]) (normH n0 h)) ∧ AV.norms n0 h [c5, c45, c46] = [c5, c45, c46]))
    (J4 c5 h)
def eB.H (c : Ctx) (t0 : AV) (h : List AObj) (K : AOut → List AObj → Prop) : Prop :=
  joinW (fun (J1 : List AObj → Prop) =>
  allocW cI h fun t5 h =>
  runD (lenD aI h t0) h fun t9 h =>
  runD (binD T_int .lss t9 (.int .i64 32)) h fun t10 h =>
  condW t10
  (J1 h)
  (runD (aF aI h t0 (.int .i64 0)) h fun t12 h =>
  runD (fitD T_int (loadD h t12)) h fun t13 h =>
  runD (aF aI h t0 (.int .i64 1)) h fun t15 h =>
  runD (fitD T_int (loadD h t15)) h fun t16 h =>
  runD (aF aI h t0 (.int .i64 2)) h fun t18 h =>
  runD (fitD T_int (loadD h t18)) h fun t19 h =>
  runD (aF aI h t0 (.int .i64 3)) h fun t21 h =>
  runD (fitD T_int (loadD h t21)) h fun t22 h =>
  runD (buildD cI [(0, t13), (1, t16), (2, t19), (3, t22)]) h fun t23 h =>
  runH (storeH cI h t5 t23) h fun _ h =>
  runD (fitD cI (loadD h t5)) h fun t24 h =>
  runD (aB cI t5 1) h fun t25 h =>
  runD (fitD T_int (loadD h t25)) h fun t26 h =>
  runD (aB cI t5 3) h fun t27 h =>
  runD (fitD T_int (loadD h t27)) h fun t28 h =>
  callW false c.noS (.fn (.func 65) [] []) [t26, t28] h (fun t29 h =>
  runD (binD cI .neq t24 t29) h fun t30 h =>
  joinW (fun (J2 : AV → AV → List AObj → Prop) =>
  guardW t30 false
  (runD (fitD cI (loadD h t5)) h fun t32 h =>
    callW false c.noS (.fn (.func 66) [] []) [t32] h (fun t33 h =>
    runD (unD .not t33) h fun t34 h =>
    J2 (.bool false) t34 h)
    (fun _ _ => False))
  (J2 (.bool true) .und h))
  (fun t31 t34 h => runD (pickD t31 (.bool true) t34) h fun t35 h =>
  joinW (fun (J3 : AV → AV → List AObj → Prop) =>
  guardW t35 false
  (runD (aB cI t5 1) h fun t37 h =>
    runD (fitD T_int (loadD h t37)) h fun t38 h =>
    runD (lenD aI h t0) h fun t40 h =>
    runD (binD T_int .quo t40 (.int .i64 16)) h fun t41 h =>
    runD (binD T_int .neq t38 t41) h fun t42 h =>
    J3 (.bool false) t42 h)
  (J3 (.bool true) .und h))
  (fun t36 t42 h => runD (pickD t36 (.bool true) t42) h fun t43 h =>
  condW t43
  (J1 h)
  (runD (sliceD aI h t0 (some (.int .i64 4)) (some (.int .i64 16)) none) h fun t45 h =>
  runD (lenD aI h t45) h fun t46 h =>
  joinW (fun (J4 : AV → List AObj → Prop) =>
  promV [false] [(.int .i64 0)] h fun lv h => eB.L1 c J1 J4 K (AV.norms h.length h lv) (normH h.length h) h.length (AV.norm h.length h t5) (AV.norm h.length h t45) (AV.norm h.length h t46))
  (fun t5 h => runD (aB cI t5 1) h fun t54 h =>
  runD (fitD T_int (loadD h t54)) h fun t55 h =>
  runD (aB cI t5 3) h fun t56 h =>
  runD (fitD T_int (loadD h t56)) h fun t57 h =>
  K (.ret (.tup [t55, t57, (.int .i64 0)])) h)))))
  (fun _ _ => False)))
  (fun h => K (.ret (.tup [(.int .i64 0), (.int .i64 0), (.int .i64 80)])) h)
def eI.loops : Nat → LInfo
  | _ => ⟨[], [], [], [], [], []⟩
def eI.H (c : Ctx) (t0 : AV) (t1 : AV) (h : List AObj) (K : AOut → List AObj → Prop) : Prop :=
  callW false c (.fn (.func 65) [] []) [t0, t1] h (fun t10 h =>
  allocW cI h fun t6 h =>
  runH (storeH cI h t6 t10) h fun _ h =>
  runD (fitD cI (loadD h t6)) h fun t11 h =>
  callW false c (.fn (.func 66) [] []) [t11] h (fun t12 h =>
  runD (unD .not t12) h fun t13 h =>
  condW t13
  (K (.ret (.tup [(.sl true (.ints .i64 [])), (.int .i64 1)])) h)
  (runD (gC aI (.int .i64 16) (.int .i64 16) h.length) h fun t14 h =>
  runD (aB cI t6 0) h fun t16 h =>
  runD (fitD T_int (loadD h t16)) h fun t17 h =>
  runD (aB cI t6 1) h fun t18 h =>
  runD (fitD T_int (loadD h t18)) h fun t19 h =>
  runD (aB cI t6 2) h fun t20 h =>
  runD (fitD T_int (loadD h t20)) h fun t21 h =>
  runD (aB cI t6 3) h fun t22 h =>
  runD (fitD T_int (loadD h t22)) h fun t23 h =>
  runD (fB aI 4 [(0, t17), (1, t19), (2, t21), (3, t23)] h.length) h fun t24 h =>
  runM (copyH aI h t14 t24) h fun t25 h =>
  K (.ret (.tup [t14, (.int .i64 0)])) h))
  (fun v h => K (.pan v) h))
  (fun v h => K (.pan v) h)
def fE.loops : Nat → LInfo
  | _ => ⟨[], [], [], [], [], []⟩
def fE.H (c : Ctx) (t0 : AV) (t1 : AV) (h : List AObj) (K : AOut → List AObj → Prop) : Prop :=
  allocW cI h fun t4 h =>
  runD (fB aI 2 [(0, (.int .i64 7015)), (1, t0)] h.length) h fun t7 h =>
  callW false c (.fn (.func 93) [] []) [t7] h (fun t8 h =>
  runD (buildD cI [(0, (.int .i64 7015)), (1, t0), (2, t8), (3, t1)]) h fun t10 h =>
  runH (storeH cI h t4 t10) h fun _ h =>
  loadRes (fitD cI (loadD h t4)) fun r0 => K (.ret r0) h)
  (fun v h => K (.pan v) h)
def cO.loops : Nat → LInfo
  | 1 => ⟨[], [], [], [(4, none), (3, some [6, 9]), (2, none), (3, some [11, 14]), (2, none), (5, some [16, 21])], [], []⟩
  | _ => ⟨[], [], [], [], [], []⟩
def cO.H (c : Ctx) (t0 : AV) (h : List AObj) (K : AOut → List AObj → Prop) : Prop :=
  boxW cI t0 h fun t1 h =>
  runD (aB cI t1 1) h fun t3 h =>
  runD (fitD T_int (loadD h t3)) h fun t4 h =>
  runD (binD T_int .geq t4 (.int .i64 2)) h fun t5 h =>
  joinW (fun (J1 : AV → AV → List AObj → Prop) =>
  guardW t5 true
  (runD (aB cI t1 1) h fun t7 h =>
    runD (fitD T_int (loadD h t7)) h fun t8 h =>
    runD (binD T_int .leq t8 (.int .i64 256)) h fun t9 h =>
    J1 (.bool true) t9 h)
  (J1 (.bool false) .und h))
  (fun t6 t9 h => runD (pickD t6 t9 (.bool false)) h fun t10 h =>
  joinW (fun (J2 : AV → AV → List AObj → Prop) =>
  guardW t10 true
  (runD (aB cI t1 3) h fun t12 h =>
    runD (fitD T_int (loadD h t12)) h fun t13 h =>
    runD (binD T_int .geq t13 (.int .i64 1)) h fun t14 h =>
    J2 (.bool true) t14 h)
  (J2 (.bool false) .und h))
  (fun t11 t14 h => runD (pickD t11 t14 (.bool false)) h fun t15 h =>
  joinW (fun (J3 : AV → AV → List AObj → Prop) =>
  guardW t15 true
  (runD (aB cI t1 3) h fun t17 h =>
    runD (fitD T_int (loadD h t17)) h fun t18 h =>
    runD (aB cI t1 1) h fun t19 h =>
    runD (fitD T_int (loadD h t19)) h fun t20 h =>
    runD (binD T_int .lss t18 t20) h fun t21 h =>
    J3 (.bool true) t21 h)
  (J3 (.bool false) .und h))
  (fun t16 t21 h => runD (pickD t16 t21 (.bool false)) h fun t22 h =>
  K (.ret t22) h)))
theorem eB.eq (F : List (FuncId × aD)) (S : List (FuncId × Con)) (t0 : AV) (h : List AObj) (K : AOut → List AObj → Prop) : funW (ctx F S eB.loops) Tryz.f38 [t0] h K = eB.H (ctx F S eB.loops) t0 h K := by kernel_rfl
theorem eI.eq (F : List (FuncId × aD)) (S : List (FuncId × Con)) (t0 t1 : AV) (h : List AObj) (K : AOut → List AObj → Prop) : funW (ctx F S eI.loops) Tryz.f56 [t0, t1] h K = eI.H (ctx F S eI.loops) t0 t1 h K := by kernel_rfl
theorem fE.eq (F : List (FuncId × aD)) (S : List (FuncId × Con)) (t0 t1 : AV) (h : List AObj) (K : AOut → List AObj → Prop) : funW (ctx F S fE.loops) Tryz.f65 [t0, t1] h K = fE.H (ctx F S fE.loops) t0 t1 h K := by kernel_rfl
theorem cO.eq (F : List (FuncId × aD)) (S : List (FuncId × Con)) (t0 : AV) (h : List AObj) (K : AOut → List AObj → Prop) : funW (ctx F S cO.loops) Tryz.f66 [t0] h K = cO.H (ctx F S cO.loops) t0 h K := by kernel_rfl
theorem eB.at : Tryz.prog.funcs[38]? = some Tryz.f38 := by kernel_rfl
theorem eB.nm : (Tryz.f38.name == "runtime.NumGoroutine") = false := by kernel_rfl
theorem eB.bd : Tryz.f38.body.isNone = false := by kernel_rfl
theorem eI.at : Tryz.prog.funcs[56]? = some Tryz.f56 := by kernel_rfl
theorem eI.nm : (Tryz.f56.name == "runtime.NumGoroutine") = false := by kernel_rfl
theorem eI.bd : Tryz.f56.body.isNone = false := by kernel_rfl
theorem fE.at : Tryz.prog.funcs[65]? = some Tryz.f65 := by kernel_rfl
theorem fE.nm : (Tryz.f65.name == "runtime.NumGoroutine") = false := by kernel_rfl
theorem fE.bd : Tryz.f65.body.isNone = false := by kernel_rfl
theorem cO.at : Tryz.prog.funcs[66]? = some Tryz.f66 := by kernel_rfl
theorem cO.nm : (Tryz.f66.name == "runtime.NumGoroutine") = false := by kernel_rfl
theorem cO.bd : Tryz.f66.body.isNone = false := by kernel_rfl
end Lam
namespace Lam
open Go Go.Proofs
set_option linter.unusedVariables false
set_option linter.unnecessarySimpa false
set_option linter.unusedSimpArgs false
def headV (b r : Int) : AV := .agg [.int .i64 7015, .int .i64 b, .int .i64 (sumOf [7015, b]), .int .i64 r]
def fE.C : aD
  | [.int .i64 b, .int .i64 r] => some (false, pD True (headV b r))
  | _ => none
set_option maxRecDepth 20000 in
theorem fE.spec : FSpec Tryz.prog 65 fE.C := by
  refine FSpec.of (ctx_ok (F := [(93, sum_Of.C)]) (S := []) (by simpa using sum_Of.spec) (by simp) fE.loops) fE.at fE.nm fE.bd ?_
  intro vs b S v news e hS
  unfold fE.C at e
  split at e
  rotate_left
  · cases e
  cases e
  rw [fE.eq]
  unfold fE.H
  simp (maxSteps := 4000000) only [go_sem, Nat.reduceEqDiff, Nat.reduceLT, Nat.reduceAdd, Nat.reduceSub, Nat.reduceLeDiff, List.reduceReplicate, Int.reduceToNat, sum_Of.C]
  exact ⟨by unfold roomy; decide, aH rfl rfl⟩
def mayB (b r : Int) : Bool := decide (2 ≤ b) && decide (b ≤ 256) && decide (1 ≤ r) && decide (r < b)
def cO.C : aD
  | [.agg [.int .i64 _, .int .i64 b, .int .i64 _, .int .i64 r]] => some (false, pD True (.bool (mayB b r)))
  | _ => none
set_option maxRecDepth 20000 in
theorem cO.spec : FSpec Tryz.prog 66 cO.C := by
  refine FSpec.of (ctx_ok (F := []) (S := []) (by simp) (by simp) cO.loops) cO.at cO.nm cO.bd ?_
  intro vs b S v news e hS
  unfold cO.C at e
  split at e
  rotate_left
  · cases e
  cases e
  rw [cO.eq]
  unfold cO.H
  simp (maxSteps := 4000000) only [go_sem, Nat.reduceEqDiff, Nat.reduceLT, Nat.reduceAdd, Nat.reduceSub, Nat.reduceLeDiff, List.reduceReplicate, Int.reduceToNat]
  exact aH rfl rfl
def superW (b r : Int) : List Int := [7015, b, sumOf [7015, b], r] ++ List.replicate 12 0
def eI.C : aD
  | [.int .i64 b, .int .i64 r] => some (false, pD True (if mayB b r = true then .tup [.sl false (.ints .i64 (superW b r)), .int .i64 0] else .tup [.sl false (.ints .i64 []), .int .i64 1]))
  | _ => none
set_option maxRecDepth 20000 in
theorem eI.spec : FSpec Tryz.prog 56 eI.C := by
  refine FSpec.of (ctx_ok (F := [(65, fE.C), (66, cO.C)]) (S := []) (by simpa using ⟨fE.spec, cO.spec⟩) (by simp) eI.loops) eI.at eI.nm eI.bd ?_
  intro vs b S v news e hS
  unfold eI.C at e
  split at e
  rotate_left
  · cases e
  cases e
  rw [eI.eq]
  unfold eI.H
  simp (maxSteps := 4000000) only [go_sem, Nat.reduceEqDiff, Nat.reduceLT, Nat.reduceAdd, Nat.reduceSub, Nat.reduceLeDiff, List.reduceReplicate, Int.reduceToNat, fE.C, cO.C, headV]
  refine ⟨fun h => ?_, fun h => ?_⟩
  · simp only [h, Bool.false_eq_true, if_false]; exact aH rfl rfl
  · refine ⟨by unfold roomy; decide, ?_⟩
    simp only [h, if_true]; exact aH rfl rfl

def headB (l : List Int) : Bool := decide (l.getD 0 0 = 7015) && decide (l.getD 2 0 = sumOf [7015, l.getD 1 0]) && mayB (l.getD 1 0) (l.getD 3 0) && decide (l.getD 1 0 = ((l.length / 16 : Nat) : Int))
def readB (l : List Int) : Bool := decide (32 ≤ l.length) && headB l && ((l.drop 4).take 12).all (fun w => decide (w = 0))
theorem bnot3 (a b m d : Bool) : (!(a && b) || !m || !d) = !(a && b && m && d) := by cases a <;> cases b <;> cases m <;> cases d <;> rfl
def sreadV (l : List Int) : AV := if readB l = true then .tup [.int .i64 (l.getD 1 0), .int .i64 (l.getD 3 0), .int .i64 0] else .tup [.int .i64 0, .int .i64 0, .int .i64 80]
@[go_sem] theorem aEk (l : List Int) : (sreadV l).noSl = true := by unfold sreadV; split <;> rfl
def eB.C : aD
  | [.sl _ (.ints .i64 l)] => some (false, pD (roomy l.length) (sreadV l))
  | _ => none
theorem rH (l : List Int) (hb : readB l = false) (h : List AObj) : Post false (sreadV l) [] (.ret (.tup [.int .i64 0, .int .i64 0, .int .i64 80])) h := by
  unfold sreadV; rw [hb]; exact aH rfl rfl
set_option maxRecDepth 20000 in
theorem eB.spec : FSpec Tryz.prog 38 eB.C := by
  refine FSpec.of (ctx_ok (F := [(65, fE.C), (66, cO.C)]) (S := []) (by simpa using ⟨fE.spec, cO.spec⟩) (by simp) eB.loops) eB.at eB.nm eB.bd ?_
  intro vs b S v news e hS
  unfold eB.C at e
  split at e
  rotate_left
  · cases e
  cases e
  rw [eB.eq]
  unfold eB.H
  simp (maxSteps := 4000000) only [go_sem, Nat.reduceEqDiff, Nat.reduceLT, Nat.reduceAdd, Nat.reduceSub, Nat.reduceLeDiff, List.reduceReplicate, Int.reduceToNat, fE.C, cO.C, headV]
  rename_i l
  unfold roomy at hS
  have hw : IntKind.i64.wrap ((l.length : Int).tdiv 16) = ((l.length / 16 : Nat) : Int) := by rw [tdiv16]; apply w64 <;> omega
  rw [aA]
  refine ⟨fun h => ?_, fun h => ?_⟩
  · apply rH
    have : ¬ 32 ≤ l.length := by omega
    simp [readB, this]
  refine ⟨by omega, by omega, by omega, by omega, by simp, ?_⟩
  rw [hw, bnot3]
  refine ⟨fun hc => rH l ?_ _, fun hc => ⟨by omega, ?_⟩⟩
  · have hc : headB l = false := by rw [Bool.not_eq_true'] at hc; exact hc
    simp [readB, hc]
  · have hc : headB l = true := by rw [Bool.not_eq_false'] at hc; exact hc
    have h32 : 32 ≤ l.length := by omega
    have hlen : ((l.drop 4).take 12).length = 12 := by simp; omega
    rw [aA]
    unfold eB.L1
    generalize hz : (l.drop 4).take 12 = z at *
    refine ⟨fun m lv h' => ∃ k : Nat, k + m = z.length ∧ lv = [.int .i64 k] ∧ h' = [.box (.agg [.int .i64 (l.getD 0 0), .int .i64 (l.getD 1 0), .int .i64 (l.getD 2 0), .int .i64 (l.getD 3 0)])] ∧ ∀ y ∈ z.take k, y = 0, ⟨z.length, 0, by omega, rfl, rfl, by simp⟩, ?_⟩
    rintro m h' t8 ⟨k, hk, hlv, rfl, hall⟩
    simp only [List.cons.injEq, and_true] at hlv
    subst hlv
    simp only [go_sem, Nat.reduceEqDiff, Nat.reduceLT, Nat.reduceAdd, Nat.reduceSub, Nat.reduceLeDiff, List.reduceReplicate, Int.reduceToNat]
    refine ⟨fun hlt => ⟨by omega, fun h0 => ?_, fun h0 => ?_⟩, fun hge => ?_⟩
    · apply rH
      have hkz : k < z.length := by omega
      have : z.all (fun w => decide (w = 0)) = false := by
        rw [List.all_eq_false]; exact ⟨_, gH z k 0 hkz, by simpa using h0⟩
      simp [readB, hz, this]
    · have hkz : k < z.length := by omega
      refine ⟨m - 1, by omega, k + 1, by omega, by rw [w64 (by omega) (by omega)]; rfl, ?_⟩
      intro y hy
      rw [gA z k 0 hkz] at hy
      rcases List.mem_append.1 hy with hy | hy
      · exact hall y hy
      · rw [List.mem_singleton.1 hy]; exact h0
    · have : k = z.length := by omega
      subst this
      rw [List.take_length] at hall
      have ha : z.all (fun w => decide (w = 0)) = true := by
        rw [List.all_eq_true]; intro y hy; simpa using hall y hy
      have hb : readB l = true := by simp [readB, hz, ha, hc, h32]
      unfold sreadV
      rw [if_pos hb]
      exact aH rfl rfl

end Lam
namespace Lam
open Go Go.Proofs
set_option linter.unusedVariables false
set_option linter.unnecessarySimpa false
set_option linter.unusedSimpArgs false
def eS.C : aD
  | [.int .i64 b] => some (false, pD True (.bool (nodeB b)))
  | _ => none
set_option maxRecDepth 20000 in
theorem eS.spec : FSpec Tryz.prog 94 eS.C := by
  refine FSpec.of (ctx_ok (F := []) (S := []) (by simp) (by simp) eS.loops) eS.at eS.nm eS.bd ?_
  intro vs b S v news e hS
  unfold eS.C at e
  split at e
  rotate_left
  · cases e
  cases e
  rw [eS.eq]
  unfold eS.H
  simp (maxSteps := 4000000) only [go_sem, Nat.reduceEqDiff, Nat.reduceLT, Nat.reduceAdd, Nat.reduceSub, Nat.reduceLeDiff, List.reduceReplicate, Int.reduceToNat]
  exact ⟨fun _ => by decide, aH rfl rfl⟩
def eV.C : aD
  | [.int .i64 b, .int .i64 s] => some (false, pD True (.int .i64 (placeI b s)))
  | _ => none
set_option maxRecDepth 20000 in
theorem eV.spec : FSpec Tryz.prog 68 eV.C := by
  refine FSpec.of (ctx_ok (F := [(94, eS.C)]) (S := []) (by simpa using eS.spec) (by simp) eV.loops) eV.at eV.nm eV.bd ?_
  intro vs b S v news e hS
  unfold eV.C at e
  split at e
  rotate_left
  · cases e
  cases e
  rw [eV.eq]
  unfold eV.H
  simp (maxSteps := 4000000) only [go_sem, Nat.reduceEqDiff, Nat.reduceLT, Nat.reduceAdd, Nat.reduceSub, Nat.reduceLeDiff, List.reduceReplicate, Int.reduceToNat, eS.C]
  rename_i b s
  have e : (!nodeB b || decide (s < 0) || decide (13 ≤ s)) = !(nodeB b && decide (0 ≤ s) && decide (s < 13)) := by
    cases nodeB b
    · rfl
    · rw [Bool.eq_iff_iff]; simp only [Bool.and_eq_true, Bool.or_eq_true, Bool.not_eq_true', Bool.not_eq_false', Bool.not_eq_true, decide_eq_true_eq, decide_eq_false_iff_not, Bool.or_eq_false_iff, Bool.and_eq_false_iff, beq_iff_eq]; simp <;> omega
  rw [e]
  unfold placeI
  refine ⟨fun h => ?_, fun h => ?_⟩
  · rw [Bool.not_eq_true'] at h
    rw [h]; exact aH rfl rfl
  · rw [Bool.not_eq_false'] at h
    rw [h]; exact aH rfl rfl
def eW.C : aD
  | [.sl _ (.ints .i64 l), .int .i64 b] => some (false, pD (roomy l.length ∧ b ≤ 1099511627776) (.sl false (.ints .i64 (slotsOf l b))))
  | _ => none
set_option maxRecDepth 20000 in
theorem eW.spec : FSpec Tryz.prog 80 eW.C := by
  refine FSpec.of (ctx_ok (F := [(94, eS.C), (102, bB.C), (34, aT.C)]) (S := []) (by simpa using ⟨eS.spec, bB.spec, aT.spec⟩) (by simp) eW.loops) eW.at eW.nm eW.bd ?_
  intro vs b S v news e hS
  unfold eW.C at e
  split at e
  rotate_left
  · cases e
  cases e
  rw [eW.eq]
  unfold eW.H
  simp (maxSteps := 4000000) only [go_sem, Nat.reduceEqDiff, Nat.reduceLT, Nat.reduceAdd, Nat.reduceSub, Nat.reduceLeDiff, List.reduceReplicate, Int.reduceToNat, eS.C, bB.C, aT.C]
  rename_i _ l b
  obtain ⟨hr, hb⟩ := hS
  unfold roomy at hr
  cases hn : nodeB b with
  | false =>
    refine ⟨fun h => ?_, fun h => by simp at h⟩
    unfold slotsOf; rw [hn]; exact aH rfl rfl
  | true =>
    have hbb := (rE hb).1 hn
    have e1 : IntKind.i64.wrap (b + 16) = b + 16 := w64 (by omega) (by omega)
    have e2 : IntKind.i64.wrap (b + 3) = b + 3 := w64 (by omega) (by omega)
    rw [e1, e2]
    by_cases hlt : (l.length : Int) < b + 16
    · refine ⟨fun h => ?_, fun h => by simp at h; omega⟩
      unfold slotsOf; rw [hn, decide_eq_false (by omega)]; exact aH rfl rfl
    · refine ⟨fun h => by simp at h; omega, fun h => ⟨by omega, ?_⟩⟩
      have e3 : (b + 16).toNat - (b + 3).toNat = 13 := by omega
      have e4 : (b + 3).toNat = b.toNat + 3 := by omega
      have hsl : slotsOf l b = upTo ((l.drop (b.toNat + 3)).take 13) := by
        unfold slotsOf; rw [hn, decide_eq_true (by omega)]; rfl
      rw [e3, e4, hsl]
      have hlen : ((l.drop (b.toNat + 3)).take 13).length = 13 := by simp; omega
      generalize (l.drop (b.toNat + 3)).take 13 = z at *
      have hu := aBT z
      have hir := aAg lt1 z
      have hul : (upTo z).length ≤ z.length := by rw [← hu]; exact List.length_take_le' _ _
      refine ⟨by unfold roomy; omega, ?_⟩
      rw [aA]
      refine ⟨fun h => ?_, fun h => ?_⟩
      · rw [if_pos h] at hu
        rw [Int.toNat_natCast, List.take_length] at hu
        simp only [aT.C, Int.toNat_natCast, List.take_length, go_sem, Nat.reduceEqDiff, Nat.reduceLT, Nat.reduceAdd, Nat.reduceSub, Nat.reduceLeDiff, List.reduceReplicate, Int.reduceToNat]
        refine ⟨by omega, by unfold roomy; omega, aH ?_ rfl⟩
        simp only [go_sem, Nat.reduceEqDiff, Nat.reduceLT, Nat.reduceAdd, Nat.reduceSub, Nat.reduceLeDiff, List.reduceReplicate, Int.reduceToNat, List.take_length]
        rw [← hu]
      · rw [if_neg h] at hu
        simp only [aT.C, hu, go_sem, Nat.reduceEqDiff, Nat.reduceLT, Nat.reduceAdd, Nat.reduceSub, Nat.reduceLeDiff, List.reduceReplicate, Int.reduceToNat]
        refine ⟨by omega, by unfold roomy; omega, aH ?_ rfl⟩
        simp only [go_sem, Nat.reduceEqDiff, Nat.reduceLT, Nat.reduceAdd, Nat.reduceSub, Nat.reduceLeDiff, List.reduceReplicate, Int.reduceToNat, List.take_length]
end Lam
namespace Lam
open Go Go.Proofs
set_option linter.unusedVariables false
set_option linter.unnecessarySimpa false
set_option linter.unusedSimpArgs false
def eX.C : aD
  | [.agg [.int .i64 a, .int .i64 b, .int .i64 c, .int .i64 d, .sl false (.ints .i64 l)]] => some (false, pD True (.bool (ndB ⟨a, b, c, d, l⟩)))
  | _ => none
set_option maxRecDepth 20000 in
theorem eX.spec : FSpec Tryz.prog 86 eX.C := by
  refine FSpec.of (ctx_ok (F := [(105, dQ.C), (106, bJ.C)]) (S := []) (by simpa using ⟨dQ.spec, bJ.spec⟩) (by simp) eX.loops) eX.at eX.nm eX.bd ?_
  intro vs b S v news e hS
  unfold eX.C at e
  split at e
  rotate_left
  · cases e
  cases e
  rw [eX.eq]
  unfold eX.H
  simp (maxSteps := 4000000) only [go_sem, Nat.reduceEqDiff, Nat.reduceLT, Nat.reduceAdd, Nat.reduceSub, Nat.reduceLeDiff, List.reduceReplicate, Int.reduceToNat, dQ.C, bJ.C]
  rename_i a b c d l
  have h1 : (a < 0 ∨ 9 < a ∨ b < 0 ∨ 1099511627776 < b ∨ blockB c = false ∨ blockB d = false ∨ 13 < (l.length : Int)) → ndB ⟨a, b, c, d, l⟩ = false := by
    intro h
    rw [Bool.eq_false_iff]
    intro hh
    obtain ⟨q1, q2, q3, q4, q5, q6, q7, q8⟩ := nd_iff.1 hh
    simp only at q1 q2 q3 q4 q5 q6 q7 q8
    unfold blockB at h
    simp only [Bool.and_eq_false_iff, decide_eq_false_iff_not] at h
    omega
  have h2 : ¬ (a < 0 ∨ 9 < a ∨ b < 0 ∨ 1099511627776 < b ∨ blockB c = false ∨ blockB d = false ∨ 13 < (l.length : Int)) → ndB ⟨a, b, c, d, l⟩ = !l.any noBlock := by
    intro h
    simp only [not_or, Bool.not_eq_false] at h
    obtain ⟨q1, q2, q3, q4, q5, q6, q7⟩ := h
    unfold ndB
    rw [decide_eq_true (show 0 ≤ a by omega), decide_eq_true (show a ≤ 9 by omega), decide_eq_true (show 0 ≤ b by omega), decide_eq_true (show b ≤ 1099511627776 by omega), q5, q6, decide_eq_true (show l.length ≤ 13 by omega)]
    rfl
  generalize ndB ⟨a, b, c, d, l⟩ = R at *
  simp only [dQ.C, bJ.C, aA, gq, Int.reduceEq, Int.reduceLT, Int.reduceLE, implies_true, reduceCtorEq, if_true, if_false, go_sem, Nat.reduceEqDiff, Nat.reduceLT, Nat.reduceAdd, Nat.reduceSub, Nat.reduceLeDiff, List.reduceReplicate, Int.reduceToNat]
  repeat' (first | (with_reducible apply And.intro) | (with_reducible intro _))
  all_goals first
    | omega
    | (unfold roomy; omega)
    | (exfalso; simp_all; done)
    | (rw [h1 (by grind)]; exact aH rfl rfl)
    | (rw [h2 (by grind)]; exact aH rfl rfl)
    | skip
  all_goals trace_state
def eY.C : aD
  | [.agg [.int .i64 a, .int .i64 b, .int .i64 c, .int .i64 d, .sl false (.ints .i64 l)]] => some (false, pD (0 ≤ a ∧ a ≤ 9 ∧ 0 ≤ b ∧ b ≤ 1099511627776) (.int .i64 (firstN ⟨a, b, c, d, l⟩)))
  | _ => none
set_option maxRecDepth 20000 in
theorem eY.spec : FSpec Tryz.prog 87 eY.C := by
  refine FSpec.of (ctx_ok (F := []) (S := []) (by simp) (by simp) eY.loops) eY.at eY.nm eY.bd ?_
  intro vs b S v news e hS
  unfold eY.C at e
  split at e
  rotate_left
  · cases e
  cases e
  rw [eY.eq]
  unfold eY.H
  simp (maxSteps := 4000000) only [go_sem, Nat.reduceEqDiff, Nat.reduceLT, Nat.reduceAdd, Nat.reduceSub, Nat.reduceLeDiff, List.reduceReplicate, Int.reduceToNat]
  rename_i a b c d l
  rw [aAl hS.1 (by omega) hS.2.2.1 hS.2.2.2]
  exact ⟨by decide, aH rfl rfl⟩
def wordsV (n : Nd) : AV := if ndB n = true then .tup [.sl false (.ints .i64 (wordsNd n)), .int .i64 0] else .tup [.sl false (.ints .i64 []), .int .i64 90]
def dY.C : aD
  | [.agg [.int .i64 a, .int .i64 b, .int .i64 c, .int .i64 d, .sl false (.ints .i64 l)]] => some (false, pD True (wordsV ⟨a, b, c, d, l⟩))
  | _ => none
set_option maxRecDepth 20000 in
theorem dY.spec : FSpec Tryz.prog 57 dY.C := by
  refine FSpec.of (ctx_ok (F := [(86, eX.C), (87, eY.C)]) (S := []) (by simpa using ⟨eX.spec, eY.spec⟩) (by simp) dY.loops) dY.at dY.nm dY.bd ?_
  intro vs b S v news e hS
  unfold dY.C at e
  split at e
  rotate_left
  · cases e
  cases e
  rw [dY.eq]
  unfold dY.H
  simp (maxSteps := 4000000) only [go_sem, Nat.reduceEqDiff, Nat.reduceLT, Nat.reduceAdd, Nat.reduceSub, Nat.reduceLeDiff, List.reduceReplicate, Int.reduceToNat, eX.C, eY.C]
  rename_i a b c d l
  refine ⟨fun h => ?_, fun h => ?_⟩
  · unfold wordsV; rw [h]; exact aH rfl rfl
  · have hok := nd_iff.1 h
    obtain ⟨q1, q2, q3, q4, _, _, q7, _⟩ := hok
    simp only at q1 q2 q3 q4 q7
    have hw : firstN ⟨a, b, c, d, l⟩ :: c :: d :: (l.take 13 ++ List.take (16 - (3 + min 13 l.length)) (List.drop (3 + min 13 l.length) [firstN ⟨a, b, c, d, l⟩, c, d, 0, 0, 0, 0, 0, 0, 0, 0, 0, 0, 0, 0, 0])) = wordsNd ⟨a, b, c, d, l⟩ := by
      unfold wordsNd
      simp only
      rw [jI l q7, Nat.min_eq_right q7]
      congr 4
      have : ∀ k, k ≤ 13 → List.take (16 - (3 + k)) (List.drop (3 + k) [firstN ⟨a, b, c, d, l⟩, c, d, 0, 0, 0, 0, 0, 0, 0, 0, 0, 0, 0, 0, 0]) = List.replicate (13 - k) 0 := by
        intro k hk
        rcases k with _|_|_|_|_|_|_|_|_|_|_|_|_|_|k <;> first | rfl | omega
      exact this _ q7
    rw [hw]
    unfold wordsV; simp only [h, if_true]
    refine ⟨⟨by decide, by decide, by unfold roomy; omega⟩, ⟨q1, q2, q3, q4⟩, ⟨by decide, by decide⟩, ⟨by decide, by decide⟩, ⟨by decide, by decide⟩, rfl, rfl, rfl, ⟨by decide, by decide⟩, aH ?_ rfl⟩
    simp only [go_sem, Nat.reduceEqDiff, Nat.reduceLT, Nat.reduceAdd, Nat.reduceSub, Nat.reduceLeDiff, List.reduceReplicate, Int.reduceToNat]
    rw [jI _ (Nat.le_of_eq (pG (nd_iff.1 h)))]
def readV (words : List Int) (at_ : Int) : AV := if (decide (at_ < 0) || decide (((words.length / 16 : Nat) : Int) ≤ at_)) = true then .tup [zeroNd.V, .int .i64 1] else match readN (blockAt words at_.toNat) with
  | some n => .tup [n.V, .int .i64 0]
  | none => .tup [zeroNd.V, .int .i64 90]
def bY.C : aD
  | [.sl _ (.ints .i64 l), .int .i64 k] => some (false, pD (roomy l.length) (readV l k))
  | _ => none
set_option maxRecDepth 20000 in
theorem bY.spec : FSpec Tryz.prog 46 bY.C := by
  refine FSpec.of (ctx_ok (F := [(80, eW.C), (57, dY.C), (35, bI.C)]) (S := []) (by simpa using ⟨eW.spec, dY.spec, bI.spec⟩) (by simp) bY.loops) bY.at bY.nm bY.bd ?_
  intro vs b S v news e hS
  unfold bY.C at e
  split at e
  rotate_left
  · cases e
  cases e
  rw [bY.eq]
  unfold bY.H
  simp (maxSteps := 4000000) only [go_sem, Nat.reduceEqDiff, Nat.reduceLT, Nat.reduceAdd, Nat.reduceSub, Nat.reduceLeDiff, List.reduceReplicate, Int.reduceToNat, eW.C, dY.C, bI.C]
  rename_i l k
  have hrl := hS
  unfold roomy at hS
  have e0 : IntKind.i64.wrap ((l.length : Int).tdiv 16) = ((l.length / 16 : Nat) : Int) := by
    rw [Int.tdiv_eq_ediv_of_nonneg (by omega)]; exact w64 (by omega) (by omega)
  rw [e0]
  unfold readV
  refine ⟨fun _ => by decide, fun h => ?_, fun h => ?_⟩
  · rw [if_pos h]
    refine aH ?_ rfl
    simp only [zeroNd, go_sem, Nat.reduceEqDiff, Nat.reduceLT, Nat.reduceAdd, Nat.reduceSub, Nat.reduceLeDiff, List.reduceReplicate, Int.reduceToNat]
  · rw [h]
    simp only [Bool.or_eq_false_iff, decide_eq_false_iff_not] at h
    obtain ⟨k, rfl⟩ := Int.eq_ofNat_of_zero_le (show 0 ≤ k by omega)
    have hk : 16 * k + 16 ≤ l.length := by omega
    have e1 : IntKind.i64.wrap (16 * (k : Int)) = 16 * (k : Int) := w64 (by omega) (by omega)
    have e2 : IntKind.i64.wrap ((k : Int) + 1) = (k : Int) + 1 := w64 (by omega) (by omega)
    have e3 : IntKind.i64.wrap (16 * ((k : Int) + 1)) = 16 * ((k : Int) + 1) := w64 (by omega) (by omega)
    have e4 : (16 * ((k : Int) + 1)).toNat - (16 * (k : Int)).toNat = 16 := by omega
    have e5 : (16 * (k : Int)).toNat = 16 * k := by omega
    have eb : (l.drop (16 * k)).take 16 = blockAt l k := rfl
    have hbl : (blockAt l k).length = 16 := by unfold blockAt; simp; omega
    rw [e2, e1, e3, e4, e5, eb, Int.toNat_natCast]
    generalize blockAt l k = w at *
    have hdp : (⟨andI .i64 (w.getD 0 0) 15, (andNotI .i64 (w.getD 0 0) 1152921504606846976).fdiv (2 ^ min 4 64), w.getD 1 0, w.getD 2 0, slotsOf w 0⟩ : Nd) = decP w := rfl
    have hV : (decP w).V = .agg [.int .i64 (andI .i64 (w.getD 0 0) 15), .int .i64 ((andNotI .i64 (w.getD 0 0) 1152921504606846976).fdiv (2 ^ min 4 64)), .int .i64 (w.getD 1 0), .int .i64 (w.getD 2 0), .sl false (.ints .i64 (slotsOf w 0))] := rfl
    rw [hdp, hbl, ← aBW]
    have hsr := vO w 0
    refine ⟨by omega, by omega, by omega, by decide, by omega, by omega, ⟨by unfold roomy; omega, by decide⟩, ?_⟩
    unfold readBy wordsV
    cases hd : ndB (decP w) with
    | false =>
      simp only [Bool.false_eq_true, if_false, Bool.false_and, aA, aA, gq, Int.reduceEq, Int.reduceLT, Int.reduceLE, implies_true, reduceCtorEq, if_true, if_false, go_sem, Nat.reduceEqDiff, Nat.reduceLT, Nat.reduceAdd, Nat.reduceSub, Nat.reduceLeDiff, List.reduceReplicate, Int.reduceToNat]
      refine aH ?_ rfl
      simp only [zeroNd, go_sem, Nat.reduceEqDiff, Nat.reduceLT, Nat.reduceAdd, Nat.reduceSub, Nat.reduceLeDiff, List.reduceReplicate, Int.reduceToNat]
    | true =>
      have hok := nd_iff.1 hd
      have hwl := pG hok
      simp only [if_true, Bool.true_and, bI.C, hwl, hbl, aA, gq, Int.reduceEq, Int.reduceLT, Int.reduceLE, implies_true, reduceCtorEq, if_true, if_false, go_sem, Nat.reduceEqDiff, Nat.reduceLT, Nat.reduceAdd, Nat.reduceSub, Nat.reduceLeDiff, List.reduceReplicate, Int.reduceToNat]
      refine ⟨by unfold roomy; omega, fun h => ?_, fun h => ?_⟩
      · rw [if_neg h]
        refine aH ?_ rfl
        simp only [zeroNd, go_sem, Nat.reduceEqDiff, Nat.reduceLT, Nat.reduceAdd, Nat.reduceSub, Nat.reduceLeDiff, List.reduceReplicate, Int.reduceToNat]
      · rw [if_pos h]
        exact aH rfl rfl
end Lam
namespace Lam
open Go Go.Proofs
set_option linter.unusedVariables false
def eT.loops : Nat → LInfo
  | 1 => ⟨[], [], [], [(3, none), (3, some [5, 8])], [], []⟩
  | _ => ⟨[], [], [], [], [], []⟩
def eT.H (c : Ctx) (t0 : AV) (h : List AObj) (K : AOut → List AObj → Prop) : Prop :=
  runD (binD bN .neq t0 (.str [])) h fun t4 h =>
  joinW (fun (J1 : AV → AV → List AObj → Prop) =>
  guardW t4 true
  (runD (lenD bN h t0) h fun t7 h =>
    runD (binD T_int .leq t7 (.int .i64 21)) h fun t8 h =>
    J1 (.bool true) t8 h)
  (J1 (.bool false) .und h))
  (fun t5 t8 h => runD (pickD t5 t8 (.bool false)) h fun t9 h =>
  K (.ret t9) h)
def dH.loops : Nat → LInfo
  | 1 => ⟨[], [], [], [(3, none), (9, some [14, 23])], [], []⟩
  | 5 => ⟨[6, 31], [true, false], [1, 29, 30], [], [], []⟩
  | 7 => ⟨[], [], [], [(3, none), (2, some [37, 39])], [], []⟩
  | 10 => ⟨[6, 41], [true, false], [1, 8, 29, 30, 31], [], [], []⟩
  | 16 => ⟨[59], [false], [1, 6, 57, 58], [], [], []⟩
  | _ => ⟨[], [], [], [], [], []⟩
def dH.L2 (c : Ctx) (J5 : AV → AV → AV → AV → AV → List AObj → Prop) (K : AOut → List AObj → Prop) (lv : List AV) (h0 : List AObj) (n0 : Nat) (c1 : AV) (c8 : AV) (c29 : AV) (c30 : AV) (c31 : AV) : Prop :=
  ∃ I : Nat → List AV → List AObj → Prop, (∃ n, I n lv h0) ∧ ∀ n h, ∀ t6, ∀ t41, I n [t6, t41] h →
    runD (binD T_int .lss t41 (.int .i64 7)) h fun t42 h =>
    condW t42
    (runD (binD T_int .sub (.int .i64 6) t41) h fun t47 h =>
    runD (binD T_int .mul (.int .i64 8) t47) h fun t48 h =>
    runD (binD T_int .shr c8 t48) h fun t49 h =>
    runD (convD h T_int T_uint8 t49) h fun t50 h =>
    runD (fB gD 1 [(0, t50)] h.length) h fun t51 h =>
    runDM (appendD gD h t6 t51 h.length) (appendH gD h t6 t51) h fun t52 h =>
    runD (binD T_int .add t41 (.int .i64 1)) h fun t53 h =>
    (∃ m, m < n ∧ I m (AV.norms n0 h [t52, t53]) (normH n0 h)) ∧ AV.norms n0 h [c1, c8, c29, c30, c31] = [c1, c8, c29, c30, c31])
    (J5 c1 t6 c29 c30 c31 h)
def dH.L1 (c : Ctx) (J2 : AV → AV → List AObj → Prop) (K : AOut → List AObj → Prop) (lv : List AV) (h0 : List AObj) (n0 : Nat) (c1 : AV) (c29 : AV) (c30 : AV) : Prop :=
  ∃ I : Nat → List AV → List AObj → Prop, (∃ n, I n lv h0) ∧ ∀ n h, ∀ t6, ∀ t31, I n [t6, t31] h →
    runD (binD T_int .lss t31 c30) h fun t32 h =>
    condW t32
    (joinW (fun (J3 : AV → AV → AV → AV → AV → List AObj → Prop) =>
    runD (aF aI h c29 t31) h fun t33 h =>
    runD (fitD T_int (loadD h t33)) h fun t34 h =>
    runD (binD T_int .lss t34 (.int .i64 0)) h fun t36 h =>
    joinW (fun (J4 : AV → AV → List AObj → Prop) =>
    guardW t36 false
    (runD (binD T_int .geq t34 (.int .i64 72057594037927936)) h fun t39 h =>
      J4 (.bool false) t39 h)
    (J4 (.bool true) .und h))
    (fun t37 t39 h => runD (pickD t37 (.bool true) t39) h fun t40 h =>
    condW t40
    (K (.ret (.tup [(.str []), (.int .i64 20)])) h)
    (joinW (fun (J5 : AV → AV → AV → AV → AV → List AObj → Prop) =>
    promV [true, false] [t6, (.int .i64 0)] h fun lv h => dH.L2 c J5 K (AV.norms h.length h lv) (normH h.length h) h.length (AV.norm h.length h c1) (AV.norm h.length h t34) (AV.norm h.length h c29) (AV.norm h.length h c30) (AV.norm h.length h t31))
    (fun t1 t6 t29 t30 t31 h => J3 t1 t6 t29 t30 t31 h))))
    (fun t1 t6 t29 t30 t31 h => runD (binD T_int .add t31 (.int .i64 1)) h fun t54 h =>
    (∃ m, m < n ∧ I m (AV.norms n0 h [t6, t54]) (normH n0 h)) ∧ AV.norms n0 h [t1, t29, t30] = [c1, c29, c30]))
    (J2 c1 t6 h)
def dH.L3 (c : Ctx) (J6 : AV → AV → List AObj → Prop) (K : AOut → List AObj → Prop) (lv : List AV) (h0 : List AObj) (n0 : Nat) (c1 : AV) (c6 : AV) (c57 : AV) (c58 : AV) : Prop :=
  ∃ I : Nat → List AV → List AObj → Prop, (∃ n, I n lv h0) ∧ ∀ n h, ∀ t59, I n [t59] h →
    runD (binD T_int .lss t59 c58) h fun t60 h =>
    condW t60
    (runD (aF gD h c57 t59) h fun t61 h =>
    runD (fitD T_uint8 (loadD h t61)) h fun t62 h =>
    runD (binD T_uint8 .neq t62 (.int .u8 0)) h fun t64 h =>
    condW t64
    (K (.ret (.tup [(.str []), (.int .i64 20)])) h)
    (runD (binD T_int .add t59 (.int .i64 1)) h fun t65 h =>
    (∃ m, m < n ∧ I m (AV.norms n0 h [t65]) (normH n0 h)) ∧ AV.norms n0 h [c1, c6, c57, c58] = [c1, c6, c57, c58]))
    (J6 c1 c6 h)
def dH.H (c : Ctx) (t0 : AV) (t1 : AV) (h : List AObj) (K : AOut → List AObj → Prop) : Prop :=
  runD (binD T_int .lss t1 (.int .i64 0)) h fun t13 h =>
  joinW (fun (J1 : AV → AV → List AObj → Prop) =>
  guardW t13 false
  (runD (lenD aI h t0) h fun t16 h =>
    runD (binD T_int .quo t1 (.int .i64 7)) h fun t18 h =>
    runD (binD T_int .rem t1 (.int .i64 7)) h fun t20 h =>
    runD (minD (.int .i64 1) t20) h fun t21 h =>
    runD (binD T_int .add t18 t21) h fun t22 h =>
    runD (binD T_int .neq t16 t22) h fun t23 h =>
    J1 (.bool false) t23 h)
  (J1 (.bool true) .und h))
  (fun t14 t23 h => runD (pickD t14 (.bool true) t23) h fun t24 h =>
  condW t24
  (K (.ret (.tup [(.str []), (.int .i64 20)])) h)
  (runD (lenD aI h t0) h fun t26 h =>
  runD (binD T_int .mul (.int .i64 7) t26) h fun t27 h =>
  runD (gC gD (.int .i64 0) t27 h.length) h fun t28 h =>
  runD (lenD aI h t0) h fun t30 h =>
  joinW (fun (J2 : AV → AV → List AObj → Prop) =>
  promV [true, false] [t28, (.int .i64 0)] h fun lv h => dH.L1 c J2 K (AV.norms h.length h lv) (normH h.length h) h.length (AV.norm h.length h t1) (AV.norm h.length h t0) (AV.norm h.length h t30))
  (fun t1 t6 h => runD (sliceD gD h t6 (some t1) none none) h fun t57 h =>
  runD (lenD gD h t57) h fun t58 h =>
  joinW (fun (J6 : AV → AV → List AObj → Prop) =>
  promV [false] [(.int .i64 0)] h fun lv h => dH.L3 c J6 K (AV.norms h.length h lv) (normH h.length h) h.length (AV.norm h.length h t1) (AV.norm h.length h t6) (AV.norm h.length h t57) (AV.norm h.length h t58))
  (fun t1 t6 h => runD (sliceD gD h t6 none (some t1) none) h fun t68 h =>
  runD (convD h gD bN t68) h fun t69 h =>
  K (.ret (.tup [t69, (.int .i64 0)])) h))))
def dL.loops : Nat → LInfo
  | _ => ⟨[], [], [], [], [], []⟩
def dL.H (c : Ctx) (t0 : AV) (h : List AObj) (K : AOut → List AObj → Prop) : Prop :=
  runD (lenD bN h t0) h fun t4 h =>
  runD (binD T_int .leq t4 (.int .i64 21)) h fun t5 h =>
  K (.ret t5) h
def eE.loops : Nat → LInfo
  | 2 => ⟨[], [], [], [], [2], []⟩
  | 5 => ⟨[4, 11], [false, false], [2, 3, 10], [], [], []⟩
  | _ => ⟨[], [], [], [], [], []⟩
def eE.L1 (c : Ctx) (id : Nat) (r : Loop) (J3 : AV → AV → List AObj → Prop) (K : AOut → List AObj → Prop) (lv : List AV) (h0 : List AObj) (n0 : Nat) (c2 : AV) (c3 : AV) (c10 : AV) : Prop :=
  ∃ I : Nat → List AV → List AObj → Prop, (∃ n, I n lv h0) ∧ ∀ n h, ∀ t4, ∀ t11, I n [t4, t11] h →
    runD (binD T_int .lss t11 c10) h fun t12 h =>
    condW t12
    (runD (indexD bN c3 t11) h fun t17 h =>
    runD (convD h T_uint8 T_int t17) h fun t18 h =>
    runD (binD T_int .sub (.int .i64 6) t11) h fun t20 h =>
    runD (binD T_int .mul (.int .i64 8) t20) h fun t21 h =>
    runD (binD T_int .shl t18 t21) h fun t22 h =>
    runD (binD T_int .or t4 t22) h fun t23 h =>
    runD (binD T_int .add t11 (.int .i64 1)) h fun t24 h =>
    (∃ m, m < n ∧ I m (AV.norms n0 h [t23, t24]) (normH n0 h)) ∧ AV.norms n0 h [c2, c3, c10] = [c2, c3, c10])
    (J3 c2 t4 h)
def eE.H (c : Ctx) (t0 : AV) (h : List AObj) (K : AOut → List AObj → Prop) : Prop :=
  allocW aI h fun t2 h =>
  callW false c (.fn (.func 125) [] []) [t0] h (fun t7 h =>
  joinW (fun (J1 : AV → List AObj → Prop) =>
  rangeX c.iterS t7 (boxH [t2] h)
  (fun id r args h K => lpIs h id .ready r ∧ argX1 args fun t8 =>
  lpIs h id .ready r ∧
  joinW (fun (J2 : List AObj → Prop) =>
  runD (lenD bN (List.set h id (.lp .busy none r)) t8) (List.set h id (.lp .busy none r)) fun t10 h =>
  joinW (fun (J3 : AV → AV → List AObj → Prop) =>
  promV [false, false] [(.int .i64 0), (.int .i64 0)] h fun lv h => eE.L1 c id r J3 K (AV.norms h.length h lv) (normH h.length h) h.length (AV.norm h.length h t2) (AV.norm h.length h t8) (AV.norm h.length h t10))
  (fun t2 t4 h => runD (fitD aI (loadD h t2)) h fun t25 h =>
  runD (fB aI 1 [(0, t4)] h.length) h fun t27 h =>
  runDM (appendD aI h t25 t27 h.length) (appendH aI h t25 t27) h fun t28 h =>
  runH (storeH aI h t2 t28) h fun _ h =>
  J2 h))
  (fun h => lpIs h id .busy r ∧ K (.ret (.bool true)) (List.set h id (.lp .ready none r))))
  (fun id r ao h => endX id r ao h
  (fun h => J1 t2 h)
  (fun h => loadRes (fitD aI (loadD h t2)) fun r0 => K (.ret r0) h)
  (fun i h => exitW i 0 (J1 t2 h) (False))
  (fun l h => False)
  (fun v h => K (.pan v) h)))
  (fun t2 h => runD (fitD aI (loadD h t2)) h fun t29 h =>
  runH (storeH aI h t2 t29) h fun _ h =>
  loadRes (fitD aI (loadD h t2)) fun r0 => K (.ret r0) h))
  (fun v h => K (.pan v) h)
def eJ.loops : Nat → LInfo
  | _ => ⟨[], [], [], [], [], []⟩
def eJ.H (c : Ctx) (t0 : AV) (h : List AObj) (K : AOut → List AObj → Prop) : Prop :=
  boxW bN t0 h fun t1 h =>
  K (.ret (.fn (.func 141) [] [t1])) h
def cW.loops : Nat → LInfo
  | 0 => ⟨[], [], [0, 1], [], [], []⟩
  | _ => ⟨[], [], [], [], [], []⟩
def cW.L1 (c : Ctx) (J1 : List AObj → Prop) (K : AOut → List AObj → Prop) (lv : List AV) (h0 : List AObj) (n0 : Nat) (c0 : AV) (c1 : AV) : Prop :=
  ∃ I : Nat → List AV → List AObj → Prop, (∃ n, I n lv h0) ∧ ∀ n h, I n [] h →
    runD (fitD bN (loadD h c1)) h fun t4 h =>
    runD (lenD bN h t4) h fun t5 h =>
    runD (binD T_int .gtr t5 (.int .i64 0)) h fun t6 h =>
    condW t6
    (runD (fitD bN (loadD h c1)) h fun t7 h =>
    runD (lenD bN h t7) h fun t8 h =>
    runD (minD (.int .i64 7) t8) h fun t9 h =>
    runD (fitD bN (loadD h c1)) h fun t11 h =>
    runD (sliceD bN h t11 none (some t9) none) h fun t13 h =>
    callW false c c0 [t13] h (fun t14 h =>
    runD (unD .not t14) h fun t15 h =>
    condW t15
    (K (.ret (.tup [])) h)
    (runD (fitD bN (loadD h c1)) h fun t16 h =>
    runD (sliceD bN h t16 (some t9) none none) h fun t18 h =>
    runH (storeH bN h c1 t18) h fun _ h =>
    (∃ m, m < n ∧ I m (AV.norms n0 h []) (normH n0 h)) ∧ AV.norms n0 h [c0, c1] = [c0, c1]))
    (fun v h => K (.pan v) h))
    (J1 h)
def cW.H (c : Ctx) (t0 : AV) (t1 : AV) (h : List AObj) (K : AOut → List AObj → Prop) : Prop :=
  joinW (fun (J1 : List AObj → Prop) =>
  promV [] [] h fun lv h => cW.L1 c J1 K (AV.norms h.length h lv) (normH h.length h) h.length (AV.norm h.length h t0) (AV.norm h.length h t1))
  (fun h => K (.ret (.tup [])) h)
theorem eT.eq (F : List (FuncId × aD)) (S : List (FuncId × Con)) (t0 : AV) (h : List AObj) (K : AOut → List AObj → Prop) : funW (ctx F S eT.loops) Tryz.f53 [t0] h K = eT.H (ctx F S eT.loops) t0 h K := by kernel_rfl
theorem dH.eq (F : List (FuncId × aD)) (S : List (FuncId × Con)) (t0 t1 : AV) (h : List AObj) (K : AOut → List AObj → Prop) : funW (ctx F S dH.loops) Tryz.f115 [t0, t1] h K = dH.H (ctx F S dH.loops) t0 t1 h K := by kernel_rfl
theorem dL.eq (F : List (FuncId × aD)) (S : List (FuncId × Con)) (t0 : AV) (h : List AObj) (K : AOut → List AObj → Prop) : funW (ctx F S dL.loops) Tryz.f116 [t0] h K = dL.H (ctx F S dL.loops) t0 h K := by kernel_rfl
theorem eE.eq (F : List (FuncId × aD)) (S : List (FuncId × Con)) (Is : List (FuncId × (Con → Con))) (t0 : AV) (h : List AObj) (K : AOut → List AObj → Prop) : funW (ctxI F S Is eE.loops) Tryz.f117 [t0] h K = eE.H (ctxI F S Is eE.loops) t0 h K := by kernel_rfl
theorem eJ.eq (F : List (FuncId × aD)) (S : List (FuncId × Con)) (t0 : AV) (h : List AObj) (K : AOut → List AObj → Prop) : funW (ctx F S eJ.loops) Tryz.f125 [t0] h K = eJ.H (ctx F S eJ.loops) t0 h K := by kernel_rfl
theorem cW.eq (F : List (FuncId × aD)) (S : List (FuncId × Con)) (l : Nat) (Y : Con) (t0 t1 : AV) (h : List AObj) (K : AOut → List AObj → Prop) : funW ((ctx F S cW.loops).withY l Y) Tryz.f141 [t0, t1] h K = cW.H ((ctx F S cW.loops).withY l Y) t0 t1 h K := by kernel_rfl
theorem eT.at : Tryz.prog.funcs[53]? = some Tryz.f53 := by kernel_rfl
theorem eT.nm : (Tryz.f53.name == "runtime.NumGoroutine") = false := by kernel_rfl
theorem eT.bd : Tryz.f53.body.isNone = false := by kernel_rfl
theorem dH.at : Tryz.prog.funcs[115]? = some Tryz.f115 := by kernel_rfl
theorem dH.nm : (Tryz.f115.name == "runtime.NumGoroutine") = false := by kernel_rfl
theorem dH.bd : Tryz.f115.body.isNone = false := by kernel_rfl
theorem dL.at : Tryz.prog.funcs[116]? = some Tryz.f116 := by kernel_rfl
theorem dL.nm : (Tryz.f116.name == "runtime.NumGoroutine") = false := by kernel_rfl
theorem dL.bd : Tryz.f116.body.isNone = false := by kernel_rfl
theorem eE.at : Tryz.prog.funcs[117]? = some Tryz.f117 := by kernel_rfl
theorem eE.nm : (Tryz.f117.name == "runtime.NumGoroutine") = false := by kernel_rfl
theorem eE.bd : Tryz.f117.body.isNone = false := by kernel_rfl
theorem eJ.at : Tryz.prog.funcs[125]? = some Tryz.f125 := by kernel_rfl
theorem eJ.nm : (Tryz.f125.name == "runtime.NumGoroutine") = false := by kernel_rfl
theorem eJ.bd : Tryz.f125.body.isNone = false := by kernel_rfl
theorem cW.at : Tryz.prog.funcs[141]? = some Tryz.f141 := by kernel_rfl
theorem cW.nm : (Tryz.f141.name == "runtime.NumGoroutine") = false := by kernel_rfl
theorem cW.bd : Tryz.f141.body.isNone = false := by kernel_rfl
end Lam
namespace Lam
open Go Go.Proofs
set_option linter.unusedVariables false
set_option linter.unnecessarySimpa false
set_option linter.unusedSimpArgs false
theorem xJ (c : Ctx) (id : Nat) (r : Loop) (J : AV → AV → List AObj → Prop) (K : AOut → List AObj → Prop) (p : Bytes) (hp : p.length ≤ 7) (v k : Nat) (s : Bytes) (xs : List Int)
    (hJ : J (.ptr 0 []) (.int .i64 (pw p : Nat)) [.box (.sref false 2 v 0 k), .box (.str s), .row .own v (.ints .i64 xs), .lp .busy none r]) :
    eE.L1 c id r J K [.int .i64 0, .int .i64 0] [.box (.sref false 2 v 0 k), .box (.str s), .row .own v (.ints .i64 xs), .lp .busy none r] 4 (.ptr 0 []) (.str p) (.int .i64 p.length) := by
  unfold eE.L1
  refine ⟨fun m lv h' => ∃ j : Nat, j + m = p.length ∧ lv = [.int .i64 (pv (p.take j) * 256 ^ (7 - j) : Nat), .int .i64 j] ∧ h' = [.box (.sref false 2 v 0 k), .box (.str s), .row .own v (.ints .i64 xs), .lp .busy none r],
    ⟨p.length, 0, by omega, by simp [pv], rfl⟩, ?_⟩
  rintro m h' t4 t11 ⟨j, hj, hlv, rfl⟩
  simp only [List.cons.injEq, and_true] at hlv
  obtain ⟨rfl, rfl⟩ := hlv
  simp only [go_sem, Nat.reduceEqDiff, Nat.reduceLT, Nat.reduceAdd, Nat.reduceSub, Nat.reduceLeDiff, List.reduceReplicate, Int.reduceToNat]
  refine ⟨fun hlt => ?_, fun hge => ?_⟩
  · have hjp : j < p.length := by omega
    have e1 : IntKind.i64.wrap (6 - (j : Int)) = 6 - j := w64 (by omega) (by omega)
    refine ⟨by omega, by rw [e1, w64 (by omega) (by omega)]; omega, m - 1, by omega, j + 1, by omega, ?_⟩
    rw [pv_step p hp hjp, w64 (by omega) (by omega)]
    rfl
  · have : j = p.length := by omega
    subst this
    rw [List.take_length] at *
    exact hJ

def cW.I : Con → Con := fun Y args h K => match args with
  | [.fn (.yield l) [] [], a0] => cW.H ((ctx [] [] cW.loops).withY l Y) (.fn (.yield l) [] []) a0 h K
  | _ => False
theorem cW.spec : ISpec Tryz.prog 141 cW.I := by
  refine ISpec.of (ctx_ok (F := []) (S := []) (by simp) (by simp) cW.loops).toOkI cW.at cW.nm cW.bd ?_
  intro Yc l cap h K hC
  unfold cW.I at hC
  split at hC
  · rename_i e
    simp only [List.cons.injEq, AV.fn.injEq, Fn.yield.injEq, and_true, true_and] at e
    obtain ⟨rfl, rfl⟩ := e
    rw [cW.eq]; exact hC
  · exact hC.elim
def eJ.K : Con := fun args h K => match args with
  | [a0] => eJ.H (ctx [] [] eJ.loops) a0 h K
  | _ => False
theorem eJ.spec : SSpec Tryz.prog 125 eJ.K := by
  refine SSpec.of (ctx_ok (F := []) (S := []) (by simp) (by simp) eJ.loops) eJ.at eJ.nm eJ.bd ?_
  intro args h K hC
  unfold eJ.K at hC
  split at hC
  · rw [eJ.eq]; exact hC
  · exact hC.elim
def eE.C : aD
  | [.str s] => some (false, pD (roomy s.length) (.sl false (.ints .i64 (keyW s))))
  | _ => none
set_option maxRecDepth 20000 in
theorem eE.spec : FSpec Tryz.prog 117 eE.C := by
  refine FSpec.of (ctxI_ok (F := []) (S := [(125, eJ.K)]) (Is := [(141, cW.I)]) (by simp) (by simpa using eJ.spec) (by simpa using cW.spec) eE.loops) eE.at eE.nm eE.bd ?_
  intro vs b S v news e hS
  unfold eE.C at e
  split at e
  rotate_left
  · cases e
  cases e
  rw [eE.eq]
  unfold eE.H
  simp (maxSteps := 4000000) only [go_sem, Nat.reduceEqDiff, Nat.reduceLT, Nat.reduceAdd, Nat.reduceSub, Nat.reduceLeDiff, List.reduceReplicate, Int.reduceToNat, eJ.K, eJ.H, cW.I, cW.H, aA]
  rename_i s
  unfold roomy at hS
  intro l r
  unfold cW.L1
  refine ⟨fun m lv h' => ∃ k v : Nat, k + m = nPieces s ∧ h' = [.box (.sref false 2 v 0 k), .box (.str (s.drop (7*k))), .row .own v (.ints .i64 ((keyW s).take k)), .lp .ready none r], ⟨nPieces s, 0, 0, by omega, by simp⟩, ?_⟩
  rintro m h' ⟨k, v, hk, rfl⟩
  have hwl : (keyW s).length = nPieces s := by simp [keyW]
  have hnp : nPieces s = (s.length + 6) / 7 := rfl
  have hacc : ((keyW s).take k).length = k := by simp; omega
  simp only [go_sem, Nat.reduceEqDiff, Nat.reduceLT, Nat.reduceAdd, Nat.reduceSub, Nat.reduceLeDiff, List.reduceReplicate, Int.reduceToNat, List.length_drop]
  refine ⟨fun hlt => ?_, fun hge => ?_⟩
  · have hn : (if ((s.length - 7 * k : Nat) : Int) < 7 then ((s.length - 7 * k : Nat) : Int) else 7) = ((min 7 (s.length - 7 * k) : Nat) : Int) := by split <;> omega
    simp only [hn, Int.toNat_natCast]
    have hpc : (s.drop (7 * k)).take (min 7 (s.length - 7 * k)) = pieceN s k := by
      unfold pieceN
      rcases Nat.lt_or_ge (s.length - 7 * k) 7 with h | h
      · rw [Nat.min_eq_right (by omega), List.take_of_length_le (by simp), List.take_of_length_le (by simp; omega)]
      · rw [Nat.min_eq_left (by omega)]
    rw [hpc]
    have hpl : (pieceN s k).length ≤ 7 := by unfold pieceN; simp; omega
    refine ⟨by omega, xJ _ _ _ _ _ _ hpl _ _ _ _ ?_⟩
    simp only [go_sem, Nat.reduceEqDiff, Nat.reduceLT, Nat.reduceAdd, Nat.reduceSub, Nat.reduceLeDiff, List.reduceReplicate, Int.reduceToNat, hacc]
    have hkn : k < nPieces s := by omega
    have hnext : (keyW s).take (k + 1) = (keyW s).take k ++ [(pw (pieceN s k) : Int)] := by
      rw [gA _ k 0 (by omega), aAn s hkn]
    have hd : (s.drop (7 * k)).drop (min 7 (s.length - 7 * k)) = s.drop (7 * (k + 1)) := by
      rw [List.drop_drop]
      rcases Nat.lt_or_ge (s.length - 7 * k) 7 with h | h
      · rw [List.drop_eq_nil_of_le (by omega), List.drop_eq_nil_of_le (by omega)]
      · congr 1; omega
    have hl1 : ((keyW s).take (k + 1)).length = k + 1 := by simp; omega
    rw [← hnext, hd, hl1]
    refine ⟨by unfold roomy; omega, by simp; omega, m - 1, by omega, k + 1, v + 1, by omega, rfl⟩
  · have : k = nPieces s := by omega
    subst this
    rw [List.take_of_length_le (by omega)]
    refine aH ?_ rfl
    have := hacc
    rw [List.take_of_length_le (by omega)] at this
    simp only [go_sem, Nat.reduceEqDiff, Nat.reduceLT, Nat.reduceAdd, Nat.reduceSub, Nat.reduceLeDiff, List.reduceReplicate, Int.reduceToNat, List.take_of_length_le (Nat.le_of_eq hwl)]
def textV (l : List Int) (n : Int) : AV := .tup [.str (if textB l n = true then textS l n else []), .int .i64 (if textB l n = true then 0 else 20)]
@[go_sem] theorem aGT (l : List Int) (n : Int) : (textV l n).noSl = true := (rfl)
theorem rI {l : List Int} {n : Int} (hb : textB l n = false) (h : List AObj) : Post false (textV l n) [] (.ret (.tup [.str [], .int .i64 20])) h := by
  unfold textV; rw [hb]; exact aH rfl rfl
def dH.C : aD
  | [.sl _ (.ints .i64 l), .int .i64 n] => some (false, pD (roomy (7 * l.length) ∧ n < 9223372036854775808) (textV l n))
  | _ => none
theorem zB (c : Ctx) (J : AV → AV → AV → AV → AV → List AObj → Prop) (K : AOut → List AObj → Prop) (n w : Int) (l pre : List Int) (v k len : Nat) (hr : pre.length + 7 ≤ 1099511627776)
    (hJ : J (.int .i64 n) (.sref false 0 (v + 7) 0 (pre.length + 7)) (.sl false (.ints .i64 l)) (.int .i64 len) (.int .i64 k) [.row .own (v + 7) (.ints .u8 (pre ++ sevenI w))]) :
    dH.L2 c J K [.sref false 0 v 0 pre.length, .int .i64 0] [.row .own v (.ints .u8 pre)] 1 (.int .i64 n) (.int .i64 w) (.sl false (.ints .i64 l)) (.int .i64 len) (.int .i64 k) := by
  unfold dH.L2
  refine ⟨fun m lv h' => ∃ j : Nat, j + m = 7 ∧ lv = [.sref false 0 (v + j) 0 (pre.length + j), .int .i64 j] ∧ h' = [.row .own (v + j) (.ints .u8 (pre ++ (List.range j).map (byteI w)))],
    ⟨7, 0, by omega, by simp, by simp⟩, ?_⟩
  rintro m h' t6 t41 ⟨j, hj, hlv, rfl⟩
  simp only [List.cons.injEq, and_true] at hlv
  obtain ⟨rfl, rfl⟩ := hlv
  have hlen : (pre ++ (List.range j).map (byteI w)).length = pre.length + j := by simp
  simp only [go_sem, Nat.reduceEqDiff, Nat.reduceLT, Nat.reduceAdd, Nat.reduceSub, Nat.reduceLeDiff, List.reduceReplicate, Int.reduceToNat, hlen]
  refine ⟨fun hlt => ?_, fun hge => ?_⟩
  · have e1 : IntKind.i64.wrap (6 - (j : Int)) = 6 - j := w64 (by omega) (by omega)
    have e2 : IntKind.i64.wrap (8 * (6 - (j : Int))) = 8 * (6 - j) := w64 (by omega) (by omega)
    have e3 : (8 * (6 - (j : Int))).toNat = 8 * (6 - j) := by omega
    have e4 : min (8 * (6 - j)) 64 = 8 * (6 - j) := by omega
    simp only [e1, e2, e3, e4]
    have hz : (List.range j).map (byteI w) ++ [IntKind.u8.wrap (w.fdiv (2 ^ (8 * (6 - j))))] = (List.range (j + 1)).map (byteI w) := by rw [List.range_succ]; simp [byteI]
    have hl2 : (pre ++ (List.range (j + 1)).map (byteI w)).length = pre.length + (j + 1) := by simp
    rw [hz, hl2, w64 (by omega) (by omega)]
    exact ⟨by omega, by unfold roomy; omega, m - 1, by omega, j + 1, by omega, rfl, rfl⟩
  · have : j = 7 := by omega
    subst this
    exact hJ

set_option maxRecDepth 20000 in
theorem dH.spec : FSpec Tryz.prog 115 dH.C := by
  refine FSpec.of (ctx_ok (F := []) (S := []) (by simp) (by simp) dH.loops) dH.at dH.nm dH.bd ?_
  intro vs b S v news e hS
  unfold dH.C at e
  split at e
  rotate_left
  · cases e
  cases e
  rw [dH.eq]
  unfold dH.H
  simp (maxSteps := 4000000) only [go_sem, Nat.reduceEqDiff, Nat.reduceLT, Nat.reduceAdd, Nat.reduceSub, Nat.reduceLeDiff, List.reduceReplicate, Int.reduceToNat]
  rename_i l n
  unfold roomy at hS
  obtain ⟨hS, hn63⟩ := hS
  refine ⟨fun _ => by decide, fun hb => rI ?_ _, fun hb => ?_⟩
  · have hb : (!decide (n < 0) && decide ((l.length : Int) = lenT n)) = false := by
      unfold lenT
      revert hb
      cases decide (n < 0) <;> simp
    unfold textB
    rw [hb]; rfl
  have hb1 : ¬ n < 0 := by intro h; simp [h] at hb
  have hb2 : (l.length : Int) = lenT n := by
    rw [decide_eq_false hb1, Bool.false_or, Bool.not_eq_false', decide_eq_true_eq] at hb
    exact hb
  have e7 : IntKind.i64.wrap (7 * (l.length : Int)) = ((7 * l.length : Nat) : Int) := by rw [w64 (by omega) (by omega)]; omega
  refine ⟨⟨by omega, by rw [e7]; omega, by rw [e7, Int.toNat_natCast]; exact hS⟩, ?_⟩
  rw [aA]
  unfold dH.L1
  refine ⟨fun m lv h' => ∃ k v : Nat, k + m = l.length ∧ lv = [.sref false 0 v 0 (7 * k), .int .i64 k] ∧ h' = [.row .own v (.ints .u8 (flatI (l.take k)))] ∧ (l.take k).all wMay = true,
    ⟨l.length, 0, 0, by omega, rfl, rfl, rfl⟩, ?_⟩
  rintro m h' t6 t31 ⟨k, v, hk, hlv, rfl, hall⟩
  simp only [List.cons.injEq, and_true] at hlv
  obtain ⟨rfl, rfl⟩ := hlv
  have hfl : (flatI (l.take k)).length = 7 * k := by rw [aBi, List.length_take, Nat.min_eq_left (by omega)]
  simp only [go_sem, Nat.reduceEqDiff, Nat.reduceLT, Nat.reduceAdd, Nat.reduceSub, Nat.reduceLeDiff, List.reduceReplicate, Int.reduceToNat, hfl]
  refine ⟨fun hlt => ?_, fun hge => ?_⟩
  · have hkl : k < l.length := by omega
    rw [aA]
    refine ⟨by omega, fun hbad => rI ?_ _, fun hok => ?_⟩
    · have : l.all wMay = false := by
        rw [List.all_eq_false]
        refine ⟨_, gH l k 0 hkl, fun h => ?_⟩
        simp only [wMay, Bool.and_eq_true, decide_eq_true_eq] at h
        simp only [Bool.or_eq_true, decide_eq_true_eq] at hbad
        omega
      simp [textB, this]
    · have hw : wMay (l.getD k 0) = true := by
        simp only [Bool.or_eq_false_iff, decide_eq_false_iff_not] at hok
        simp only [wMay, Bool.and_eq_true, decide_eq_true_eq]; omega
      rw [aA]
      have hL2 := zB (ctx [] [] dH.loops)
      rw [← hfl]
      refine hL2 _ _ _ _ _ _ _ _ _ (by rw [hfl]; omega) ?_
      have hnx : flatI (l.take k) ++ sevenI (l.getD k 0) = flatI (l.take (k + 1)) := by
        rw [gA l k 0 hkl]; simp [flatI]
      rw [hnx, hfl]
      simp only [go_sem, Nat.reduceEqDiff, Nat.reduceLT, Nat.reduceAdd, Nat.reduceSub, Nat.reduceLeDiff, List.reduceReplicate, Int.reduceToNat]
      have hmx : ¬ (False) := id
      refine ⟨m - 1, by omega, k + 1, v + 7, by omega, by rw [w64 (by omega) (by omega)]; rfl, rfl, ?_⟩
      rw [gA l k 0 hkl, List.all_append, hall, Bool.true_and, List.all_cons, hw]
      rfl
  · have : k = l.length := by omega
    subst this
    rw [List.take_length] at *
    obtain ⟨N, rfl⟩ : ∃ N : Nat, n = N := ⟨n.toNat, by omega⟩
    have hN : (l.length : Int) = ((N + 6) / 7 : Nat) := by rw [hb2, xA N (by omega)]
    refine ⟨by omega, ?_⟩
    rw [aA, Int.toNat_natCast]
    unfold dH.L3
    refine ⟨fun m lv h' => ∃ j : Nat, j + m = 7 * l.length - N ∧ lv = [.int .i64 j] ∧ h' = [.row .own v (.ints .u8 (flatI l))] ∧ ∀ i, i < j → (flatI l).getD (N + i) 0 = 0,
      ⟨_, 0, Nat.zero_add _, rfl, rfl, fun i hi => by omega⟩, ?_⟩
    rintro m h' t59 ⟨j, hj, hlv, rfl, hz⟩
    simp only [List.cons.injEq, and_true] at hlv
    subst hlv
    simp only [go_sem, Nat.reduceEqDiff, Nat.reduceLT, Nat.reduceAdd, Nat.reduceSub, Nat.reduceLeDiff, List.reduceReplicate, Int.reduceToNat, hfl]
    refine ⟨fun hlt => ⟨by omega, by omega, fun h0 => rI ?_ _, fun h0 => ?_⟩, fun hge => ⟨by omega, ?_⟩⟩
    · have : ((flatI l).drop N).all (fun b => decide (b = 0)) = false := by
        rw [List.all_eq_false]
        have hjl : j < ((flatI l).drop N).length := by rw [List.length_drop, hfl]; omega
        have e : ((flatI l).drop N).getD j 0 = (flatI l).getD (N + j) 0 := by rw [List.getD_eq_getElem?_getD, List.getD_eq_getElem?_getD, List.getElem?_drop]
        exact ⟨_, gH _ j 0 hjl, by rw [e]; simpa using h0⟩
      simp [textB, this]
    · refine ⟨m - 1, by omega, j + 1, by omega, by rw [w64 (by omega) (by omega)]; rfl, fun i hi => ?_⟩
      by_cases e : i = j
      · subst e; exact h0
      · exact hz i (by omega)
    · have hj2 : j = 7 * l.length - N := by omega
      have hzero : ((flatI l).drop N).all (fun b => decide (b = 0)) = true := by
        rw [List.all_eq_true]
        intro b hb
        obtain ⟨i, hi, rfl⟩ := List.getElem_of_mem hb
        rw [List.length_drop, hfl] at hi
        have := hz i (by omega)
        rw [List.getD_eq_getElem?_getD, List.getElem?_eq_getElem (by rw [hfl]; omega)] at this
        rw [List.getElem_drop]
        simpa using this
      have hB : textB l N = true := by
        unfold textB
        rw [hall, Int.toNat_natCast, hzero, decide_eq_false hb1, decide_eq_true hb2]; rfl
      unfold textV textS
      simp only [hB, if_true]
      exact aH rfl rfl
def eT.C : aD
  | [.str s] => some (false, pD True (.bool (decide (s ≠ []) && decide ((s.length : Int) ≤ 21))))
  | _ => none
set_option maxRecDepth 20000 in
theorem eT.spec : FSpec Tryz.prog 53 eT.C := by
  refine FSpec.of (ctx_ok (F := []) (S := []) (by simp) (by simp) eT.loops) eT.at eT.nm eT.bd ?_
  intro vs b S v news e hS
  unfold eT.C at e
  split at e
  rotate_left
  · cases e
  cases e
  rw [eT.eq]
  unfold eT.H
  simp (maxSteps := 4000000) only [go_sem, Nat.reduceEqDiff, Nat.reduceLT, Nat.reduceAdd, Nat.reduceSub, Nat.reduceLeDiff, List.reduceReplicate, Int.reduceToNat]
  rename_i s
  have : (decide ¬s = []) = !decide (s = []) := by by_cases h : s = [] <;> simp [h]
  rw [this]
  exact aH rfl rfl
def dL.C : aD
  | [.str s] => some (false, pD True (.bool (decide ((s.length : Int) ≤ 21))))
  | _ => none
set_option maxRecDepth 20000 in
theorem dL.spec : FSpec Tryz.prog 116 dL.C := by
  refine FSpec.of (ctx_ok (F := []) (S := []) (by simp) (by simp) dL.loops) dL.at dL.nm dL.bd ?_
  intro vs b S v news e hS
  unfold dL.C at e
  split at e
  rotate_left
  · cases e
  cases e
  rw [dL.eq]
  unfold dL.H
  simp (maxSteps := 4000000) only [go_sem, Nat.reduceEqDiff, Nat.reduceLT, Nat.reduceAdd, Nat.reduceSub, Nat.reduceLeDiff, List.reduceReplicate, Int.reduceToNat]
  exact aH rfl rfl
end Lam
namespace Lam
open Go Go.Proofs
set_option linter.unusedVariables false
def dM.loops : Nat → LInfo
  | 1 => ⟨[], [], [], [(3, none), (5, some [11, 16])], [], []⟩
  | _ => ⟨[], [], [], [], [], []⟩
def dM.H (c : Ctx) (t0 : AV) (t1 : AV) (h : List AObj) (K : AOut → List AObj → Prop) : Prop :=
  allocW aG h fun t4 h =>
  runD (binD T_int .lss t1 (.int .i64 0)) h fun t10 h =>
  joinW (fun (J1 : AV → AV → List AObj → Prop) =>
  guardW t10 false
  (runD (lenD aI h t0) h fun t14 h =>
    runD (binD T_int .quo t14 (.int .i64 16)) h fun t15 h =>
    runD (binD T_int .geq t1 t15) h fun t16 h =>
    J1 (.bool false) t16 h)
  (J1 (.bool true) .und h))
  (fun t11 t16 h => runD (pickD t11 (.bool true) t16) h fun t17 h =>
  condW t17
  (runD (buildD aG []) h fun t18 h =>
    runH (storeH aG h t4 t18) h fun _ h =>
    loadRes (fitD aG (loadD h t4)) fun r0 => K (.ret (.tup [r0, (.int .i64 1)])) h)
  (allocW cS h fun t6 h =>
  runD (sliceD cS h t6 none none none) h fun t19 h =>
  runD (binD T_int .mul (.int .i64 16) t1) h fun t22 h =>
  runD (sliceD aI h t0 (some t22) none none) h fun t23 h =>
  runM (copyH aI h t19 t23) h fun t24 h =>
  runD (aF cS h t6 (.int .i64 0)) h fun t25 h =>
  runD (fitD T_int (loadD h t25)) h fun t26 h =>
  runD (buildD aG [(0, t26)]) h fun t27 h =>
  allocW aG h fun t7 h =>
  runH (storeH aG h t7 t27) h fun _ h =>
  runD (fitD cS (loadD h t6)) h fun t29 h =>
  runD (aF cS h t6 (.int .i64 1)) h fun t30 h =>
  runD (fitD T_int (loadD h t30)) h fun t31 h =>
  runD (binD T_int .quo t31 (.int .i64 32)) h fun t32 h =>
  callW false c (.fn (.func 99) [] []) [t29, (.int .i64 3), t32] h (fun t33 h =>
  runD (bH t33 0) h fun t34 h =>
  runD (bH t33 1) h fun t35 h =>
  runD (aB aG t7 1) h fun t36 h =>
  runH (storeH bN h t36 t34) h fun _ h =>
  runD (unD .not t35) h fun t38 h =>
  condW t38
  (runD (buildD aG []) h fun t39 h =>
    runH (storeH aG h t4 t39) h fun _ h =>
    loadRes (fitD aG (loadD h t4)) fun r0 => K (.ret (.tup [r0, (.int .i64 70)])) h)
  (runD (aB aG t7 0) h fun t40 h =>
  runD (fitD T_int (loadD h t40)) h fun t41 h =>
  runD (binD T_int .eql t41 (.int .i64 1)) h fun t43 h =>
  joinW (fun (J2 : AV → List AObj → Prop) =>
  condW t43
  (runD (fitD cS (loadD h t6)) h fun t45 h =>
    runD (aF cS h t6 (.int .i64 1)) h fun t46 h =>
    runD (fitD T_int (loadD h t46)) h fun t47 h =>
    runD (binD T_int .rem t47 (.int .i64 32)) h fun t48 h =>
    callW false c (.fn (.func 99) [] []) [t45, (.int .i64 6), t48] h (fun t49 h =>
    runD (bH t49 0) h fun t50 h =>
    runD (bH t49 1) h fun t51 h =>
    runD (aB aG t7 2) h fun t52 h =>
    runH (storeH bN h t52 t50) h fun _ h =>
    J2 t51 h)
    (fun v h => K (.pan v) h))
  (runD (binD T_int .eql t41 (.int .i64 2)) h fun t54 h =>
    joinW (fun (J3 : List AObj → Prop) =>
    condW t54
    (runD (aF cS h t6 (.int .i64 6)) h fun t55 h =>
      runD (fitD T_int (loadD h t55)) h fun t56 h =>
      runD (aB aG t7 3) h fun t57 h =>
      runH (storeH T_int h t57 t56) h fun _ h =>
      J3 h)
    (J3 h))
    (fun h => J2 t35 h)))
  (fun t8 h => runD (unD .not t8) h fun t59 h =>
  joinW (fun (J4 : AV → AV → List AObj → Prop) =>
  guardW t59 false
  (runD (fitD aG (loadD h t7)) h fun t61 h =>
    callW false c.noS (.fn (.func 100) [] []) [t61] h (fun t62 h =>
    runD (unD .not t62) h fun t63 h =>
    J4 (.bool false) t63 h)
    (fun _ _ => False))
  (J4 (.bool true) .und h))
  (fun t60 t63 h => runD (pickD t60 (.bool true) t63) h fun t64 h =>
  joinW (fun (J5 : AV → AV → List AObj → Prop) =>
  guardW t64 false
  (runD (fitD aG (loadD h t7)) h fun t66 h =>
    callW false c.noS (.fn (.func 101) [] []) [t66] h (fun t67 h =>
    runD (fitD cS (loadD h t6)) h fun t68 h =>
    runD (binD cS .neq t67 t68) h fun t69 h =>
    J5 (.bool false) t69 h)
    (fun _ _ => False))
  (J5 (.bool true) .und h))
  (fun t65 t69 h => runD (pickD t65 (.bool true) t69) h fun t70 h =>
  condW t70
  (runD (buildD aG []) h fun t71 h =>
    runH (storeH aG h t4 t71) h fun _ h =>
    loadRes (fitD aG (loadD h t4)) fun r0 => K (.ret (.tup [r0, (.int .i64 70)])) h)
  (runD (fitD aG (loadD h t7)) h fun t72 h =>
  runH (storeH aG h t4 t72) h fun _ h =>
  loadRes (fitD aG (loadD h t4)) fun r0 => K (.ret (.tup [r0, (.int .i64 0)])) h))))))
  (fun v h => K (.pan v) h)))
def fK.loops : Nat → LInfo
  | 1 => ⟨[], [], [], [(3, none), (2, some [12, 14])], [], []⟩
  | _ => ⟨[], [], [], [], [], []⟩
def fK.H (c : Ctx) (t0 : AV) (t1 : AV) (t2 : AV) (h : List AObj) (K : AOut → List AObj → Prop) : Prop :=
  boxW cS t0 h fun t3 h =>
  runD (binD T_int .lss t2 (.int .i64 0)) h fun t11 h =>
  joinW (fun (J1 : AV → AV → List AObj → Prop) =>
  guardW t11 false
  (runD (binD T_int .gtr t2 (.int .i64 21)) h fun t14 h =>
    J1 (.bool false) t14 h)
  (J1 (.bool true) .und h))
  (fun t12 t14 h => runD (pickD t12 (.bool true) t14) h fun t15 h =>
  condW t15
  (K (.ret (.tup [(.str []), (.bool false)])) h)
  (runD (binD T_int .add t2 (.int .i64 6)) h fun t20 h =>
  runD (binD T_int .quo t20 (.int .i64 7)) h fun t21 h =>
  runD (binD T_int .add t1 t21) h fun t22 h =>
  runD (sliceD cS h t3 (some t1) (some t22) none) h fun t23 h =>
  callW false c (.fn (.func 115) [] []) [t23, t2] h (fun t25 h =>
  runD (bH t25 0) h fun t26 h =>
  runD (bH t25 1) h fun t27 h =>
  runD (binD dA .eql t27 (.int .i64 0)) h fun t30 h =>
  K (.ret (.tup [t26, t30])) h)
  (fun v h => K (.pan v) h)))
def dW.loops : Nat → LInfo
  | 3 => ⟨[], [], [], [(4, none), (3, some [10, 13]), (2, none), (3, some [15, 18])], [], []⟩
  | 5 => ⟨[], [], [], [(4, none), (3, some [25, 28]), (2, none), (3, some [30, 33]), (2, none), (3, some [35, 38]), (2, none), (3, some [40, 43])], [], []⟩
  | _ => ⟨[], [], [], [], [], []⟩
def dW.H (c : Ctx) (t0 : AV) (h : List AObj) (K : AOut → List AObj → Prop) : Prop :=
  boxW aG t0 h fun t1 h =>
  runD (aB aG t1 0) h fun t3 h =>
  runD (fitD T_int (loadD h t3)) h fun t4 h =>
  runD (binD T_int .eql t4 (.int .i64 1)) h fun t6 h =>
  condW t6
  (runD (aB aG t1 1) h fun t7 h =>
    runD (fitD bN (loadD h t7)) h fun t8 h =>
    callW false c (.fn (.func 53) [] []) [t8] h (fun t9 h =>
    joinW (fun (J1 : AV → AV → List AObj → Prop) =>
    guardW t9 true
    (runD (aB aG t1 2) h fun t11 h =>
      runD (fitD bN (loadD h t11)) h fun t12 h =>
      callW false c (.fn (.func 116) [] []) [t12] h (fun t13 h =>
      J1 (.bool true) t13 h)
      (fun v h => K (.pan v) h))
    (J1 (.bool false) .und h))
    (fun t10 t13 h => runD (pickD t10 t13 (.bool false)) h fun t14 h =>
    joinW (fun (J2 : AV → AV → List AObj → Prop) =>
    guardW t14 true
    (runD (aB aG t1 3) h fun t16 h =>
      runD (fitD T_int (loadD h t16)) h fun t17 h =>
      runD (binD T_int .eql t17 (.int .i64 0)) h fun t18 h =>
      J2 (.bool true) t18 h)
    (J2 (.bool false) .und h))
    (fun t15 t18 h => runD (pickD t15 t18 (.bool false)) h fun t19 h =>
    K (.ret t19) h)))
    (fun v h => K (.pan v) h))
  (runD (binD T_int .eql t4 (.int .i64 2)) h fun t21 h =>
    condW t21
    (runD (aB aG t1 1) h fun t22 h =>
      runD (fitD bN (loadD h t22)) h fun t23 h =>
      runD (binD bN .eql t23 (.str [])) h fun t24 h =>
      joinW (fun (J3 : AV → AV → List AObj → Prop) =>
      guardW t24 false
      (runD (aB aG t1 1) h fun t26 h =>
        runD (fitD bN (loadD h t26)) h fun t27 h =>
        callW false c (.fn (.func 53) [] []) [t27] h (fun t28 h =>
        J3 (.bool false) t28 h)
        (fun v h => K (.pan v) h))
      (J3 (.bool true) .und h))
      (fun t25 t28 h => runD (pickD t25 (.bool true) t28) h fun t29 h =>
      joinW (fun (J4 : AV → AV → List AObj → Prop) =>
      guardW t29 true
      (runD (aB aG t1 2) h fun t31 h =>
        runD (fitD bN (loadD h t31)) h fun t32 h =>
        runD (binD bN .eql t32 (.str [])) h fun t33 h =>
        J4 (.bool true) t33 h)
      (J4 (.bool false) .und h))
      (fun t30 t33 h => runD (pickD t30 t33 (.bool false)) h fun t34 h =>
      joinW (fun (J5 : AV → AV → List AObj → Prop) =>
      guardW t34 true
      (runD (aB aG t1 3) h fun t36 h =>
        runD (fitD T_int (loadD h t36)) h fun t37 h =>
        runD (binD T_int .gtr t37 (.int .i64 0)) h fun t38 h =>
        J5 (.bool true) t38 h)
      (J5 (.bool false) .und h))
      (fun t35 t38 h => runD (pickD t35 t38 (.bool false)) h fun t39 h =>
      joinW (fun (J6 : AV → AV → List AObj → Prop) =>
      guardW t39 true
      (runD (aB aG t1 3) h fun t41 h =>
        runD (fitD T_int (loadD h t41)) h fun t42 h =>
        runD (binD T_int .lss t42 (.int .i64 256)) h fun t43 h =>
        J6 (.bool true) t43 h)
      (J6 (.bool false) .und h))
      (fun t40 t43 h => runD (pickD t40 t43 (.bool false)) h fun t44 h =>
      K (.ret t44) h)))))
    (K (.ret (.bool false)) h))
def rec_of.loops : Nat → LInfo
  | _ => ⟨[], [], [], [], [], []⟩
def rec_of.H (c : Ctx) (t0 : AV) (h : List AObj) (K : AOut → List AObj → Prop) : Prop :=
  boxW aG t0 h fun t1 h =>
  allocW cS h fun t2 h =>
  runD (aB aG t1 0) h fun t4 h =>
  runD (fitD T_int (loadD h t4)) h fun t5 h =>
  runD (aB aG t1 1) h fun t6 h =>
  runD (fitD bN (loadD h t6)) h fun t7 h =>
  runD (lenD bN h t7) h fun t8 h =>
  runD (binD T_int .mul (.int .i64 32) t8) h fun t9 h =>
  runD (aB aG t1 2) h fun t10 h =>
  runD (fitD bN (loadD h t10)) h fun t11 h =>
  runD (lenD bN h t11) h fun t12 h =>
  runD (binD T_int .add t9 t12) h fun t13 h =>
  runD (buildD cS [(0, t5), (1, t13)]) h fun t14 h =>
  allocW cS h fun t3 h =>
  runH (storeH cS h t3 t14) h fun _ h =>
  runD (sliceD cS h t3 (some (.int .i64 3)) none none) h fun t15 h =>
  runD (aB aG t1 1) h fun t16 h =>
  runD (fitD bN (loadD h t16)) h fun t17 h =>
  callW false c.noS (.fn (.func 117) [] []) [t17] h (fun t18 h =>
  runM (copyH aI h t15 t18) h fun t19 h =>
  runD (sliceD cS h t3 (some (.int .i64 6)) none none) h fun t20 h =>
  runD (aB aG t1 2) h fun t21 h =>
  runD (fitD bN (loadD h t21)) h fun t22 h =>
  callW false c.noS (.fn (.func 117) [] []) [t22] h (fun t23 h =>
  runM (copyH aI h t20 t23) h fun t24 h =>
  runD (aB aG t1 0) h fun t25 h =>
  runD (fitD T_int (loadD h t25)) h fun t26 h =>
  runD (binD T_int .eql t26 (.int .i64 2)) h fun t27 h =>
  joinW (fun (J1 : List AObj → Prop) =>
  condW t27
  (runD (aB aG t1 3) h fun t28 h =>
    runD (fitD T_int (loadD h t28)) h fun t29 h =>
    runD (aF cS h t3 (.int .i64 6)) h fun t30 h =>
    runH (storeH T_int h t30 t29) h fun _ h =>
    J1 h)
  (J1 h))
  (fun h => runD (fitD cS (loadD h t3)) h fun t31 h =>
  callW false c (.fn (.func 118) [] []) [t31] h (fun t32 h =>
  runH (storeH cS h t2 t32) h fun _ h =>
  loadRes (fitD cS (loadD h t2)) fun r0 => K (.ret r0) h)
  (fun v h => K (.pan v) h)))
  (fun _ _ => False))
  (fun _ _ => False)
def eQ.loops : Nat → LInfo
  | _ => ⟨[], [], [], [], [], []⟩
def eQ.H (c : Ctx) (t0 : AV) (h : List AObj) (K : AOut → List AObj → Prop) : Prop :=
  boxW cS t0 h fun t1 h =>
  allocW cS h fun t2 h =>
  runD (aF cS h t1 (.int .i64 0)) h fun t4 h =>
  runD (fitD T_int (loadD h t4)) h fun t5 h =>
  runD (aF cS h t1 (.int .i64 1)) h fun t6 h =>
  runD (fitD T_int (loadD h t6)) h fun t7 h =>
  runD (fB aI 2 [(0, t5), (1, t7)] h.length) h fun t8 h =>
  runD (sliceD cS h t1 (some (.int .i64 3)) none none) h fun t9 h =>
  runDM (appendD aI h t8 t9 h.length) (appendH aI h t8 t9) h fun t10 h =>
  callW false c (.fn (.func 93) [] []) [t10] h (fun t12 h =>
  runD (aF cS h t1 (.int .i64 2)) h fun t13 h =>
  runH (storeH T_int h t13 t12) h fun _ h =>
  runD (fitD cS (loadD h t1)) h fun t14 h =>
  runH (storeH cS h t2 t14) h fun _ h =>
  loadRes (fitD cS (loadD h t2)) fun r0 => K (.ret r0) h)
  (fun v h => K (.pan v) h)
theorem dM.eq (F : List (FuncId × aD)) (S : List (FuncId × Con)) (t0 t1 : AV) (h : List AObj) (K : AOut → List AObj → Prop) : funW (ctx F S dM.loops) Tryz.f79 [t0, t1] h K = dM.H (ctx F S dM.loops) t0 t1 h K := by kernel_rfl
theorem fK.eq (F : List (FuncId × aD)) (S : List (FuncId × Con)) (t0 t1 t2 : AV) (h : List AObj) (K : AOut → List AObj → Prop) : funW (ctx F S fK.loops) Tryz.f99 [t0, t1, t2] h K = fK.H (ctx F S fK.loops) t0 t1 t2 h K := by kernel_rfl
theorem dW.eq (F : List (FuncId × aD)) (S : List (FuncId × Con)) (t0 : AV) (h : List AObj) (K : AOut → List AObj → Prop) : funW (ctx F S dW.loops) Tryz.f100 [t0] h K = dW.H (ctx F S dW.loops) t0 h K := by kernel_rfl
theorem rec_of.eq (F : List (FuncId × aD)) (S : List (FuncId × Con)) (t0 : AV) (h : List AObj) (K : AOut → List AObj → Prop) : funW (ctx F S rec_of.loops) Tryz.f101 [t0] h K = rec_of.H (ctx F S rec_of.loops) t0 h K := by kernel_rfl
theorem eQ.eq (F : List (FuncId × aD)) (S : List (FuncId × Con)) (t0 : AV) (h : List AObj) (K : AOut → List AObj → Prop) : funW (ctx F S eQ.loops) Tryz.f118 [t0] h K = eQ.H (ctx F S eQ.loops) t0 h K := by kernel_rfl
theorem dM.at : Tryz.prog.funcs[79]? = some Tryz.f79 := by kernel_rfl
theorem dM.nm : (Tryz.f79.name == "runtime.NumGoroutine") = false := by kernel_rfl
theorem dM.bd : Tryz.f79.body.isNone = false := by kernel_rfl
theorem fK.at : Tryz.prog.funcs[99]? = some Tryz.f99 := by kernel_rfl
theorem fK.nm : (Tryz.f99.name == "runtime.NumGoroutine") = false := by kernel_rfl
theorem fK.bd : Tryz.f99.body.isNone = false := by kernel_rfl
theorem dW.at : Tryz.prog.funcs[100]? = some Tryz.f100 := by kernel_rfl
theorem dW.nm : (Tryz.f100.name == "runtime.NumGoroutine") = false := by kernel_rfl
theorem dW.bd : Tryz.f100.body.isNone = false := by kernel_rfl
theorem rec_of.at : Tryz.prog.funcs[101]? = some Tryz.f101 := by kernel_rfl
theorem rec_of.nm : (Tryz.f101.name == "runtime.NumGoroutine") = false := by kernel_rfl
theorem rec_of.bd : Tryz.f101.body.isNone = false := by kernel_rfl
theorem eQ.at : Tryz.prog.funcs[118]? = some Tryz.f118 := by kernel_rfl
theorem eQ.nm : (Tryz.f118.name == "runtime.NumGoroutine") = false := by kernel_rfl
theorem eQ.bd : Tryz.f118.body.isNone = false := by kernel_rfl
end Lam
namespace Lam
open Go Go.Proofs
set_option linter.unusedVariables false
set_option linter.unnecessarySimpa false
set_option linter.unusedSimpArgs false
def dW.C : aD
  | [.agg [.int .i64 a, .str k, .str v, .int .i64 c]] => some (false, pD True (.bool (recB ⟨a, k, v, c⟩)))
  | _ => none
set_option maxRecDepth 20000 in
theorem dW.spec : FSpec Tryz.prog 100 dW.C := by
  refine FSpec.of (ctx_ok (F := [(53, eT.C), (116, dL.C)]) (S := []) (by simpa using ⟨eT.spec, dL.spec⟩) (by simp) dW.loops) dW.at dW.nm dW.bd ?_
  intro vs b S v news e hS
  unfold dW.C at e
  split at e
  rotate_left
  · cases e
  cases e
  rw [dW.eq]
  unfold dW.H
  simp (maxSteps := 4000000) only [go_sem, Nat.reduceEqDiff, Nat.reduceLT, Nat.reduceAdd, Nat.reduceSub, Nat.reduceLeDiff, List.reduceReplicate, Int.reduceToNat, eT.C, dL.C]
  rename_i a k v c
  have r1 : a = 1 → recB ⟨a, k, v, c⟩ = (decide (¬ k = []) && decide ((List.length k : Int) ≤ 21) && decide ((List.length v : Int) ≤ 21) && decide (c = 0)) := by
    rintro rfl
    unfold recB keyB
    rw [Bool.eq_iff_iff]
    simp [and_assoc]
  have r2 : a = 2 → recB ⟨a, k, v, c⟩ = ((decide (k = []) || decide (¬ k = []) && decide ((List.length k : Int) ≤ 21)) && decide (v = []) && decide (0 < c) && decide (c < 256)) := by
    rintro rfl
    unfold recB keyB
    rw [Bool.eq_iff_iff]
    simp [and_assoc]
  have r3 : ¬ a = 1 → ¬ a = 2 → recB ⟨a, k, v, c⟩ = false := by
    intro h1 h2
    unfold recB
    rw [decide_eq_false h1, decide_eq_false h2]; rfl
  refine ⟨fun h => ?_, fun h => ⟨fun h2 => ?_, fun h2 => ?_⟩⟩
  · rw [r1 h]; exact aH rfl rfl
  · rw [r2 h2]; exact aH rfl rfl
  · rw [r3 h h2]; exact aH rfl rfl
def eQ.C : aD
  | [.arr (.ints .i64 l)] => some (false, pD (l.length = 16) (.arr (.ints .i64 (l.set 2 (sumOf (l.getD 0 0 :: l.getD 1 0 :: l.drop 3))))))
  | _ => none
set_option maxRecDepth 20000 in
theorem eQ.spec : FSpec Tryz.prog 118 eQ.C := by
  refine FSpec.of (ctx_ok (F := [(93, sum_Of.C)]) (S := []) (by simpa using sum_Of.spec) (by simp) eQ.loops) eQ.at eQ.nm eQ.bd ?_
  intro vs b S v news e hS
  unfold eQ.C at e
  split at e
  rotate_left
  · cases e
  cases e
  rw [eQ.eq]
  unfold eQ.H
  simp (maxSteps := 4000000) only [go_sem, Nat.reduceEqDiff, Nat.reduceLT, Nat.reduceAdd, Nat.reduceSub, Nat.reduceLeDiff, List.reduceReplicate, Int.reduceToNat, sum_Of.C]
  rename_i l
  simp only [hS, sum_Of.C, aA, gq, Int.reduceEq, Int.reduceLT, Int.reduceLE, implies_true, reduceCtorEq, if_true, if_false, go_sem, Nat.reduceEqDiff, Nat.reduceLT, Nat.reduceAdd, Nat.reduceSub, Nat.reduceLeDiff, List.reduceReplicate, Int.reduceToNat]
  have htk : (l.drop 3).take 13 = l.drop 3 := jI _ (by simp; omega)
  rw [htk]
  have : roomy ((l.drop 3).length + 1 + 1) := by unfold roomy; simp; omega
  exact ⟨this, this, aH rfl rfl⟩
def rec_of.C : aD
  | [.agg [.int .i64 a, .str k, .str v, .int .i64 c]] => some (false, pD (Rc.ok ⟨a, k, v, c⟩) (.arr (.ints .i64 (formR ⟨a, k, v, c⟩))))
  | _ => none
set_option maxRecDepth 20000 in
theorem rec_of.spec : FSpec Tryz.prog 101 rec_of.C := by
  refine FSpec.of (ctx_ok (F := [(117, eE.C), (118, eQ.C)]) (S := []) (by simpa using ⟨eE.spec, eQ.spec⟩) (by simp) rec_of.loops) rec_of.at rec_of.nm rec_of.bd ?_
  intro vs b S v news e hS
  unfold rec_of.C at e
  split at e
  rotate_left
  · cases e
  cases e
  rw [rec_of.eq]
  unfold rec_of.H
  simp (maxSteps := 4000000) only [go_sem, Nat.reduceEqDiff, Nat.reduceLT, Nat.reduceAdd, Nat.reduceSub, Nat.reduceLeDiff, List.reduceReplicate, Int.reduceToNat, eE.C, eQ.C]
  rename_i a k v c
  have hok := hS
  have hk := iT hS.key
  have hkl : (keyW k).length = (k.length + 6) / 7 := mB k
  have hvl : (keyW v).length = (v.length + 6) / 7 := mB v
  have q1 := hS.key
  have q2 := hS.val
  simp only at q1 q2 hk
  have e1 : IntKind.i64.wrap (IntKind.i64.wrap (32 * (List.length k : Int)) + (List.length v : Int)) = lensR ⟨a, k, v, c⟩ := by
    rw [w64 (n := 32 * (List.length k : Int)) (by omega) (by omega), w64 (by omega) (by omega)]; rfl
  rw [e1]
  generalize hm : lensR ⟨a, k, v, c⟩ = m at *
  have pad : ∀ (t : List Int), t.length ≤ 3 → t.take 13 ++ List.take (16 - (3 + min 13 t.length)) (List.drop (3 + min 13 t.length) [a, m, 0, 0, 0, 0, 0, 0, 0, 0, 0, 0, 0, 0, 0, 0]) = t ++ List.replicate (13 - t.length) 0 := by
    intro t ht
    rw [jI t (by omega), Nat.min_eq_right (by omega)]
    congr 1
    have : ∀ n, n ≤ 3 → List.take (16 - (3 + n)) (List.drop (3 + n) [a, m, 0, 0, 0, 0, 0, 0, 0, 0, 0, 0, 0, 0, 0, 0]) = List.replicate (13 - n) 0 := by
      intro n hn
      rcases n with _|_|_|_|n <;> first | rfl | omega
    exact this _ ht
  have hkl3 : (keyW k).length ≤ 3 := by omega
  have hvl3 : (keyW v).length ≤ 3 := by omega
  rw [pad _ hkl3]
  have hL : (keyW k ++ List.replicate (13 - (keyW k).length) 0).length = 13 := by simp; omega
  simp only [hL, eE.C, aA, gq, Int.reduceEq, Int.reduceLT, Int.reduceLE, implies_true, reduceCtorEq, if_true, if_false, go_sem, Nat.reduceEqDiff, Nat.reduceLT, Nat.reduceAdd, Nat.reduceSub, Nat.reduceLeDiff, List.reduceReplicate, Int.reduceToNat]
  have hZ : List.take 3 (keyW k ++ List.replicate (13 - (keyW k).length) 0) = threeI k := by
    unfold threeI
    rw [List.take_append, jI (keyW k) hkl3, List.take_replicate, Nat.min_eq_left (by omega)]
  have hT : List.take 10 (keyW v) ++ List.take (16 - (6 + min 10 (keyW v).length)) (List.drop (6 + min 10 (keyW v).length) (a :: m :: 0 :: (keyW k ++ List.replicate (13 - (keyW k).length) 0))) = keyW v ++ List.replicate (10 - (keyW v).length) 0 := by
    rw [jI (keyW v) (by omega), Nat.min_eq_right (by omega)]
    congr 1
    rw [show 6 + (keyW v).length = (3 + (keyW v).length) + 1 + 1 + 1 from by omega, List.drop_succ_cons, List.drop_succ_cons, List.drop_succ_cons, List.drop_append, List.drop_eq_nil_of_le (by omega), List.nil_append, List.drop_replicate, List.take_replicate]
    congr 1; omega
  rw [hZ, hT]
  have hlen : (threeI k ++ (keyW v ++ List.replicate (10 - (keyW v).length) 0)).length = 13 := by simp [hk]; omega
  have hr1 : a ≠ 2 → threeI k ++ (keyW v ++ List.replicate (10 - (keyW v).length) 0) = restR ⟨a, k, v, c⟩ := by
    intro h
    unfold restR
    simp only [if_neg h]
    congr 1
    unfold threeI
    rw [List.append_assoc, List.replicate_append_replicate]
    congr 2; omega
  have hr2 : a = 2 → (threeI k ++ (keyW v ++ List.replicate (10 - (keyW v).length) 0)).set 3 c = restR ⟨a, k, v, c⟩ := by
    intro h
    have hv0 : v = [] := by
      rcases hok with h' | h'
      · have := h'.1; simp only at this; omega
      · exact h'.2.2.1
    subst hv0
    unfold restR
    simp only [if_pos h]
    rw [List.set_append_right _ _ (by omega), hk]
    rfl
  have hmr : m = lensR ⟨a, k, v, c⟩ := hm.symm
  simp only [hlen, eQ.C, aA, gq, Int.reduceEq, Int.reduceLT, Int.reduceLE, implies_true, reduceCtorEq, if_true, if_false, go_sem, Nat.reduceEqDiff, Nat.reduceLT, Nat.reduceAdd, Nat.reduceSub, Nat.reduceLeDiff, List.reduceReplicate, Int.reduceToNat]
  have hd3 : ∀ R : List Int, List.drop 3 (a :: m :: 0 :: R) = R := fun R => rfl
  refine ⟨by unfold roomy; omega, by unfold roomy; omega, fun h2 => ?_, fun h2 => ?_⟩
  · rw [hr2 h2, hd3, hmr]; exact aH rfl rfl
  · rw [hr1 h2, hd3, hmr]; exact aH rfl rfl
def fK.C : aD
  | [.arr (.ints .i64 l), .int .i64 a, .int .i64 n] => some (false, pD (l.length = 16 ∧ 0 ≤ a ∧ a ≤ 6) (.tup [.str (txtS l a.toNat n), .bool (txtB l a.toNat n)]))
  | _ => none
set_option maxRecDepth 20000 in
theorem fK.spec : FSpec Tryz.prog 99 fK.C := by
  refine FSpec.of (ctx_ok (F := [(115, dH.C)]) (S := []) (by simpa using dH.spec) (by simp) fK.loops) fK.at fK.nm fK.bd ?_
  intro vs b S v news e hS
  unfold fK.C at e
  split at e
  rotate_left
  · cases e
  cases e
  rw [fK.eq]
  unfold fK.H
  simp (maxSteps := 4000000) only [go_sem, Nat.reduceEqDiff, Nat.reduceLT, Nat.reduceAdd, Nat.reduceSub, Nat.reduceLeDiff, List.reduceReplicate, Int.reduceToNat, dH.C]
  rename_i l a n
  obtain ⟨hl, ha0, ha6⟩ := hS
  have eg : (decide (n < 0) || decide (21 < n)) = !(decide (0 ≤ n) && decide (n ≤ 21)) := by
    rw [Bool.eq_iff_iff]; simp only [Bool.or_eq_true, Bool.not_eq_true', Bool.and_eq_false_iff, decide_eq_true_eq, decide_eq_false_iff_not]; omega
  rw [eg]
  refine ⟨hl, fun h => ?_, fun h => ?_⟩
  · have hb : txtB l a.toNat n = false := by
      unfold txtB; rw [Bool.not_eq_true'] at h; rw [h]; rfl
    unfold txtS
    rw [hb]; exact aH rfl rfl
  · rw [Bool.not_eq_false'] at h
    have h' := h
    simp only [Bool.and_eq_true, decide_eq_true_eq] at h'
    obtain ⟨N, rfl⟩ := Int.eq_ofNat_of_zero_le h'.1
    obtain ⟨A, rfl⟩ := Int.eq_ofNat_of_zero_le ha0
    have hN : N ≤ 21 := by omega
    have q0 : (N + 6) / 7 ≤ 3 := by omega
    have e1 : IntKind.i64.wrap ((N : Int) + 6) = ((N + 6 : Nat) : Int) := by rw [w64 (by omega) (by omega)]; omega
    have e2 : IntKind.i64.wrap (((N + 6 : Nat) : Int).tdiv 7) = (((N + 6) / 7 : Nat) : Int) := by
      rw [Int.tdiv_eq_ediv_of_nonneg (by omega), w64 (by omega) (by omega)]; omega
    have e3 : IntKind.i64.wrap ((A : Int) + (((N + 6) / 7 : Nat) : Int)) = ((A + (N + 6) / 7 : Nat) : Int) := by rw [w64 (by omega) (by omega)]; omega
    have e4 : A + (N + 6) / 7 - A = (N + 6) / 7 := by omega
    rw [e1, e2, e3]
    simp only [hl, Int.toNat_natCast, e4, dH.C, aA, gq, Int.reduceEq, Int.reduceLT, Int.reduceLE, implies_true, reduceCtorEq, if_true, if_false, go_sem, Nat.reduceEqDiff, Nat.reduceLT, Nat.reduceAdd, Nat.reduceSub, Nat.reduceLeDiff, List.reduceReplicate, Int.reduceToNat]
    have hbt : txtB l A (N : Int) = textB ((l.drop A).take ((N + 6) / 7)) N := by
      unfold txtB
      rw [Int.toNat_natCast, h, Bool.true_and]
    have hst : txtS l A (N : Int) = if textB ((l.drop A).take ((N + 6) / 7)) N = true then textS ((l.drop A).take ((N + 6) / 7)) N else [] := by
      unfold txtS
      rw [hbt, Int.toNat_natCast]
    have hw : roomy (7 * (List.take ((N + 6) / 7) (List.drop A l)).length) := by rw [List.length_take]; unfold roomy; omega
    rw [hst, hbt]
    unfold textV
    refine ⟨by omega, ⟨hw, by omega⟩, ?_⟩
    cases textB ((l.drop A).take ((N + 6) / 7)) N
    · simp only [aA, gq, Int.reduceEq, Int.reduceLT, Int.reduceLE, implies_true, reduceCtorEq, if_true, if_false, go_sem, Nat.reduceEqDiff, Nat.reduceLT, Nat.reduceAdd, Nat.reduceSub, Nat.reduceLeDiff, List.reduceReplicate, Int.reduceToNat]; exact aH rfl rfl
    · simp only [aA, gq, Int.reduceEq, Int.reduceLT, Int.reduceLE, implies_true, reduceCtorEq, if_true, if_false, go_sem, Nat.reduceEqDiff, Nat.reduceLT, Nat.reduceAdd, Nat.reduceSub, Nat.reduceLeDiff, List.reduceReplicate, Int.reduceToNat]; exact aH rfl rfl
def rreadV (words : List Int) (at_ : Int) : AV := if (decide (at_ < 0) || decide (((words.length / 16 : Nat) : Int) ≤ at_)) = true then .tup [zeroRc.V, .int .i64 1] else match recOf (blockAt words at_.toNat) with
  | some n => .tup [n.V, .int .i64 0]
  | none => .tup [zeroRc.V, .int .i64 70]
/-- as the program reckons it -/
def decP7 (w : List Int) : Rc := ⟨w.getD 0 0, txtS w 3 (IntKind.i64.wrap ((w.getD 1 0).tdiv 32)), if w.getD 0 0 = 1 then txtS w 6 ((w.getD 1 0).tmod 32) else [], if w.getD 0 0 = 2 then w.getD 6 0 else 0⟩
theorem lens_P {x : Rc} (h : x.ok) : IntKind.i64.wrap ((lensR x).tdiv 32) = x.key.length ∧ (lensR x).tmod 32 = x.val.length := by
  have hl := pH h
  rw [Int.tdiv_eq_ediv_of_nonneg hl.2.2.1, Int.tmod_eq_emod_of_nonneg hl.2.2.1, w64 (by omega) (by omega)]
  exact ⟨hl.1, hl.2.1⟩
theorem aAu {x : Rc} (h : x.ok) : decP7 (formR x) = x := by
  have hd := uX h
  have e1 : (formR x).getD 1 0 = lensR x := rfl
  have hl := pH h
  have hp := lens_P h
  unfold decC at hd
  unfold decP7
  rw [e1, hl.1, hl.2.1] at hd
  rw [e1, hp.1, hp.2]; exact hd
theorem recP_eq (w : List Int) : readC decP7 w = recOf w := aCb (fun n h => aAu h) (fun n h => uX h) w
theorem no_key {w : List Int} (h : txtB w 3 (IntKind.i64.wrap ((w.getD 1 0).tdiv 32)) = false) : recOf w = none := by
  apply sX
  rintro x hx rfl
  have e1 : (formR x).getD 1 0 = lensR x := rfl
  rw [e1, (lens_P hx).1, (xC hx).1] at h
  cases h
theorem no_val {w : List Int} (h1 : w.getD 0 0 = 1) (h : txtB w 6 ((w.getD 1 0).tmod 32) = false) : recOf w = none := by
  apply sX
  rintro x hx rfl
  have e1 : (formR x).getD 1 0 = lensR x := rfl
  rw [e1, (lens_P hx).2, (xD hx h1).1] at h
  cases h
def dM.C : aD
  | [.sl _ (.ints .i64 l), .int .i64 k] => some (false, pD (roomy l.length) (rreadV l k))
  | _ => none
set_option maxRecDepth 20000 in
theorem dM.spec : FSpec Tryz.prog 79 dM.C := by
  refine FSpec.of (ctx_ok (F := [(99, fK.C), (100, dW.C), (101, rec_of.C)]) (S := []) (by simpa using ⟨fK.spec, dW.spec, rec_of.spec⟩) (by simp) dM.loops) dM.at dM.nm dM.bd ?_
  intro vs b S v news e hS
  unfold dM.C at e
  split at e
  rotate_left
  · cases e
  cases e
  rw [dM.eq]
  unfold dM.H
  simp (maxSteps := 4000000) only [go_sem, Nat.reduceEqDiff, Nat.reduceLT, Nat.reduceAdd, Nat.reduceSub, Nat.reduceLeDiff, List.reduceReplicate, Int.reduceToNat, fK.C, dW.C, rec_of.C]
  rename_i l k
  have hrl := hS
  unfold roomy at hS
  have e0 : IntKind.i64.wrap ((l.length : Int).tdiv 16) = ((l.length / 16 : Nat) : Int) := by
    rw [Int.tdiv_eq_ediv_of_nonneg (by omega)]; exact w64 (by omega) (by omega)
  rw [e0]
  unfold rreadV
  refine ⟨fun _ => by decide, fun h => ?_, fun h => ?_⟩
  · rw [if_pos h]
    refine aH ?_ rfl
    simp only [zeroRc, go_sem, Nat.reduceEqDiff, Nat.reduceLT, Nat.reduceAdd, Nat.reduceSub, Nat.reduceLeDiff, List.reduceReplicate, Int.reduceToNat]
  · rw [h]
    simp only [Bool.or_eq_false_iff, decide_eq_false_iff_not] at h
    obtain ⟨k, rfl⟩ := Int.eq_ofNat_of_zero_le (show 0 ≤ k by omega)
    have hk : 16 * k + 16 ≤ l.length := by omega
    have e1 : IntKind.i64.wrap (16 * (k : Int)) = 16 * (k : Int) := w64 (by omega) (by omega)
    have e5 : (16 * (k : Int)).toNat = 16 * k := by omega
    have hdl : (l.drop (16 * k)).length = l.length - 16 * k := by simp
    have et : (l.drop (16 * k)).take (l.length - 16 * k) = l.drop (16 * k) := jI _ (by omega)
    have hbl : (blockAt l k).length = 16 := by unfold blockAt; simp; omega
    rw [e1, e5, et, hdl, Nat.min_eq_left (by omega)]
    have ew : (l.drop (16 * k)).take 16 ++ List.take (16 - 16) (List.drop 16 [0, 0, 0, 0, 0, 0, 0, 0, 0, 0, 0, 0, 0, 0, 0, 0]) = blockAt l k := by
      show (l.drop (16 * k)).take 16 ++ [] = _
      rw [List.append_nil]; rfl
    rw [ew, Int.toNat_natCast]
    generalize blockAt l k = w at *
    have hV : (decP7 w).V = .agg [.int .i64 (w.getD 0 0), .str (txtS w 3 (IntKind.i64.wrap ((w.getD 1 0).tdiv 32))), .str (if w.getD 0 0 = 1 then txtS w 6 ((w.getD 1 0).tmod 32) else []), .int .i64 (if w.getD 0 0 = 2 then w.getD 6 0 else 0)] := rfl
    simp only [hbl, fK.C, aA, gq, Int.reduceEq, Int.reduceLT, Int.reduceLE, implies_true, reduceCtorEq, if_true, if_false, go_sem, Nat.reduceEqDiff, Nat.reduceLT, Nat.reduceAdd, Nat.reduceSub, Nat.reduceLeDiff, List.reduceReplicate, Int.reduceToNat]
    refine ⟨by omega, fun hT => ?_, fun hT => ⟨fun h1 => ?_, fun h1 => ⟨fun h2 => ?_, fun h2 => ?_⟩⟩⟩
    · rw [no_key hT]
      refine aH ?_ rfl
      simp only [zeroRc, go_sem, Nat.reduceEqDiff, Nat.reduceLT, Nat.reduceAdd, Nat.reduceSub, Nat.reduceLeDiff, List.reduceReplicate, Int.reduceToNat]
    · have hd1 : (⟨w.getD 0 0, txtS w 3 (IntKind.i64.wrap ((w.getD 1 0).tdiv 32)), txtS w 6 ((w.getD 1 0).tmod 32), 0⟩ : Rc) = decP7 w := by
        unfold decP7; rw [if_pos h1, if_neg (by omega)]
      cases h6 : txtB w 6 ((w.getD 1 0).tmod 32) with
      | false =>
        simp only [Bool.not_false, wW]
        rw [no_val h1 h6]
        refine aH ?_ rfl
        simp only [zeroRc, go_sem, Nat.reduceEqDiff, Nat.reduceLT, Nat.reduceAdd, Nat.reduceSub, Nat.reduceLeDiff, List.reduceReplicate, Int.reduceToNat]
      | true =>
        rw [← recP_eq]
        unfold readC
        cases hb : recB (decP7 w) with
        | false =>
          simp only [dW.C, hd1, hb, Bool.false_and, Bool.false_eq_true, if_false, aA, gq, Int.reduceEq, Int.reduceLT, Int.reduceLE, implies_true, reduceCtorEq, if_true, if_false, go_sem, Nat.reduceEqDiff, Nat.reduceLT, Nat.reduceAdd, Nat.reduceSub, Nat.reduceLeDiff, List.reduceReplicate, Int.reduceToNat]
          refine aH ?_ rfl
          simp only [zeroRc, go_sem, Nat.reduceEqDiff, Nat.reduceLT, Nat.reduceAdd, Nat.reduceSub, Nat.reduceLeDiff, List.reduceReplicate, Int.reduceToNat]
        | true =>
          have hok := rec_iff.1 hb
          have hfl := rF hok
          simp only [dW.C, rec_of.C, hd1, hb, hfl, hbl, Bool.true_and, aA, gq, Int.reduceEq, Int.reduceLT, Int.reduceLE, implies_true, reduceCtorEq, if_true, if_false, go_sem, Nat.reduceEqDiff, Nat.reduceLT, Nat.reduceAdd, Nat.reduceSub, Nat.reduceLeDiff, List.reduceReplicate, Int.reduceToNat]
          refine ⟨hok, fun h => ?_, fun h => ?_⟩
          · rw [if_neg h]
            refine aH ?_ rfl
            simp only [zeroRc, go_sem, Nat.reduceEqDiff, Nat.reduceLT, Nat.reduceAdd, Nat.reduceSub, Nat.reduceLeDiff, List.reduceReplicate, Int.reduceToNat]
          · rw [if_pos h, ← hd1]
            exact aH rfl rfl
    · have hd1 : (⟨w.getD 0 0, txtS w 3 (IntKind.i64.wrap ((w.getD 1 0).tdiv 32)), [], w.getD 6 0⟩ : Rc) = decP7 w := by
        unfold decP7; rw [if_neg (by omega), if_pos h2]
      rw [← recP_eq]
      unfold readC
      cases hb : recB (decP7 w) with
      | false =>
        simp only [hT, dW.C, hd1, hb, Bool.false_and, Bool.false_eq_true, if_false, aA, gq, Int.reduceEq, Int.reduceLT, Int.reduceLE, implies_true, reduceCtorEq, if_true, if_false, go_sem, Nat.reduceEqDiff, Nat.reduceLT, Nat.reduceAdd, Nat.reduceSub, Nat.reduceLeDiff, List.reduceReplicate, Int.reduceToNat]
        refine aH ?_ rfl
        simp only [zeroRc, go_sem, Nat.reduceEqDiff, Nat.reduceLT, Nat.reduceAdd, Nat.reduceSub, Nat.reduceLeDiff, List.reduceReplicate, Int.reduceToNat]
      | true =>
        have hok := rec_iff.1 hb
        have hfl := rF hok
        simp only [hT, dW.C, rec_of.C, hd1, hb, hfl, hbl, Bool.true_and, aA, gq, Int.reduceEq, Int.reduceLT, Int.reduceLE, implies_true, reduceCtorEq, if_true, if_false, go_sem, Nat.reduceEqDiff, Nat.reduceLT, Nat.reduceAdd, Nat.reduceSub, Nat.reduceLeDiff, List.reduceReplicate, Int.reduceToNat]
        refine ⟨hok, fun h => ?_, fun h => ?_⟩
        · rw [if_neg h]
          refine aH ?_ rfl
          simp only [zeroRc, go_sem, Nat.reduceEqDiff, Nat.reduceLT, Nat.reduceAdd, Nat.reduceSub, Nat.reduceLeDiff, List.reduceReplicate, Int.reduceToNat]
        · rw [if_pos h, ← hd1]
          exact aH rfl rfl
    · have hd1 : (⟨w.getD 0 0, txtS w 3 (IntKind.i64.wrap ((w.getD 1 0).tdiv 32)), [], 0⟩ : Rc) = decP7 w := by
        unfold decP7; rw [if_neg (by omega), if_neg h2]
      rw [← recP_eq]
      unfold readC
      cases hb : recB (decP7 w) with
      | false =>
        simp only [hT, dW.C, hd1, hb, Bool.false_and, Bool.false_eq_true, if_false, aA, gq, Int.reduceEq, Int.reduceLT, Int.reduceLE, implies_true, reduceCtorEq, if_true, if_false, go_sem, Nat.reduceEqDiff, Nat.reduceLT, Nat.reduceAdd, Nat.reduceSub, Nat.reduceLeDiff, List.reduceReplicate, Int.reduceToNat]
        refine aH ?_ rfl
        simp only [zeroRc, go_sem, Nat.reduceEqDiff, Nat.reduceLT, Nat.reduceAdd, Nat.reduceSub, Nat.reduceLeDiff, List.reduceReplicate, Int.reduceToNat]
      | true =>
        have hok := rec_iff.1 hb
        have hfl := rF hok
        simp only [hT, dW.C, rec_of.C, hd1, hb, hfl, hbl, Bool.true_and, aA, gq, Int.reduceEq, Int.reduceLT, Int.reduceLE, implies_true, reduceCtorEq, if_true, if_false, go_sem, Nat.reduceEqDiff, Nat.reduceLT, Nat.reduceAdd, Nat.reduceSub, Nat.reduceLeDiff, List.reduceReplicate, Int.reduceToNat]
        refine ⟨hok, fun h => ?_, fun h => ?_⟩
        · rw [if_neg h]
          refine aH ?_ rfl
          simp only [zeroRc, go_sem, Nat.reduceEqDiff, Nat.reduceLT, Nat.reduceAdd, Nat.reduceSub, Nat.reduceLeDiff, List.reduceReplicate, Int.reduceToNat]
        · rw [if_pos h, ← hd1]
          exact aH rfl rfl
end Lam
namespace Lam
open Go Go.Proofs
set_option linter.unusedVariables false
set_option linter.unnecessarySimpa false
set_option linter.unusedSimpArgs false
def corrV : AV := .iface 128 (.agg [])
theorem gZ {w : List Int} {b : Int} {n : Nd} (h : nodeO w b = some n) : readV w b = .tup [n.V, .int .i64 0] := by
  unfold nodeO at h
  unfold readV
  split at h
  · cases h
  · rename_i hb; rw [if_neg hb, h]
theorem jY {w : List Int} {b : Int} (h : nodeO w b = none) : ∃ e, e ≠ 0 ∧ readV w b = .tup [zeroNd.V, .int .i64 e] := by
  unfold nodeO at h
  unfold readV
  split at h
  · rename_i hb; rw [if_pos hb]; exact ⟨1, by decide, rfl⟩
  · rename_i hb; rw [if_neg hb, h]; exact ⟨90, by decide, rfl⟩
theorem qH {w : List Int} {b : Int} {n : Rc} (h : recO w b = some n) : rreadV w b = .tup [n.V, .int .i64 0] := by
  unfold recO at h
  unfold rreadV
  split at h
  · cases h
  · rename_i hb; rw [if_neg hb, h]
theorem qI {w : List Int} {b : Int} (h : recO w b = none) : ∃ e, e ≠ 0 ∧ rreadV w b = .tup [zeroRc.V, .int .i64 e] := by
  unfold recO at h
  unfold rreadV
  split at h
  · rename_i hb; rw [if_pos hb]; exact ⟨1, by decide, rfl⟩
  · rename_i hb; rw [if_neg hb, h]; exact ⟨70, by decide, rfl⟩
theorem pJ {v pv : AV} {b : Bool} {news : List AObj} {h : List AObj} : JPost true pv b v news (.pan pv) h := rfl
theorem lA {ao : AOut} {pv v : AV} {b : Bool} {news : List AObj} {h : List AObj} (p : Post b v news ao h) : JPost false pv b v news ao h := p
def cC.J : JCon
  | [.bool b] => some (True, !b, corrV, false, .tup [], [])
  | _ => none
abbrev cC.K : Con := Jcon cC.J
set_option maxRecDepth 20000 in
set_option maxHeartbeats 1000000 in
theorem cC.jspec : JSpec Tryz.prog 77 cC.J := by
  refine JSpec.of (ctx_ok (F := []) (S := []) (by simp) (by simp) cC.loops) cC.at cC.nm cC.bd ?_ ?_
  · intro vs S pb pv b v news e
    unfold cC.J at e
    split at e
    rotate_left
    · cases e
    cases e
    rfl
  intro vs S pb pv b v news e hS
  unfold cC.J at e
  split at e
  rotate_left
  · cases e
  cases e
  rw [cC.eq]
  unfold cC.H
  simp (maxSteps := 4000000) only [go_sem, Nat.reduceEqDiff, Nat.reduceLT, Nat.reduceAdd, Nat.reduceSub, Nat.reduceLeDiff, List.reduceReplicate, Int.reduceToNat]
  rename_i b
  rw [aA]
  exact ⟨fun h => by subst h; rfl, fun h => by subst h; exact lA (aH rfl rfl)⟩
def smallW (w : List Int) : Prop := w.length ≤ 65536 ∧ i64s w
theorem smallW.roomy {w : List Int} (h : smallW w) : roomy w.length := by have := h.1; unfold Lam.roomy; omega
def cX.J : JCon
  | [.sl _ (.ints .i64 w), .int .i64 b] => some (smallW w, (nodeO w b).isNone, corrV, false, ((nodeO w b).getD zeroNd).V, [])
  | _ => none
abbrev cX.K : Con := Jcon cX.J
set_option maxRecDepth 20000 in
set_option maxHeartbeats 1000000 in
theorem cX.jspec : JSpec Tryz.prog 75 cX.J := by
  refine JSpec.of (ctx_ok (F := [(46, bY.C)]) (S := [(77, cC.K)]) (by simpa using bY.spec) (by simpa using cC.jspec.con) cX.loops) cX.at cX.nm cX.bd ?_ ?_
  · intro vs S pb pv b v news e
    unfold cX.J at e
    split at e
    rotate_left
    · cases e
    cases e
    rfl
  intro vs S pb pv b v news e hS
  unfold cX.J at e
  split at e
  rotate_left
  · cases e
  cases e
  rw [cX.eq]
  unfold cX.H
  simp (maxSteps := 4000000) only [go_sem, Nat.reduceEqDiff, Nat.reduceLT, Nat.reduceAdd, Nat.reduceSub, Nat.reduceLeDiff, List.reduceReplicate, Int.reduceToNat, bY.C, cC.K, cC.J]
  rename_i _ w b
  refine ⟨hS.roomy, ?_⟩
  cases hn : nodeO w b with
  | none =>
    obtain ⟨e, he, hr⟩ := jY hn
    have hd : decide (e = 0) = false := decide_eq_false he
    simp only [hr, zeroNd, cC.J, hd, aA, gq, Int.reduceEq, Int.reduceLT, Int.reduceLE, implies_true, reduceCtorEq, if_true, if_false, go_sem, Nat.reduceEqDiff, Nat.reduceLT, Nat.reduceAdd, Nat.reduceSub, Nat.reduceLeDiff, List.reduceReplicate, Int.reduceToNat]
    exact pJ
  | some n =>
    simp only [gZ hn, cC.J, aA, gq, Int.reduceEq, Int.reduceLT, Int.reduceLE, implies_true, reduceCtorEq, if_true, if_false, go_sem, Nat.reduceEqDiff, Nat.reduceLT, Nat.reduceAdd, Nat.reduceSub, Nat.reduceLeDiff, List.reduceReplicate, Int.reduceToNat]
    exact lA (aH rfl rfl)
def dC.J : JCon
  | [.sl _ (.ints .i64 w), .int .i64 b] => some (smallW w, (recO w b).isNone, corrV, false, .str ((recO w b).getD zeroRc).key, [])
  | _ => none
abbrev dC.K : Con := Jcon dC.J
set_option maxRecDepth 20000 in
set_option maxHeartbeats 1000000 in
theorem dC.jspec : JSpec Tryz.prog 97 dC.J := by
  refine JSpec.of (ctx_ok (F := [(79, dM.C)]) (S := [(77, cC.K)]) (by simpa using dM.spec) (by simpa using cC.jspec.con) dC.loops) dC.at dC.nm dC.bd ?_ ?_
  · intro vs S pb pv b v news e
    unfold dC.J at e
    split at e
    rotate_left
    · cases e
    cases e
    rfl
  intro vs S pb pv b v news e hS
  unfold dC.J at e
  split at e
  rotate_left
  · cases e
  cases e
  rw [dC.eq]
  unfold dC.H
  simp (maxSteps := 4000000) only [go_sem, Nat.reduceEqDiff, Nat.reduceLT, Nat.reduceAdd, Nat.reduceSub, Nat.reduceLeDiff, List.reduceReplicate, Int.reduceToNat, dM.C, cC.K, cC.J]
  rename_i _ w b
  refine ⟨hS.roomy, ?_⟩
  cases hn : recO w b with
  | none =>
    obtain ⟨e, he, hr⟩ := qI hn
    have hd : decide (e = 0) = false := decide_eq_false he
    simp only [hr, zeroRc, cC.J, hd, aA, gq, Int.reduceEq, Int.reduceLT, Int.reduceLE, implies_true, reduceCtorEq, if_true, if_false, go_sem, Nat.reduceEqDiff, Nat.reduceLT, Nat.reduceAdd, Nat.reduceSub, Nat.reduceLeDiff, List.reduceReplicate, Int.reduceToNat]
    exact pJ
  | some n =>
    simp only [qH hn, cC.J, aA, gq, Int.reduceEq, Int.reduceLT, Int.reduceLE, implies_true, reduceCtorEq, if_true, if_false, go_sem, Nat.reduceEqDiff, Nat.reduceLT, Nat.reduceAdd, Nat.reduceSub, Nat.reduceLeDiff, List.reduceReplicate, Int.reduceToNat]
    exact lA (aH rfl rfl)
def dB.J : JCon
  | [.sl _ (.ints .i64 w), .agg [.int .i64 a, .int .i64 b, .int .i64 c, .int .i64 d, .sl _ (.ints .i64 l)]] => some (smallW w, (lowO w ⟨a, b, c, d, l⟩).isNone, corrV, false, .str ((lowO w ⟨a, b, c, d, l⟩).getD []), [])
  | _ => none
abbrev dB.K : Con := Jcon dB.J
set_option maxRecDepth 20000 in
set_option maxHeartbeats 1000000 in
theorem dB.jspec : JSpec Tryz.prog 76 dB.J := by
  refine JSpec.of (ctx_ok (F := []) (S := [(97, dC.K)]) (by simp) (by simpa using dC.jspec.con) dB.loops) dB.at dB.nm dB.bd ?_ ?_
  · intro vs S pb pv b v news e
    unfold dB.J at e
    split at e
    rotate_left
    · cases e
    cases e
    rfl
  intro vs S pb pv b v news e hS
  unfold dB.J at e
  split at e
  rotate_left
  · cases e
  cases e
  rw [dB.eq]
  unfold dB.H
  simp (maxSteps := 4000000) only [go_sem, Nat.reduceEqDiff, Nat.reduceLT, Nat.reduceAdd, Nat.reduceSub, Nat.reduceLeDiff, List.reduceReplicate, Int.reduceToNat, dC.K, dC.J]
  rename_i _ w a b c d _ l
  refine ⟨fun h => ?_, fun h => ⟨hS, fun hp => ?_, fun hp => ?_⟩⟩
  · have : lowO w ⟨a, b, c, d, l⟩ = some [] := by unfold lowO; rw [if_pos h]
    rw [this]; exact lA (aH rfl rfl)
  · have : lowO w ⟨a, b, c, d, l⟩ = none := by
      unfold lowO; rw [if_neg h]
      rw [Option.isNone_iff_eq_none] at hp
      simp only [hp]; rfl
    rw [this]; exact pJ
  · obtain ⟨x, hx⟩ : ∃ x, recO w d = some x := by cases hr : recO w d with
      | none => rw [hr] at hp; cases hp
      | some x => exact ⟨x, rfl⟩
    have : lowO w ⟨a, b, c, d, l⟩ = some x.key := by
      unfold lowO; rw [if_neg h]
      simp only [hx]; rfl
    rw [this, hx]; exact lA (aH rfl rfl)
theorem some_of {α : Type} {x : Option α} (h : x.isNone = false) : ∃ a, x = some a := by
  cases x with
  | none => cases h
  | some a => exact ⟨a, rfl⟩
def lowV (w : List Int) (b : Int) : AV := match (nodeO w b).bind (lowO w) with
  | some s => .tup [.str s, .int .i64 0]
  | none => .tup [.str [], .int .i64 110]
def eM.C : aD
  | [.sl _ (.ints .i64 w), .int .i64 b] => some (false, pD (smallW w) (lowV w b))
  | _ => none
set_option maxRecDepth 20000 in
set_option maxHeartbeats 1000000 in
theorem eM.spec : FSpec Tryz.prog 47 eM.C := by
  refine FSpec.ofD (ctx_ok (F := []) (S := [(75, cX.K), (76, dB.K)]) (by simp) (by simpa using ⟨cX.jspec.con, dB.jspec.con⟩) eM.loops) gR.tspec eM.at eM.nm eM.bd ?_
  intro vs b S v news e hS
  unfold eM.C at e
  split at e
  rotate_left
  · cases e
  cases e
  rw [eM.eq]
  unfold eM.H
  simp (maxSteps := 4000000) only [go_sem, Nat.reduceEqDiff, Nat.reduceLT, Nat.reduceAdd, Nat.reduceSub, Nat.reduceLeDiff, List.reduceReplicate, Int.reduceToNat, cX.K, cX.J, dB.K, dB.J]
  rename_i _ w b
  have e0 : ∀ n : Nd, (⟨n.level, n.turn, n.next, n.low, n.slots⟩ : Nd) = n := fun n => rfl
  refine ⟨hS, fun hp => ⟨rfl, ?_⟩, fun hp => ⟨hS, ?_⟩⟩
  · rw [Option.isNone_iff_eq_none] at hp
    have : lowV w b = .tup [.str [], .int .i64 110] := by unfold lowV; rw [hp]; rfl
    rw [this]; exact aH rfl rfl
  · obtain ⟨n, hn⟩ := some_of hp
    simp only [hn, Option.getD_some, e0]
    refine ⟨fun hq => ⟨rfl, ?_⟩, fun hq => ?_⟩
    · rw [Option.isNone_iff_eq_none] at hq
      have : lowV w b = .tup [.str [], .int .i64 110] := by unfold lowV; rw [hn]; simp only [Option.bind_some, hq]
      rw [this]; exact aH rfl rfl
    · obtain ⟨s, hs⟩ := some_of hq
      have : lowV w b = .tup [.str s, .int .i64 0] := by unfold lowV; rw [hn]; simp only [Option.bind_some, hs]
      rw [this, hs]; exact aH rfl rfl
end Lam
namespace Lam
open Go Go.Proofs
set_option linter.unusedVariables false
def dR.loops : Nat → LInfo
  | 3 => ⟨[], [], [], [(3, none), (4, some [28, 32])], [], []⟩
  | 6 => ⟨[], [], [], [(5, none), (2, some [49, 51]), (2, none), (4, some [53, 57])], [], []⟩
  | 12 => ⟨[], [], [], [(3, none), (2, some [81, 83]), (2, none), (5, some [85, 90]), (2, none), (3, some [92, 95])], [], []⟩
  | _ => ⟨[], [], [], [], [], []⟩
def dR.H (c : Ctx) (t0 : AV) (t1 : AV) (t2 : AV) (t3 : AV) (h : List AObj) (K : AOut → List AObj → Prop) : Prop :=
  joinW (fun (J1 : List AObj → Prop) =>
  callW false c (.fn (.func 46) [] []) [t0, t1] h (fun t22 h =>
  runD (bH t22 0) h fun t23 h =>
  runD (bH t22 1) h fun t24 h =>
  allocW bD h fun t10 h =>
  runH (storeH bD h t10 t23) h fun _ h =>
  runD (binD dA .neq t24 (.int .i64 0)) h fun t27 h =>
  joinW (fun (J2 : AV → AV → List AObj → Prop) =>
  guardW t27 false
  (runD (aB bD t10 0) h fun t29 h =>
    runD (fitD T_int (loadD h t29)) h fun t30 h =>
    runD (binD T_int .lss t30 t3) h fun t32 h =>
    J2 (.bool false) t32 h)
  (J2 (.bool true) .und h))
  (fun t28 t32 h => runD (pickD t28 (.bool true) t32) h fun t33 h =>
  condW t33
  (J1 h)
  (runD (aB bD t10 2) h fun t34 h =>
  runD (fitD T_int (loadD h t34)) h fun t35 h =>
  runD (binD T_int .neq t35 (.int .i64 0)) h fun t36 h =>
  joinW (fun (J3 : List AObj → Prop) =>
  condW t36
  (runD (aB bD t10 2) h fun t39 h =>
    runD (fitD T_int (loadD h t39)) h fun t40 h =>
    callW false c (.fn (.func 81) [] []) [t0, t40] h (fun t41 h =>
    runD (bH t41 0) h fun t42 h =>
    runD (bH t41 1) h fun t43 h =>
    runD (bH t41 2) h fun t44 h =>
    runD (aB bD t10 2) h fun t45 h =>
    runD (fitD T_int (loadD h t45)) h fun t46 h =>
    runD (binD T_int .eql t46 t1) h fun t48 h =>
    joinW (fun (J4 : AV → AV → List AObj → Prop) =>
    guardW t48 false
    (runD (unD .not t44) h fun t51 h =>
      J4 (.bool false) t51 h)
    (J4 (.bool true) .und h))
    (fun t49 t51 h => runD (pickD t49 (.bool true) t51) h fun t52 h =>
    joinW (fun (J5 : AV → AV → List AObj → Prop) =>
    guardW t52 false
    (runD (aB bD t10 0) h fun t55 h =>
      runD (fitD T_int (loadD h t55)) h fun t56 h =>
      runD (binD T_int .neq t42 t56) h fun t57 h =>
      J5 (.bool false) t57 h)
    (J5 (.bool true) .und h))
    (fun t53 t57 h => runD (pickD t53 (.bool true) t57) h fun t58 h =>
    condW t58
    (J1 h)
    (runD (binD bN .leq t43 t2) h fun t61 h =>
    condW t61
    (runD (aB bD t10 2) h fun t62 h =>
      runD (fitD T_int (loadD h t62)) h fun t63 h =>
      K (.ret (.tup [t63, (.int .i64 0)])) h)
    (J3 h)))))
    (fun v h => K (.pan v) h))
  (J3 h))
  (fun h => runD (aB bD t10 0) h fun t64 h =>
  runD (fitD T_int (loadD h t64)) h fun t65 h =>
  runD (binD T_int .gtr t65 t3) h fun t67 h =>
  joinW (fun (J6 : AV → List AObj → Prop) =>
  condW t67
  (runD (fitD bD (loadD h t10)) h fun t69 h =>
    callW false c (.fn (.func 82) [] []) [t0, t69, t2] h (fun t71 h =>
    callW false c (.fn (.func 81) [] []) [t0, t71] h (fun t75 h =>
    runD (bH t75 0) h fun t76 h =>
    runD (bH t75 1) h fun t77 h =>
    runD (bH t75 2) h fun t78 h =>
    runD (binD T_int .eql t71 (.int .i64 0)) h fun t80 h =>
    joinW (fun (J7 : AV → AV → List AObj → Prop) =>
    guardW t80 false
    (runD (unD .not t78) h fun t83 h =>
      J7 (.bool false) t83 h)
    (J7 (.bool true) .und h))
    (fun t81 t83 h => runD (pickD t81 (.bool true) t83) h fun t84 h =>
    joinW (fun (J8 : AV → AV → List AObj → Prop) =>
    guardW t84 false
    (runD (aB bD t10 0) h fun t87 h =>
      runD (fitD T_int (loadD h t87)) h fun t88 h =>
      runD (binD T_int .sub t88 (.int .i64 1)) h fun t89 h =>
      runD (binD T_int .neq t76 t89) h fun t90 h =>
      J8 (.bool false) t90 h)
    (J8 (.bool true) .und h))
    (fun t85 t90 h => runD (pickD t85 (.bool true) t90) h fun t91 h =>
    joinW (fun (J9 : AV → AV → List AObj → Prop) =>
    guardW t91 false
    (runD (binD bN .gtr t77 t2) h fun t95 h =>
      J9 (.bool false) t95 h)
    (J9 (.bool true) .und h))
    (fun t92 t95 h => runD (pickD t92 (.bool true) t95) h fun t96 h =>
    condW t96
    (J1 h)
    (J6 t71 h)))))
    (fun v h => K (.pan v) h))
    (fun v h => K (.pan v) h))
  (J6 t1 h))
  (fun t12 h => K (.ret (.tup [t12, (.int .i64 0)])) h)))))
  (fun v h => K (.pan v) h))
  (fun h => K (.ret (.tup [(.int .i64 0), (.int .i64 90)])) h)
def cT.loops : Nat → LInfo
  | _ => ⟨[], [], [], [], [], []⟩
def cT.H (c : Ctx) (t0 : AV) (t1 : AV) (h : List AObj) (K : AOut → List AObj → Prop) : Prop :=
  callW false c (.fn (.func 46) [] []) [t0, t1] h (fun t12 h =>
  runD (bH t12 0) h fun t13 h =>
  runD (bH t12 1) h fun t14 h =>
  allocW bD h fun t7 h =>
  runH (storeH bD h t7 t13) h fun _ h =>
  runD (binD dA .neq t14 (.int .i64 0)) h fun t16 h =>
  condW t16
  (K (.ret (.tup [(.int .i64 0), (.str []), (.bool false)])) h)
  (callW false c (.fn (.func 47) [] []) [t0, t1] h (fun t20 h =>
  runD (bH t20 0) h fun t21 h =>
  runD (bH t20 1) h fun t22 h =>
  runD (aB bD t7 0) h fun t23 h =>
  runD (fitD T_int (loadD h t23)) h fun t24 h =>
  runD (binD dA .eql t22 (.int .i64 0)) h fun t26 h =>
  K (.ret (.tup [t24, t21, t26])) h)
  (fun v h => K (.pan v) h)))
  (fun v h => K (.pan v) h)
def dD.loops : Nat → LInfo
  | 2 => ⟨[6, 14], [false, false], [0, 2, 12, 13], [], [], []⟩
  | 5 => ⟨[], [], [], [(3, none), (3, some [26, 29]), (2, none), (4, some [31, 35])], [], []⟩
  | _ => ⟨[], [], [], [], [], []⟩
def dD.L1 (c : Ctx) (J1 : AV → List AObj → Prop) (K : AOut → List AObj → Prop) (lv : List AV) (h0 : List AObj) (n0 : Nat) (c0 : AV) (c2 : AV) (c12 : AV) (c13 : AV) : Prop :=
  ∃ I : Nat → List AV → List AObj → Prop, (∃ n, I n lv h0) ∧ ∀ n h, ∀ t6, ∀ t14, I n [t6, t14] h →
    runD (binD T_int .lss t14 c13) h fun t15 h =>
    condW t15
    (runD (aF aI h c12 t14) h fun t16 h =>
    runD (fitD T_int (loadD h t16)) h fun t17 h =>
    callW false c (.fn (.func 79) [] []) [c0, t17] h (fun t21 h =>
    runD (bH t21 0) h fun t22 h =>
    runD (bH t21 1) h fun t23 h =>
    allocW aG h fun t9 h =>
    runH (storeH aG h t9 t22) h fun _ h =>
    runD (binD dA .eql t23 (.int .i64 0)) h fun t25 h =>
    joinW (fun (J2 : AV → AV → List AObj → Prop) =>
    guardW t25 true
    (runD (aB aG t9 0) h fun t27 h =>
      runD (fitD T_int (loadD h t27)) h fun t28 h =>
      runD (binD T_int .eql t28 (.int .i64 2)) h fun t29 h =>
      J2 (.bool true) t29 h)
    (J2 (.bool false) .und h))
    (fun t26 t29 h => runD (pickD t26 t29 (.bool false)) h fun t30 h =>
    joinW (fun (J3 : AV → AV → List AObj → Prop) =>
    guardW t30 true
    (runD (aB aG t9 1) h fun t32 h =>
      runD (fitD bN (loadD h t32)) h fun t33 h =>
      runD (binD bN .leq t33 c2) h fun t35 h =>
      J3 (.bool true) t35 h)
    (J3 (.bool false) .und h))
    (fun t31 t35 h => runD (pickD t31 t35 (.bool false)) h fun t36 h =>
    joinW (fun (J4 : AV → List AObj → Prop) =>
    condW t36
    (runD (aB aG t9 3) h fun t37 h =>
      runD (fitD T_int (loadD h t37)) h fun t38 h =>
      J4 t38 h)
    (J4 t6 h))
    (fun t6 h => runD (binD T_int .add t14 (.int .i64 1)) h fun t39 h =>
    (∃ m, m < n ∧ I m (AV.norms n0 h [t6, t39]) (normH n0 h)) ∧ AV.norms n0 h [c0, c2, c12, c13] = [c0, c2, c12, c13]))))
    (fun v h => K (.pan v) h))
    (J1 t6 h)
def dD.H (c : Ctx) (t0 : AV) (t1 : AV) (t2 : AV) (h : List AObj) (K : AOut → List AObj → Prop) : Prop :=
  boxW bD t1 h fun t4 h =>
  runD (aB bD t4 4) h fun t11 h =>
  runD (fitD aI (loadD h t11)) h fun t12 h =>
  runD (lenD aI h t12) h fun t13 h =>
  joinW (fun (J1 : AV → List AObj → Prop) =>
  promV [false, false] [(.int .i64 0), (.int .i64 0)] h fun lv h => dD.L1 c J1 K (AV.norms h.length h lv) (normH h.length h) h.length (AV.norm h.length h t0) (AV.norm h.length h t2) (AV.norm h.length h t12) (AV.norm h.length h t13))
  (fun t6 h => K (.ret t6) h)
theorem dR.eq (F : List (FuncId × aD)) (S : List (FuncId × Con)) (t0 t1 t2 t3 : AV) (h : List AObj) (K : AOut → List AObj → Prop) : funW (ctx F S dR.loops) Tryz.f49 [t0, t1, t2, t3] h K = dR.H (ctx F S dR.loops) t0 t1 t2 t3 h K := by kernel_rfl
theorem cT.eq (F : List (FuncId × aD)) (S : List (FuncId × Con)) (t0 t1 : AV) (h : List AObj) (K : AOut → List AObj → Prop) : funW (ctx F S cT.loops) Tryz.f81 [t0, t1] h K = cT.H (ctx F S cT.loops) t0 t1 h K := by kernel_rfl
theorem dD.eq (F : List (FuncId × aD)) (S : List (FuncId × Con)) (t0 t1 t2 : AV) (h : List AObj) (K : AOut → List AObj → Prop) : funW (ctx F S dD.loops) Tryz.f82 [t0, t1, t2] h K = dD.H (ctx F S dD.loops) t0 t1 t2 h K := by kernel_rfl
theorem dR.at : Tryz.prog.funcs[49]? = some Tryz.f49 := by kernel_rfl
theorem dR.nm : (Tryz.f49.name == "runtime.NumGoroutine") = false := by kernel_rfl
theorem dR.bd : Tryz.f49.body.isNone = false := by kernel_rfl
theorem cT.at : Tryz.prog.funcs[81]? = some Tryz.f81 := by kernel_rfl
theorem cT.nm : (Tryz.f81.name == "runtime.NumGoroutine") = false := by kernel_rfl
theorem cT.bd : Tryz.f81.body.isNone = false := by kernel_rfl
theorem dD.at : Tryz.prog.funcs[82]? = some Tryz.f82 := by kernel_rfl
theorem dD.nm : (Tryz.f82.name == "runtime.NumGoroutine") = false := by kernel_rfl
theorem dD.bd : Tryz.f82.body.isNone = false := by kernel_rfl
end Lam
namespace Lam
set_option maxRecDepth 20000
open Go Go.Proofs
set_option linter.unusedVariables false
set_option linter.unnecessarySimpa false
set_option linter.unusedSimpArgs false
def fromV (w : List Int) (b : Int) : AV := match nodeO w b with
  | none => .tup [.int .i64 0, .str [], .bool false]
  | some n => match lowO w n with
    | none => .tup [.int .i64 n.level, .str [], .bool false]
    | some l => .tup [.int .i64 n.level, .str l, .bool true]
def cT.C : aD
  | [.sl _ (.ints .i64 w), .int .i64 b] => some (false, pD (smallW w) (fromV w b))
  | _ => none
set_option maxRecDepth 20000 in
theorem cT.spec : FSpec Tryz.prog 81 cT.C := by
  refine FSpec.of (ctx_ok (F := [(46, bY.C), (47, eM.C)]) (S := []) (by simpa using ⟨bY.spec, eM.spec⟩) (by simp) cT.loops) cT.at cT.nm cT.bd ?_
  intro vs b S v news e hS
  unfold cT.C at e
  split at e
  rotate_left
  · cases e
  cases e
  rw [cT.eq]
  unfold cT.H
  simp (maxSteps := 4000000) only [go_sem, Nat.reduceEqDiff, Nat.reduceLT, Nat.reduceAdd, Nat.reduceSub, Nat.reduceLeDiff, List.reduceReplicate, Int.reduceToNat, bY.C, eM.C]
  rename_i w b
  have hr := smallW.roomy hS
  unfold fromV
  cases hn : nodeO w b with
  | none =>
    obtain ⟨e, he, h⟩ := jY hn
    simp only [h, zeroNd, he, decide_false, aA, aA, gq, Int.reduceEq, Int.reduceLT, Int.reduceLE, implies_true, reduceCtorEq, if_true, if_false, go_sem, Nat.reduceEqDiff, Nat.reduceLT, Nat.reduceAdd, Nat.reduceSub, Nat.reduceLeDiff, List.reduceReplicate, Int.reduceToNat]
    exact ⟨hr, aH rfl rfl⟩
  | some n =>
    obtain ⟨n1, n2, n3, n4, n5⟩ := n
    cases hl : lowO w ⟨n1, n2, n3, n4, n5⟩ with
    | none =>
      have hlv : lowV w b = .tup [.str [], .int .i64 110] := by unfold lowV; rw [hn]; simp only [Option.bind_some, hl]
      simp only [gZ hn, hlv, hl, decide_false, aA, aA, gq, Int.reduceEq, Int.reduceLT, Int.reduceLE, implies_true, reduceCtorEq, if_true, if_false, go_sem, Nat.reduceEqDiff, Nat.reduceLT, Nat.reduceAdd, Nat.reduceSub, Nat.reduceLeDiff, List.reduceReplicate, Int.reduceToNat]
      exact ⟨hr, hS, aH rfl rfl⟩
    | some l =>
      have hlv : lowV w b = .tup [.str l, .int .i64 0] := by unfold lowV; rw [hn]; simp only [Option.bind_some, hl]
      simp only [gZ hn, hlv, hl, decide_true, aA, aA, gq, Int.reduceEq, Int.reduceLT, Int.reduceLE, implies_true, reduceCtorEq, if_true, if_false, go_sem, Nat.reduceEqDiff, Nat.reduceLT, Nat.reduceAdd, Nat.reduceSub, Nat.reduceLeDiff, List.reduceReplicate, Int.reduceToNat]
      exact ⟨hr, hS, aH rfl rfl⟩
def dD.C : aD
  | [.sl _ (.ints .i64 w), .agg [.int .i64 a, .int .i64 b, .int .i64 c, .int .i64 d, .sl _ (.ints .i64 l)], .str key] => some (false, pD (roomy w.length ∧ l.length ≤ 1000) (.int .i64 (childO w key ⟨a, b, c, d, l⟩)))
  | _ => none
set_option maxRecDepth 20000 in
theorem dD.spec : FSpec Tryz.prog 82 dD.C := by
  refine FSpec.of (ctx_ok (F := [(79, dM.C)]) (S := []) (by simpa using dM.spec) (by simp) dD.loops) dD.at dD.nm dD.bd ?_
  intro vs b S v news e hS
  unfold dD.C at e
  split at e
  rotate_left
  · cases e
  cases e
  rw [dD.eq]
  unfold dD.H
  simp (maxSteps := 4000000) only [go_sem, Nat.reduceEqDiff, Nat.reduceLT, Nat.reduceAdd, Nat.reduceSub, Nat.reduceLeDiff, List.reduceReplicate, Int.reduceToNat, dM.C]
  rename_i w a b c d _ l key
  obtain ⟨hw, hl⟩ := hS
  rw [aA]
  unfold dD.L1
  refine loop2 (σ := Nat) (fun k => .int .i64 ((l.take k).foldl (childS w key) 0)) (fun k => .int .i64 k) (fun k => [.box (.agg [.int .i64 a, .int .i64 b, .int .i64 c, .int .i64 d, .sl false (.ints .i64 l)])]) (fun k => l.length - k) (fun k => k ≤ l.length) 0 rfl rfl (Nat.zero_le _) ?_
  intro I back k hk
  by_cases hlt : k < l.length
  · have hb := @back (l.length - k) [.int .i64 (childS w key ((l.take k).foldl (childS w key) 0) (l.getD k 0)), .int .i64 ((k + 1 : Nat) : Int)] [.box (.agg [.int .i64 a, .int .i64 b, .int .i64 c, .int .i64 d, .sl false (.ints .i64 l)])] (k + 1) (by omega) (by rw [gA l k 0 hlt, List.foldl_append]; rfl) rfl (by omega)
    clear back
    generalize (l.take k).foldl (childS w key) 0 = out at *
    have d1 : decide ((k : Int) < (l.length : Int)) = true := decide_eq_true (by omega)
    unfold childS at hb
    cases hx : recO w (l.getD k 0) with
    | none =>
      obtain ⟨e, he, hr⟩ := qI hx
      rw [hx] at hb
      simp only [dM.C, hr, zeroRc, he, d1, decide_false, aA, wnext (show k < 4611686018427387904 by omega), aA, gq, Int.reduceEq, Int.reduceLT, Int.reduceLE, implies_true, reduceCtorEq, if_true, if_false, go_sem, Nat.reduceEqDiff, Nat.reduceLT, Nat.reduceAdd, Nat.reduceSub, Nat.reduceLeDiff, List.reduceReplicate, Int.reduceToNat]
      exact ⟨⟨by omega, by omega⟩, hw, hb⟩
    | some y =>
      obtain ⟨y1, y2, y3, y4⟩ := y
      rw [hx] at hb
      simp only at hb
      simp only [dM.C, qH hx, d1, decide_true, aA, wnext (show k < 4611686018427387904 by omega), aA, gq, Int.reduceEq, Int.reduceLT, Int.reduceLE, implies_true, reduceCtorEq, if_true, if_false, go_sem, Nat.reduceEqDiff, Nat.reduceLT, Nat.reduceAdd, Nat.reduceSub, Nat.reduceLeDiff, List.reduceReplicate, Int.reduceToNat]
      refine ⟨⟨by omega, by omega⟩, hw, ?_⟩
      by_cases hy : y1 = 2
      · simp only [hy, decide_true, aA, gq, Int.reduceEq, Int.reduceLT, Int.reduceLE, implies_true, reduceCtorEq, if_true, if_false, go_sem, Nat.reduceEqDiff, Nat.reduceLT, Nat.reduceAdd, Nat.reduceSub, Nat.reduceLeDiff, List.reduceReplicate, Int.reduceToNat]
        refine ⟨fun h => ?_, fun h => ?_⟩
        · rw [if_pos ⟨hy, h⟩] at hb; exact hb
        · rw [if_neg (fun h' => by rw [h] at h'; cases h'.2)] at hb; exact hb
      · rw [if_neg (fun h' => hy h'.1)] at hb
        simp only [hy, decide_false, aA, gq, Int.reduceEq, Int.reduceLT, Int.reduceLE, implies_true, reduceCtorEq, if_true, if_false, go_sem, Nat.reduceEqDiff, Nat.reduceLT, Nat.reduceAdd, Nat.reduceSub, Nat.reduceLeDiff, List.reduceReplicate, Int.reduceToNat]
        exact hb
  · obtain rfl : k = l.length := by omega
    have d1 : decide ((l.length : Int) < (l.length : Int)) = false := decide_eq_false (by omega)
    clear back
    rw [List.take_length]
    simp only [d1, aA, aA, gq, Int.reduceEq, Int.reduceLT, Int.reduceLE, implies_true, reduceCtorEq, if_true, if_false, go_sem, Nat.reduceEqDiff, Nat.reduceLT, Nat.reduceAdd, Nat.reduceSub, Nat.reduceLeDiff, List.reduceReplicate, Int.reduceToNat]
    exact aH rfl rfl
def downV (w : List Int) (b : Int) (key : Bytes) (level : Int) : AV := match downO w b key level with
  | none => .tup [.int .i64 0, .int .i64 90]
  | some t => .tup [.int .i64 t, .int .i64 0]
theorem tA (w : List Int) (b : Int) : (∃ lv lo, fromO w b = none ∧ fromV w b = .tup [.int .i64 lv, .str lo, .bool false]) ∨ ∃ lv lo, fromO w b = some (lv, lo) ∧ fromV w b = .tup [.int .i64 lv, .str lo, .bool true] := by
  unfold fromO fromV
  cases nodeO w b with
  | none => exact .inl ⟨_, _, rfl, rfl⟩
  | some n =>
    simp only
    cases lowO w n with
    | none => exact .inl ⟨_, _, rfl, rfl⟩
    | some l => exact .inr ⟨_, _, rfl, rfl⟩
def dR.C : aD
  | [.sl _ (.ints .i64 w), .int .i64 b, .str key, .int .i64 level] => some (false, pD (smallW w) (downV w b key level))
  | _ => none
set_option maxRecDepth 20000 in
theorem dR.spec : FSpec Tryz.prog 49 dR.C := by
  refine FSpec.of (ctx_ok (F := [(46, bY.C), (81, cT.C), (82, dD.C)]) (S := []) (by simpa using ⟨bY.spec, cT.spec, dD.spec⟩) (by simp) dR.loops) dR.at dR.nm dR.bd ?_
  intro vs b S v news e hS
  unfold dR.C at e
  split at e
  rotate_left
  · cases e
  cases e
  rw [dR.eq]
  unfold dR.H
  simp (maxSteps := 4000000) only [go_sem, Nat.reduceEqDiff, Nat.reduceLT, Nat.reduceAdd, Nat.reduceSub, Nat.reduceLeDiff, List.reduceReplicate, Int.reduceToNat, bY.C, cT.C, dD.C]
  rename_i w b key level
  have hr := smallW.roomy hS
  have hno : ∀ ao h, downO w b key level = none → ao = .ret (.tup [.int .i64 0, .int .i64 90]) → Post false (downV w b key level) [] ao h := fun ao h e1 e2 => by
    rw [e2]; unfold downV; rw [e1]; exact aH rfl rfl
  have hyes : ∀ ao h t, downO w b key level = some t → ao = .ret (.tup [.int .i64 t, .int .i64 0]) → Post false (downV w b key level) [] ao h := fun ao h t e1 e2 => by
    rw [e2]; unfold downV; rw [e1]; exact aH rfl rfl
  rw [aA]
  cases hn : nodeO w b with
  | none =>
    obtain ⟨e, he, h⟩ := jY hn
    simp only [h, zeroNd, he, decide_false, aA, aA, gq, Int.reduceEq, Int.reduceLT, Int.reduceLE, implies_true, reduceCtorEq, if_true, if_false, go_sem, Nat.reduceEqDiff, Nat.reduceLT, Nat.reduceAdd, Nat.reduceSub, Nat.reduceLeDiff, List.reduceReplicate, Int.reduceToNat]
    exact ⟨hr, hno _ _ (by unfold downO; rw [hn]) rfl⟩
  | some n =>
    have hok := (aAs hn).1
    obtain ⟨n1, n2, n3, n4, n5⟩ := n
    have h13 : n5.length ≤ 13 := hok.2.2.2.2.2.2.1
    have hlv : 0 ≤ n1 ∧ n1 ≤ 9 := ⟨hok.1, hok.2.1⟩
    simp only [gZ hn, decide_true, gq, Int.reduceEq, Int.reduceLT, Int.reduceLE, implies_true, reduceCtorEq, if_true, if_false, go_sem, Nat.reduceEqDiff, Nat.reduceLT, Nat.reduceAdd, Nat.reduceSub, Nat.reduceLeDiff, List.reduceReplicate, Int.reduceToNat]
    refine ⟨hr, ?_⟩
    by_cases hlt : n1 < level
    · have hd : downO w b key level = none := by unfold downO; rw [hn]; exact if_pos hlt
      simp only [hlt, decide_true, aA, aA, gq, Int.reduceEq, Int.reduceLT, Int.reduceLE, implies_true, reduceCtorEq, if_true, if_false, go_sem, Nat.reduceEqDiff, Nat.reduceLT, Nat.reduceAdd, Nat.reduceSub, Nat.reduceLeDiff, List.reduceReplicate, Int.reduceToNat]
      exact hno _ _ hd rfl
    have hd : downO w b key level = if n3 = 0 then downN w b key level ⟨n1, n2, n3, n4, n5⟩ else match fromO w n3 with
      | none => none
      | some (lv, lo) => if n3 = b ∨ lv ≠ n1 then none else if ltB key lo = false then some n3 else downN w b key level ⟨n1, n2, n3, n4, n5⟩ := by
      unfold downO; rw [hn]; exact if_neg hlt
    rw [aA]
    simp only [hlt, decide_false, gq, Int.reduceEq, Int.reduceLT, Int.reduceLE, implies_true, reduceCtorEq, if_true, if_false, go_sem, Nat.reduceEqDiff, Nat.reduceLT, Nat.reduceAdd, Nat.reduceSub, Nat.reduceLeDiff, List.reduceReplicate, Int.reduceToNat]
    refine iR fun k3 hk3 => ?_
    have rest3 : downO w b key level = downN w b key level ⟨n1, n2, n3, n4, n5⟩ → k3 [.box (.agg [.int .i64 n1, .int .i64 n2, .int .i64 n3, .int .i64 n4, .sl false (.ints .i64 n5)])] := fun hd2 => by
      unfold downN at hd2
      rw [hk3]
      simp only [dD.C, gq, Int.reduceEq, Int.reduceLT, Int.reduceLE, implies_true, reduceCtorEq, if_true, if_false, go_sem, Nat.reduceEqDiff, Nat.reduceLT, Nat.reduceAdd, Nat.reduceSub, Nat.reduceLeDiff, List.reduceReplicate, Int.reduceToNat]
      rw [aA]
      refine ⟨fun hl => ⟨⟨hr, by omega⟩, ?_⟩, fun hl => hyes _ _ _ (by rw [hd2, if_neg hl]) rfl⟩
      rw [if_pos hl] at hd2
      unfold downTo at hd2
      have e1 : IntKind.i64.wrap (n1 - 1) = n1 - 1 := w64 (by omega) (by omega)
      obtain ⟨ch, hch⟩ : ∃ ch, childO w key ⟨n1, n2, n3, n4, n5⟩ = ch := ⟨_, rfl⟩
      rw [hch] at hd2
      rcases tA w ch with ⟨lv, lo, hf, hv⟩ | ⟨lv, lo, hf, hv⟩
      · rw [hf] at hd2
        by_cases h0 : ch = 0
        · simp only [hch, cT.C, hv, h0, decide_true, aA, aA, gq, Int.reduceEq, Int.reduceLT, Int.reduceLE, implies_true, reduceCtorEq, if_true, if_false, go_sem, Nat.reduceEqDiff, Nat.reduceLT, Nat.reduceAdd, Nat.reduceSub, Nat.reduceLeDiff, List.reduceReplicate, Int.reduceToNat]
          rw [h0] at hv
          simp only [hv, aA, aA, gq, Int.reduceEq, Int.reduceLT, Int.reduceLE, implies_true, reduceCtorEq, if_true, if_false, go_sem, Nat.reduceEqDiff, Nat.reduceLT, Nat.reduceAdd, Nat.reduceSub, Nat.reduceLeDiff, List.reduceReplicate, Int.reduceToNat]
          exact ⟨hS, hno _ _ hd2 rfl⟩
        · simp only [hch, cT.C, hv, h0, decide_false, aA, aA, gq, Int.reduceEq, Int.reduceLT, Int.reduceLE, implies_true, reduceCtorEq, if_true, if_false, go_sem, Nat.reduceEqDiff, Nat.reduceLT, Nat.reduceAdd, Nat.reduceSub, Nat.reduceLeDiff, List.reduceReplicate, Int.reduceToNat]
          exact ⟨hS, hno _ _ hd2 rfl⟩
      · rw [hf] at hd2
        simp only at hd2
        by_cases h0 : ch = 0
        · rw [if_pos (.inl h0)] at hd2
          rw [h0] at hv
          simp only [hch, cT.C, h0, decide_true, aA, aA, gq, Int.reduceEq, Int.reduceLT, Int.reduceLE, implies_true, reduceCtorEq, if_true, if_false, go_sem, Nat.reduceEqDiff, Nat.reduceLT, Nat.reduceAdd, Nat.reduceSub, Nat.reduceLeDiff, List.reduceReplicate, Int.reduceToNat]
          simp only [hv, aA, aA, gq, Int.reduceEq, Int.reduceLT, Int.reduceLE, implies_true, reduceCtorEq, if_true, if_false, go_sem, Nat.reduceEqDiff, Nat.reduceLT, Nat.reduceAdd, Nat.reduceSub, Nat.reduceLeDiff, List.reduceReplicate, Int.reduceToNat]
          exact ⟨hS, hno _ _ hd2 rfl⟩
        · by_cases h1 : lv = n1 - 1
          · cases h2 : ltB key lo with
            | true =>
              rw [if_pos (.inr (.inr h2))] at hd2
              simp only [hch, cT.C, hv, h0, e1, h1, h2, decide_false, decide_true, aA, aA, gq, Int.reduceEq, Int.reduceLT, Int.reduceLE, implies_true, reduceCtorEq, if_true, if_false, go_sem, Nat.reduceEqDiff, Nat.reduceLT, Nat.reduceAdd, Nat.reduceSub, Nat.reduceLeDiff, List.reduceReplicate, Int.reduceToNat]
              exact ⟨hS, hno _ _ hd2 rfl⟩
            | false =>
              rw [if_neg (by
                rintro (h | h | h)
                · exact h0 h
                · exact h h1
                · rw [h2] at h; cases h)] at hd2
              simp only [hch, cT.C, hv, h0, e1, h1, h2, decide_false, decide_true, aA, aA, gq, Int.reduceEq, Int.reduceLT, Int.reduceLE, implies_true, reduceCtorEq, if_true, if_false, go_sem, Nat.reduceEqDiff, Nat.reduceLT, Nat.reduceAdd, Nat.reduceSub, Nat.reduceLeDiff, List.reduceReplicate, Int.reduceToNat]
              exact ⟨hS, hyes _ _ _ hd2 rfl⟩
          · rw [if_pos (.inr (.inl h1))] at hd2
            simp only [hch, cT.C, hv, h0, e1, h1, decide_false, decide_true, aA, aA, gq, Int.reduceEq, Int.reduceLT, Int.reduceLE, implies_true, reduceCtorEq, if_true, if_false, go_sem, Nat.reduceEqDiff, Nat.reduceLT, Nat.reduceAdd, Nat.reduceSub, Nat.reduceLeDiff, List.reduceReplicate, Int.reduceToNat]
            exact ⟨hS, hno _ _ hd2 rfl⟩
    clear hk3
    rw [aA]
    refine ⟨fun hn3 => ?_, fun hn3 => rest3 (by rw [hd, if_pos hn3])⟩
    rw [if_neg hn3] at hd
    rcases tA w n3 with ⟨lv, lo, hf, hv⟩ | ⟨lv, lo, hf, hv⟩
    · rw [hf] at hd
      by_cases h0 : n3 = b
      · simp only [cT.C, hv, h0, decide_true, aA, aA, gq, Int.reduceEq, Int.reduceLT, Int.reduceLE, implies_true, reduceCtorEq, if_true, if_false, go_sem, Nat.reduceEqDiff, Nat.reduceLT, Nat.reduceAdd, Nat.reduceSub, Nat.reduceLeDiff, List.reduceReplicate, Int.reduceToNat]
        rw [h0] at hv
        simp only [hv, aA, aA, gq, Int.reduceEq, Int.reduceLT, Int.reduceLE, implies_true, reduceCtorEq, if_true, if_false, go_sem, Nat.reduceEqDiff, Nat.reduceLT, Nat.reduceAdd, Nat.reduceSub, Nat.reduceLeDiff, List.reduceReplicate, Int.reduceToNat]
        exact ⟨hS, hno _ _ hd rfl⟩
      · simp only [cT.C, hv, h0, decide_false, aA, aA, gq, Int.reduceEq, Int.reduceLT, Int.reduceLE, implies_true, reduceCtorEq, if_true, if_false, go_sem, Nat.reduceEqDiff, Nat.reduceLT, Nat.reduceAdd, Nat.reduceSub, Nat.reduceLeDiff, List.reduceReplicate, Int.reduceToNat]
        exact ⟨hS, hno _ _ hd rfl⟩
    · rw [hf] at hd
      simp only at hd
      by_cases h0 : n3 = b
      · rw [if_pos (.inl h0)] at hd
        rw [h0] at hv
        simp only [cT.C, h0, decide_true, aA, aA, gq, Int.reduceEq, Int.reduceLT, Int.reduceLE, implies_true, reduceCtorEq, if_true, if_false, go_sem, Nat.reduceEqDiff, Nat.reduceLT, Nat.reduceAdd, Nat.reduceSub, Nat.reduceLeDiff, List.reduceReplicate, Int.reduceToNat]
        simp only [hv, aA, aA, gq, Int.reduceEq, Int.reduceLT, Int.reduceLE, implies_true, reduceCtorEq, if_true, if_false, go_sem, Nat.reduceEqDiff, Nat.reduceLT, Nat.reduceAdd, Nat.reduceSub, Nat.reduceLeDiff, List.reduceReplicate, Int.reduceToNat]
        exact ⟨hS, hno _ _ hd rfl⟩
      · by_cases h1 : lv = n1
        · rw [if_neg (by
            rintro (h | h)
            · exact h0 h
            · exact h h1)] at hd
          cases h2 : ltB key lo with
          | true =>
            rw [h2] at hd
            simp only [cT.C, hv, h0, h1, h2, decide_false, decide_true, aA, aA, gq, Int.reduceEq, Int.reduceLT, Int.reduceLE, implies_true, reduceCtorEq, if_true, if_false, go_sem, Nat.reduceEqDiff, Nat.reduceLT, Nat.reduceAdd, Nat.reduceSub, Nat.reduceLeDiff, List.reduceReplicate, Int.reduceToNat]
            exact ⟨hS, rest3 (by rw [hd]; rfl)⟩
          | false =>
            rw [if_pos h2] at hd
            simp only [cT.C, hv, h0, h1, h2, decide_false, decide_true, aA, aA, gq, Int.reduceEq, Int.reduceLT, Int.reduceLE, implies_true, reduceCtorEq, if_true, if_false, go_sem, Nat.reduceEqDiff, Nat.reduceLT, Nat.reduceAdd, Nat.reduceSub, Nat.reduceLeDiff, List.reduceReplicate, Int.reduceToNat]
            exact ⟨hS, hyes _ _ _ hd rfl⟩
        · rw [if_pos (.inr h1)] at hd
          simp only [cT.C, hv, h0, h1, decide_false, decide_true, aA, aA, gq, Int.reduceEq, Int.reduceLT, Int.reduceLE, implies_true, reduceCtorEq, if_true, if_false, go_sem, Nat.reduceEqDiff, Nat.reduceLT, Nat.reduceAdd, Nat.reduceSub, Nat.reduceLeDiff, List.reduceReplicate, Int.reduceToNat]
          exact ⟨hS, hno _ _ hd rfl⟩
end Lam
