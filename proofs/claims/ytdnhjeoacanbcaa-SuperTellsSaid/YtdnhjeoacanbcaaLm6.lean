/- What functions of the program come to, each proved from its code. -/
import Derived.Test.YtdnhjeoacanbcaaLm5
namespace Lam
open Go Go.Proofs
set_option linter.unusedVariables false
def lamplighterref04_Few.loops : Nat → LInfo
  | 1 => ⟨[], [], [], [(5, none), (4, some [7, 11]), (2, none), (4, some [13, 17])], []⟩
  | _ => ⟨[], [], [], [], []⟩
def lamplighterref04_Few.H (c : Ctx) (t0 : AV) (h : List AObj) (K : AOut → List AObj → Prop) : Prop :=
  boxW T_api_Mem t0 h fun t1 h =>
  runD (fieldAddrD T_api_Mem t1 0) h fun t3 h =>
  runD (fitD T_sl_int (loadD h t3)) h fun t4 h =>
  runD (lenD T_sl_int h t4) h fun t5 h =>
  runD (binD T_int .leq t5 (.int .i64 300)) h fun t6 h =>
  joinW (fun (J1 : AV → AV → List AObj → Prop) =>
  guardW t6 true
  (runD (fieldAddrD T_api_Mem t1 1) h fun t8 h =>
    runD (fitD T_sl_int (loadD h t8)) h fun t9 h =>
    runD (lenD T_sl_int h t9) h fun t10 h =>
    runD (binD T_int .leq t10 (.int .i64 300)) h fun t11 h =>
    J1 (.bool true) t11 h)
  (J1 (.bool false) .und h))
  (fun t7 t11 h => runD (pickD t7 t11 (.bool false)) h fun t12 h =>
  joinW (fun (J2 : AV → AV → List AObj → Prop) =>
  guardW t12 true
  (runD (fieldAddrD T_api_Mem t1 2) h fun t14 h =>
    runD (fitD T_sl_api_Pending (loadD h t14)) h fun t15 h =>
    runD (lenD T_sl_api_Pending h t15) h fun t16 h =>
    runD (binD T_int .leq t16 (.int .i64 100)) h fun t17 h =>
    J2 (.bool true) t17 h)
  (J2 (.bool false) .und h))
  (fun t13 t17 h => runD (pickD t13 t17 (.bool false)) h fun t18 h =>
  K (.ret t18) h))
def lamplighterref04_Same.loops : Nat → LInfo
  | 3 => ⟨[], [], [], [(3, none), (2, some [20, 22]), (2, none), (7, some [24, 31])], []⟩
  | 6 => ⟨[7], [false], [2, 3], [], []⟩
  | _ => ⟨[], [], [], [], []⟩
def lamplighterref04_Same.L1 (c : Ctx) (J3 : List AObj → Prop) (K : AOut → List AObj → Prop) (lv : List AV) (h0 : List AObj) (n0 : Nat) (c2 : AV) (c3 : AV) : Prop :=
  ∃ I : Nat → List AV → List AObj → Prop, (∃ n, I n lv h0) ∧ ∀ n h, ∀ t7, I n [t7] h →
    runD (fieldAddrD T_api_Mem c2 2) h fun t34 h =>
    runD (fitD T_sl_api_Pending (loadD h t34)) h fun t35 h =>
    runD (lenD T_sl_api_Pending h t35) h fun t36 h =>
    runD (binD T_int .lss t7 t36) h fun t37 h =>
    condW t37
    (runD (fieldAddrD T_api_Mem c2 2) h fun t40 h =>
    runD (fitD T_sl_api_Pending (loadD h t40)) h fun t41 h =>
    runD (indexAddrD T_sl_api_Pending h t41 t7) h fun t43 h =>
    runD (fitD T_api_Pending (loadD h t43)) h fun t44 h =>
    runD (fieldAddrD T_api_Mem c3 2) h fun t45 h =>
    runD (fitD T_sl_api_Pending (loadD h t45)) h fun t46 h =>
    runD (indexAddrD T_sl_api_Pending h t46 t7) h fun t48 h =>
    runD (fitD T_api_Pending (loadD h t48)) h fun t49 h =>
    runD (binD T_api_Pending .neq t44 t49) h fun t50 h =>
    condW t50
    (K (.ret (.bool false)) h)
    (runD (binD T_int .add t7 (.int .i64 1)) h fun t39 h =>
    (∃ m, m < n ∧ I m (AV.norms n0 h [t39]) (normH n0 h)) ∧ AV.norms n0 h [c2, c3] = [c2, c3]))
    (J3 h)
def lamplighterref04_Same.H (c : Ctx) (t0 : AV) (t1 : AV) (h : List AObj) (K : AOut → List AObj → Prop) : Prop :=
  boxW T_api_Mem t0 h fun t2 h =>
  boxW T_api_Mem t1 h fun t3 h =>
  runD (fieldAddrD T_api_Mem t2 0) h fun t8 h =>
  runD (fitD T_sl_int (loadD h t8)) h fun t9 h =>
  runD (fieldAddrD T_api_Mem t3 0) h fun t10 h =>
  runD (fitD T_sl_int (loadD h t10)) h fun t11 h =>
  callW c (.fn (.func 22) [] []) [t9, t11] h (fun t12 h =>
  runD (fieldAddrD T_api_Mem t2 1) h fun t13 h =>
  runD (fitD T_sl_int (loadD h t13)) h fun t14 h =>
  runD (fieldAddrD T_api_Mem t3 1) h fun t15 h =>
  runD (fitD T_sl_int (loadD h t15)) h fun t16 h =>
  callW c (.fn (.func 22) [] []) [t14, t16] h (fun t17 h =>
  runD (unD .not t12) h fun t19 h =>
  joinW (fun (J1 : AV → AV → List AObj → Prop) =>
  guardW t19 false
  (runD (unD .not t17) h fun t22 h =>
    J1 (.bool false) t22 h)
  (J1 (.bool true) .und h))
  (fun t20 t22 h => runD (pickD t20 (.bool true) t22) h fun t23 h =>
  joinW (fun (J2 : AV → AV → List AObj → Prop) =>
  guardW t23 false
  (runD (fieldAddrD T_api_Mem t2 2) h fun t25 h =>
    runD (fitD T_sl_api_Pending (loadD h t25)) h fun t26 h =>
    runD (lenD T_sl_api_Pending h t26) h fun t27 h =>
    runD (fieldAddrD T_api_Mem t3 2) h fun t28 h =>
    runD (fitD T_sl_api_Pending (loadD h t28)) h fun t29 h =>
    runD (lenD T_sl_api_Pending h t29) h fun t30 h =>
    runD (binD T_int .neq t27 t30) h fun t31 h =>
    J2 (.bool false) t31 h)
  (J2 (.bool true) .und h))
  (fun t24 t31 h => runD (pickD t24 (.bool true) t31) h fun t32 h =>
  condW t32
  (K (.ret (.bool false)) h)
  (joinW (fun (J3 : List AObj → Prop) =>
  promV [false] [(.int .i64 0)] h fun lv h => lamplighterref04_Same.L1 c J3 K (AV.norms h.length h lv) (normH h.length h) h.length (AV.norm h.length h t2) (AV.norm h.length h t3))
  (fun h => K (.ret (.bool true)) h)))))
  (fun v h => K (.pan v) h))
  (fun v h => K (.pan v) h)
def lamplighterref04_Check.loops : Nat → LInfo
  | 2 => ⟨[], [], [], [(6, none), (2, some [16, 18]), (2, none), (3, some [20, 23])], []⟩
  | 6 => ⟨[5], [false], [1, 3, 4], [], []⟩
  | 9 => ⟨[], [], [], [(4, none), (4, some [44, 48])], []⟩
  | 12 => ⟨[7], [false], [1, 3, 4, 5, 6], [(4, none), (2, some [53, 55])], []⟩
  | _ => ⟨[], [], [], [], []⟩
def lamplighterref04_Check.L2 (c : Ctx) (J6 : AV → AV → AV → AV → AV → List AObj → Prop) (K : AOut → List AObj → Prop) (lv : List AV) (h0 : List AObj) (n0 : Nat) (c1 : AV) (c3 : AV) (c4 : AV) (c5 : AV) (c6 : AV) : Prop :=
  ∃ I : Nat → List AV → List AObj → Prop, (∃ n, I n lv h0) ∧ ∀ n h, ∀ t7, I n [t7] h →
    runD (binD T_int .lss t7 c5) h fun t52 h =>
    joinW (fun (J7 : AV → AV → List AObj → Prop) =>
    guardW t52 true
    (runD (fieldAddrD T_api_Pending c6 2) h fun t54 h =>
      runD (fitD T_bool (loadD h t54)) h fun t55 h =>
      J7 (.bool true) t55 h)
    (J7 (.bool false) .und h))
    (fun t53 t55 h => runD (pickD t53 t55 (.bool false)) h fun t56 h =>
    condW t56
    (runD (fieldAddrD T_api_Mem c1 2) h fun t59 h =>
    runD (fitD T_sl_api_Pending (loadD h t59)) h fun t60 h =>
    runD (indexAddrD T_sl_api_Pending h t60 t7) h fun t62 h =>
    runD (fieldAddrD T_api_Pending t62 0) h fun t63 h =>
    runD (fitD T_int (loadD h t63)) h fun t64 h =>
    runD (binD T_int .quo t64 (.int .i64 8)) h fun t65 h =>
    runD (fieldAddrD T_api_Pending c6 0) h fun t66 h =>
    runD (fitD T_int (loadD h t66)) h fun t67 h =>
    runD (binD T_int .quo t67 (.int .i64 8)) h fun t68 h =>
    runD (binD T_int .eql t65 t68) h fun t69 h =>
    joinW (fun (J8 : AV → AV → List AObj → Prop) =>
    guardW t69 true
    (runD (fieldAddrD T_api_Mem c1 2) h fun t71 h =>
      runD (fitD T_sl_api_Pending (loadD h t71)) h fun t72 h =>
      runD (indexAddrD T_sl_api_Pending h t72 t7) h fun t74 h =>
      runD (fieldAddrD T_api_Pending t74 2) h fun t75 h =>
      runD (fitD T_bool (loadD h t75)) h fun t76 h =>
      runD (unD .not t76) h fun t77 h =>
      J8 (.bool true) t77 h)
    (J8 (.bool false) .und h))
    (fun t70 t77 h => runD (pickD t70 t77 (.bool false)) h fun t78 h =>
    condW t78
    (K (.ret (.bool false)) h)
    (runD (binD T_int .add t7 (.int .i64 1)) h fun t58 h =>
    (∃ m, m < n ∧ I m (AV.norms n0 h [t58]) (normH n0 h)) ∧ AV.norms n0 h [c1, c3, c4, c5, c6] = [c1, c3, c4, c5, c6])))
    (J6 c1 c3 c4 c5 c6 h))
def lamplighterref04_Check.L1 (c : Ctx) (J3 : AV → AV → List AObj → Prop) (K : AOut → List AObj → Prop) (lv : List AV) (h0 : List AObj) (n0 : Nat) (c1 : AV) (c3 : AV) (c4 : AV) : Prop :=
  ∃ I : Nat → List AV → List AObj → Prop, (∃ n, I n lv h0) ∧ ∀ n h, ∀ t5, I n [t5] h →
    runD (fieldAddrD T_api_Mem c1 2) h fun t30 h =>
    runD (fitD T_sl_api_Pending (loadD h t30)) h fun t31 h =>
    runD (lenD T_sl_api_Pending h t31) h fun t32 h =>
    runD (binD T_int .lss t5 t32) h fun t33 h =>
    condW t33
    (joinW (fun (J4 : AV → AV → AV → AV → List AObj → Prop) =>
    runD (fieldAddrD T_api_Mem c1 2) h fun t36 h =>
    runD (fitD T_sl_api_Pending (loadD h t36)) h fun t37 h =>
    runD (indexAddrD T_sl_api_Pending h t37 t5) h fun t39 h =>
    runD (fitD T_api_Pending (loadD h t39)) h fun t40 h =>
    allocW T_api_Pending h fun t6 h =>
    runH (storeH T_api_Pending h t6 t40) h fun _ h =>
    runD (fieldAddrD T_api_Pending t6 0) h fun t41 h =>
    runD (fitD T_int (loadD h t41)) h fun t42 h =>
    runD (binD T_int .lss t42 (.int .i64 0)) h fun t43 h =>
    joinW (fun (J5 : AV → AV → List AObj → Prop) =>
    guardW t43 false
    (runD (fieldAddrD T_api_Pending t6 0) h fun t45 h =>
      runD (fitD T_int (loadD h t45)) h fun t46 h =>
      runD (binD T_int .geq t46 c3) h fun t48 h =>
      J5 (.bool false) t48 h)
    (J5 (.bool true) .und h))
    (fun t44 t48 h => runD (pickD t44 (.bool true) t48) h fun t49 h =>
    condW t49
    (K (.ret (.bool false)) h)
    (joinW (fun (J6 : AV → AV → AV → AV → AV → List AObj → Prop) =>
    promV [false] [(.int .i64 0)] h fun lv h => lamplighterref04_Check.L2 c J6 K (AV.norms h.length h lv) (normH h.length h) h.length (AV.norm h.length h c1) (AV.norm h.length h c3) (AV.norm h.length h c4) (AV.norm h.length h t5) (AV.norm h.length h t6))
    (fun t1 t3 t4 t5 t6 h => runD (fieldAddrD T_api_Pending t6 0) h fun t80 h =>
    runD (fitD T_int (loadD h t80)) h fun t81 h =>
    runD (fieldAddrD T_api_Pending t6 1) h fun t82 h =>
    runD (fitD T_int (loadD h t82)) h fun t83 h =>
    runD (indexAddrD T_sl_int h t4 t81) h fun t84 h =>
    runH (storeH T_int h t84 t83) h fun _ h =>
    J4 t1 t3 t4 t5 h))))
    (fun t1 t3 t4 t5 h => runD (binD T_int .add t5 (.int .i64 1)) h fun t35 h =>
    (∃ m, m < n ∧ I m (AV.norms n0 h [t35]) (normH n0 h)) ∧ AV.norms n0 h [t1, t3, t4] = [c1, c3, c4]))
    (J3 c1 c4 h)
def lamplighterref04_Check.H (c : Ctx) (t0 : AV) (h : List AObj) (K : AOut → List AObj → Prop) : Prop :=
  boxW T_api_Mem t0 h fun t1 h =>
  runD (fieldAddrD T_api_Mem t1 0) h fun t8 h =>
  runD (fitD T_sl_int (loadD h t8)) h fun t9 h =>
  runD (lenD T_sl_int h t9) h fun t10 h =>
  runD (fieldAddrD T_api_Mem t1 1) h fun t12 h =>
  runD (fitD T_sl_int (loadD h t12)) h fun t13 h =>
  runD (lenD T_sl_int h t13) h fun t14 h =>
  runD (binD T_int .neq t10 t14) h fun t15 h =>
  joinW (fun (J1 : AV → AV → List AObj → Prop) =>
  guardW t15 false
  (runD (binD T_int .gtr t10 (.int .i64 4096)) h fun t18 h =>
    J1 (.bool false) t18 h)
  (J1 (.bool true) .und h))
  (fun t16 t18 h => runD (pickD t16 (.bool true) t18) h fun t19 h =>
  joinW (fun (J2 : AV → AV → List AObj → Prop) =>
  guardW t19 false
  (runD (binD T_int .rem t10 (.int .i64 8)) h fun t22 h =>
    runD (binD T_int .neq t22 (.int .i64 0)) h fun t23 h =>
    J2 (.bool false) t23 h)
  (J2 (.bool true) .und h))
  (fun t20 t23 h => runD (pickD t20 (.bool true) t23) h fun t24 h =>
  condW t24
  (K (.ret (.bool false)) h)
  (runD (buildSliceD T_sl_int 0 [] h.length) h fun t25 h =>
  runD (fieldAddrD T_api_Mem t1 1) h fun t26 h =>
  runD (fitD T_sl_int (loadD h t26)) h fun t27 h =>
  runDM (appendD T_sl_int h t25 t27 h.length) (appendH T_sl_int h t25 t27) h fun t28 h =>
  joinW (fun (J3 : AV → AV → List AObj → Prop) =>
  promV [false] [(.int .i64 0)] h fun lv h => lamplighterref04_Check.L1 c J3 K (AV.norms h.length h lv) (normH h.length h) h.length (AV.norm h.length h t1) (AV.norm h.length h t10) (AV.norm h.length h t28))
  (fun t1 t4 h => runD (fieldAddrD T_api_Mem t1 0) h fun t86 h =>
  runD (fitD T_sl_int (loadD h t86)) h fun t87 h =>
  callW c (.fn (.func 22) [] []) [t4, t87] h (fun t88 h =>
  K (.ret t88) h)
  (fun v h => K (.pan v) h)))))
def lamplighterref04_Put.loops : Nat → LInfo
  | 2 => ⟨[], [], [], [(3, none), (2, some [13, 15]), (2, none), (5, some [17, 22])], []⟩
  | _ => ⟨[], [], [], [], []⟩
def lamplighterref04_Put.H (c : Ctx) (t0 : AV) (t1 : AV) (t2 : AV) (h : List AObj) (K : AOut → List AObj → Prop) : Prop :=
  boxW T_api_Mem t0 h fun t3 h =>
  allocW T_api_Mem h fun t6 h =>
  runD (fitD T_api_Mem (loadD h t3)) h fun t9 h =>
  callW c (.fn (.func 106) [] []) [t9] h (fun t10 h =>
  runD (unD .not t10) h fun t12 h =>
  joinW (fun (J1 : AV → AV → List AObj → Prop) =>
  guardW t12 false
  (runD (binD T_int .lss t1 (.int .i64 0)) h fun t15 h =>
    J1 (.bool false) t15 h)
  (J1 (.bool true) .und h))
  (fun t13 t15 h => runD (pickD t13 (.bool true) t15) h fun t16 h =>
  joinW (fun (J2 : AV → AV → List AObj → Prop) =>
  guardW t16 false
  (runD (fieldAddrD T_api_Mem t3 0) h fun t19 h =>
    runD (fitD T_sl_int (loadD h t19)) h fun t20 h =>
    runD (lenD T_sl_int h t20) h fun t21 h =>
    runD (binD T_int .geq t1 t21) h fun t22 h =>
    J2 (.bool false) t22 h)
  (J2 (.bool true) .und h))
  (fun t17 t22 h => runD (pickD t17 (.bool true) t22) h fun t23 h =>
  condW t23
  (runD (fitD T_api_Mem (loadD h t3)) h fun t24 h =>
    runH (storeH T_api_Mem h t6 t24) h fun _ h =>
    loadRes (fitD T_api_Mem (loadD h t6)) fun r0 => K (.ret (.tup [r0, (.int .i64 40)])) h)
  (runD (fieldAddrD T_api_Mem t3 0) h fun t25 h =>
  runD (fitD T_sl_int (loadD h t25)) h fun t26 h =>
  callW c.noS (.fn (.func 126) [] []) [t26, t1, t2] h (fun t29 h =>
  runD (fieldAddrD T_api_Mem t3 1) h fun t30 h =>
  runD (fitD T_sl_int (loadD h t30)) h fun t31 h =>
  runD (buildSliceD T_sl_api_Pending 0 [] h.length) h fun t32 h =>
  runD (fieldAddrD T_api_Mem t3 2) h fun t33 h =>
  runD (fitD T_sl_api_Pending (loadD h t33)) h fun t34 h =>
  runDM (appendD T_sl_api_Pending h t32 t34 h.length) (appendH T_sl_api_Pending h t32 t34) h fun t35 h =>
  runD (buildD T_api_Pending [(0, t1), (1, t2)]) h fun t38 h =>
  runD (buildSliceD T_sl_api_Pending 1 [(0, t38)] h.length) h fun t39 h =>
  runDM (appendD T_sl_api_Pending h t35 t39 h.length) (appendH T_sl_api_Pending h t35 t39) h fun t40 h =>
  runD (buildD T_api_Mem [(0, t29), (1, t31), (2, t40)]) h fun t41 h =>
  runH (storeH T_api_Mem h t6 t41) h fun _ h =>
  sepB t32 [t30] = true ∧ sepB t35 [t30] = true ∧ loadRes (fitD T_api_Mem (loadD h t6)) fun r0 => K (.ret (.tup [r0, (.int .i64 0)])) h)
  (fun _ _ => False)))))
  (fun v h => K (.pan v) h)
def lamplighterref04_Flush.loops : Nat → LInfo
  | 2 => ⟨[], [], [], [(3, none), (4, some [14, 18])], []⟩
  | 6 => ⟨[8], [false], [1, 2, 4, 7], [], [7]⟩
  | 9 => ⟨[], [], [], [(9, none), (5, some [46, 51])], []⟩
  | _ => ⟨[], [], [], [], []⟩
def lamplighterref04_Flush.L1 (c : Ctx) (J2 : AV → AV → List AObj → Prop) (K : AOut → List AObj → Prop) (lv : List AV) (h0 : List AObj) (n0 : Nat) (c1 : AV) (c2 : AV) (c4 : AV) (c7 : AV) : Prop :=
  ∃ I : Nat → List AV → List AObj → Prop, (∃ n, I n lv h0) ∧ ∀ n h, ∀ t8, I n [t8] h →
    runD (fieldAddrD T_api_Mem c2 2) h fun t27 h =>
    runD (fitD T_sl_api_Pending (loadD h t27)) h fun t28 h =>
    runD (lenD T_sl_api_Pending h t28) h fun t29 h =>
    runD (binD T_int .lss t8 t29) h fun t30 h =>
    condW t30
    (runD (fieldAddrD T_api_Mem c2 2) h fun t33 h =>
    runD (fitD T_sl_api_Pending (loadD h t33)) h fun t34 h =>
    runD (indexAddrD T_sl_api_Pending h t34 t8) h fun t36 h =>
    runD (fitD T_api_Pending (loadD h t36)) h fun t37 h =>
    allocW T_api_Pending h fun t9 h =>
    runH (storeH T_api_Pending h t9 t37) h fun _ h =>
    runD (fieldAddrD T_api_Mem c7 2) h fun t38 h =>
    runD (fitD T_sl_api_Pending (loadD h t38)) h fun t39 h =>
    runD (fieldAddrD T_api_Pending t9 0) h fun t40 h =>
    runD (fitD T_int (loadD h t40)) h fun t41 h =>
    runD (fieldAddrD T_api_Pending t9 1) h fun t42 h =>
    runD (fitD T_int (loadD h t42)) h fun t43 h =>
    runD (fieldAddrD T_api_Pending t9 2) h fun t44 h =>
    runD (fitD T_bool (loadD h t44)) h fun t45 h =>
    joinW (fun (J3 : AV → AV → List AObj → Prop) =>
    guardW t45 false
    (runD (fieldAddrD T_api_Pending t9 0) h fun t47 h =>
      runD (fitD T_int (loadD h t47)) h fun t48 h =>
      runD (binD T_int .quo t48 (.int .i64 8)) h fun t49 h =>
      runD (binD T_int .eql t49 c1) h fun t51 h =>
      J3 (.bool false) t51 h)
    (J3 (.bool true) .und h))
    (fun t46 t51 h => runD (pickD t46 (.bool true) t51) h fun t52 h =>
    runD (buildD T_api_Pending [(0, t41), (1, t43), (2, t52)]) h fun t53 h =>
    runD (buildSliceD T_sl_api_Pending 1 [(0, t53)] h.length) h fun t54 h =>
    runDM (appendD T_sl_api_Pending h t39 t54 h.length) (appendH T_sl_api_Pending h t39 t54) h fun t55 h =>
    runD (fieldAddrD T_api_Mem c7 2) h fun t56 h =>
    runH (storeH T_sl_api_Pending h t56 t55) h fun _ h =>
    runD (binD T_int .add t8 (.int .i64 1)) h fun t32 h =>
    (∃ m, m < n ∧ I m (AV.norms n0 h [t32]) (normH n0 h)) ∧ AV.norms n0 h [c1, c2, c4, c7] = [c1, c2, c4, c7]))
    (J2 c4 c7 h)
def lamplighterref04_Flush.H (c : Ctx) (t0 : AV) (t1 : AV) (h : List AObj) (K : AOut → List AObj → Prop) : Prop :=
  boxW T_api_Mem t0 h fun t2 h =>
  allocW T_api_Mem h fun t4 h =>
  runD (fitD T_api_Mem (loadD h t2)) h fun t10 h =>
  callW c (.fn (.func 106) [] []) [t10] h (fun t11 h =>
  runD (unD .not t11) h fun t13 h =>
  joinW (fun (J1 : AV → AV → List AObj → Prop) =>
  guardW t13 false
  (runD (fitD T_api_Mem (loadD h t2)) h fun t15 h =>
    callW c (.fn (.func 127) [] []) [t15, t1] h (fun t17 h =>
    runD (unD .not t17) h fun t18 h =>
    J1 (.bool false) t18 h)
    (fun v h => K (.pan v) h))
  (J1 (.bool true) .und h))
  (fun t14 t18 h => runD (pickD t14 (.bool true) t18) h fun t19 h =>
  condW t19
  (runD (fitD T_api_Mem (loadD h t2)) h fun t20 h =>
    runH (storeH T_api_Mem h t4 t20) h fun _ h =>
    loadRes (fitD T_api_Mem (loadD h t4)) fun r0 => K (.ret (.tup [r0, (.int .i64 40)])) h)
  (runD (fieldAddrD T_api_Mem t2 0) h fun t21 h =>
  runD (fitD T_sl_int (loadD h t21)) h fun t22 h =>
  runD (fieldAddrD T_api_Mem t2 1) h fun t23 h =>
  runD (fitD T_sl_int (loadD h t23)) h fun t24 h =>
  runD (buildD T_api_Mem [(0, t22), (1, t24)]) h fun t25 h =>
  allocW T_api_Mem h fun t7 h =>
  runH (storeH T_api_Mem h t7 t25) h fun _ h =>
  joinW (fun (J2 : AV → AV → List AObj → Prop) =>
  promV [false] [(.int .i64 0)] (boxH [t7] h) fun lv h => lamplighterref04_Flush.L1 c J2 K (AV.norms h.length h lv) (normH h.length h) h.length (AV.norm h.length h t1) (AV.norm h.length h t2) (AV.norm h.length h t4) (AV.norm h.length h t7))
  (fun t4 t7 h => runD (fitD T_api_Mem (loadD h t7)) h fun t57 h =>
  runH (storeH T_api_Mem h t4 t57) h fun _ h =>
  loadRes (fitD T_api_Mem (loadD h t4)) fun r0 => K (.ret (.tup [r0, (.int .i64 0)])) h))))
  (fun v h => K (.pan v) h)
def lamplighterref04_Fence.loops : Nat → LInfo
  | 6 => ⟨[5, 6], [true, false], [1, 2], [], []⟩
  | _ => ⟨[], [], [], [], []⟩
def lamplighterref04_Fence.L1 (c : Ctx) (J1 : AV → AV → AV → List AObj → Prop) (K : AOut → List AObj → Prop) (lv : List AV) (h0 : List AObj) (n0 : Nat) (c1 : AV) (c2 : AV) : Prop :=
  ∃ I : Nat → List AV → List AObj → Prop, (∃ n, I n lv h0) ∧ ∀ n h, ∀ t5, ∀ t6, I n [t5, t6] h →
    runD (fieldAddrD T_api_Mem c1 2) h fun t13 h =>
    runD (fitD T_sl_api_Pending (loadD h t13)) h fun t14 h =>
    runD (lenD T_sl_api_Pending h t14) h fun t15 h =>
    runD (binD T_int .lss t6 t15) h fun t16 h =>
    condW t16
    (runD (fieldAddrD T_api_Mem c1 2) h fun t20 h =>
    runD (fitD T_sl_api_Pending (loadD h t20)) h fun t21 h =>
    runD (indexAddrD T_sl_api_Pending h t21 t6) h fun t23 h =>
    runD (fieldAddrD T_api_Pending t23 2) h fun t24 h =>
    runD (fitD T_bool (loadD h t24)) h fun t25 h =>
    runD (buildSliceD T_sl_bool 1 [(0, t25)] h.length) h fun t26 h =>
    runDM (appendD T_sl_bool h t5 t26 h.length) (appendH T_sl_bool h t5 t26) h fun t27 h =>
    runD (binD T_int .add t6 (.int .i64 1)) h fun t18 h =>
    (∃ m, m < n ∧ I m (AV.norms n0 h [t27, t18]) (normH n0 h)) ∧ AV.norms n0 h [c1, c2] = [c1, c2])
    (J1 c1 c2 t5 h)
def lamplighterref04_Fence.H (c : Ctx) (t0 : AV) (h : List AObj) (K : AOut → List AObj → Prop) : Prop :=
  boxW T_api_Mem t0 h fun t1 h =>
  allocW T_api_Mem h fun t2 h =>
  runD (fitD T_api_Mem (loadD h t1)) h fun t7 h =>
  callW c (.fn (.func 106) [] []) [t7] h (fun t8 h =>
  runD (unD .not t8) h fun t10 h =>
  condW t10
  (runD (fitD T_api_Mem (loadD h t1)) h fun t11 h =>
    runH (storeH T_api_Mem h t2 t11) h fun _ h =>
    loadRes (fitD T_api_Mem (loadD h t2)) fun r0 => K (.ret (.tup [r0, (.int .i64 40)])) h)
  (joinW (fun (J1 : AV → AV → AV → List AObj → Prop) =>
  promV [true, false] [(.sl true (.bools [])), (.int .i64 0)] h fun lv h => lamplighterref04_Fence.L1 c J1 K (AV.norms h.length h lv) (normH h.length h) h.length (AV.norm h.length h t1) (AV.norm h.length h t2))
  (fun t1 t2 t5 h => runD (fitD T_api_Mem (loadD h t1)) h fun t28 h =>
  callW c (.fn (.func 128) [] []) [t28, t5] h (fun t30 h =>
  runH (storeH T_api_Mem h t2 t30) h fun _ h =>
  loadRes (fitD T_api_Mem (loadD h t2)) fun r0 => K (.ret (.tup [r0, (.int .i64 0)])) h)
  (fun v h => K (.pan v) h))))
  (fun v h => K (.pan v) h)
def lamplighterref04_Crash.loops : Nat → LInfo
  | 6 => ⟨[7, 8], [true, false], [1, 2], [], []⟩
  | 11 => ⟨[10, 11], [false, false], [1, 2, 7, 8, 9], [], []⟩
  | 15 => ⟨[], [], [], [(6, none), (10, some [51, 61])], []⟩
  | _ => ⟨[], [], [], [], []⟩
def lamplighterref04_Crash.L2 (c : Ctx) (J3 : AV → AV → AV → AV → AV → AV → List AObj → Prop) (K : AOut → List AObj → Prop) (lv : List AV) (h0 : List AObj) (n0 : Nat) (c1 : AV) (c2 : AV) (c7 : AV) (c8 : AV) (c9 : AV) : Prop :=
  ∃ I : Nat → List AV → List AObj → Prop, (∃ n, I n lv h0) ∧ ∀ n h, ∀ t10, ∀ t11, I n [t10, t11] h →
    runD (binD T_int .lss t11 c8) h fun t32 h =>
    condW t32
    (runD (fieldAddrD T_api_Mem c2 2) h fun t35 h =>
    runD (fitD T_sl_api_Pending (loadD h t35)) h fun t36 h =>
    runD (indexAddrD T_sl_api_Pending h t36 t11) h fun t38 h =>
    runD (fieldAddrD T_api_Pending t38 0) h fun t39 h =>
    runD (fitD T_int (loadD h t39)) h fun t40 h =>
    runD (binD T_int .quo t40 (.int .i64 8)) h fun t41 h =>
    runD (binD T_int .eql t41 c9) h fun t43 h =>
    joinW (fun (J4 : AV → List AObj → Prop) =>
    condW t43
    (runD (binD T_int .add t10 (.int .i64 1)) h fun t45 h =>
      J4 t45 h)
    (J4 t10 h))
    (fun t10 h => runD (binD T_int .add t11 (.int .i64 1)) h fun t34 h =>
    (∃ m, m < n ∧ I m (AV.norms n0 h [t10, t34]) (normH n0 h)) ∧ AV.norms n0 h [c1, c2, c7, c8, c9] = [c1, c2, c7, c8, c9]))
    (J3 c1 c2 c7 c8 c9 t10 h)
def lamplighterref04_Crash.L1 (c : Ctx) (J1 : AV → AV → List AObj → Prop) (K : AOut → List AObj → Prop) (lv : List AV) (h0 : List AObj) (n0 : Nat) (c1 : AV) (c2 : AV) : Prop :=
  ∃ I : Nat → List AV → List AObj → Prop, (∃ n, I n lv h0) ∧ ∀ n h, ∀ t7, ∀ t8, I n [t7, t8] h →
    runD (fieldAddrD T_api_Mem c2 2) h fun t17 h =>
    runD (fitD T_sl_api_Pending (loadD h t17)) h fun t18 h =>
    runD (lenD T_sl_api_Pending h t18) h fun t19 h =>
    runD (binD T_int .lss t8 t19) h fun t20 h =>
    condW t20
    (joinW (fun (J2 : AV → AV → AV → AV → List AObj → Prop) =>
    runD (fieldAddrD T_api_Mem c2 2) h fun t23 h =>
    runD (fitD T_sl_api_Pending (loadD h t23)) h fun t24 h =>
    runD (indexAddrD T_sl_api_Pending h t24 t8) h fun t26 h =>
    runD (fieldAddrD T_api_Pending t26 0) h fun t27 h =>
    runD (fitD T_int (loadD h t27)) h fun t28 h =>
    runD (binD T_int .quo t28 (.int .i64 8)) h fun t29 h =>
    joinW (fun (J3 : AV → AV → AV → AV → AV → AV → List AObj → Prop) =>
    promV [false, false] [(.int .i64 0), (.int .i64 0)] h fun lv h => lamplighterref04_Crash.L2 c J3 K (AV.norms h.length h lv) (normH h.length h) h.length (AV.norm h.length h c1) (AV.norm h.length h c2) (AV.norm h.length h t7) (AV.norm h.length h t8) (AV.norm h.length h t29))
    (fun t1 t2 t7 t8 t9 t10 h => runD (lenD T_sl_int h t1) h fun t49 h =>
    runD (binD T_int .lss t9 t49) h fun t50 h =>
    joinW (fun (J5 : AV → AV → List AObj → Prop) =>
    guardW t50 true
    (runD (lenD T_sl_int h t1) h fun t56 h =>
      runD (binD T_int .sub t56 (.int .i64 1)) h fun t57 h =>
      runD (minD t9 t57) h fun t58 h =>
      runD (indexAddrD T_sl_int h t1 t58) h fun t59 h =>
      runD (fitD T_int (loadD h t59)) h fun t60 h =>
      runD (binD T_int .lss t10 t60) h fun t61 h =>
      J5 (.bool true) t61 h)
    (J5 (.bool false) .und h))
    (fun t51 t61 h => runD (pickD t51 t61 (.bool false)) h fun t62 h =>
    runD (buildSliceD T_sl_bool 1 [(0, t62)] h.length) h fun t63 h =>
    runDM (appendD T_sl_bool h t7 t63 h.length) (appendH T_sl_bool h t7 t63) h fun t64 h =>
    J2 t1 t2 t64 t8 h)))
    (fun t1 t2 t7 t8 h => runD (binD T_int .add t8 (.int .i64 1)) h fun t22 h =>
    (∃ m, m < n ∧ I m (AV.norms n0 h [t7, t22]) (normH n0 h)) ∧ AV.norms n0 h [t1, t2] = [c1, c2]))
    (J1 c2 t7 h)
def lamplighterref04_Crash.H (c : Ctx) (t0 : AV) (t1 : AV) (h : List AObj) (K : AOut → List AObj → Prop) : Prop :=
  boxW T_api_Mem t0 h fun t2 h =>
  runD (fitD T_api_Mem (loadD h t2)) h fun t12 h =>
  callW c (.fn (.func 106) [] []) [t12] h (fun t13 h =>
  runD (unD .not t13) h fun t15 h =>
  condW t15
  (K (.ret (.tup [(.sl true (.ints .i64 [])), (.int .i64 40)])) h)
  (joinW (fun (J1 : AV → AV → List AObj → Prop) =>
  promV [true, false] [(.sl true (.bools [])), (.int .i64 0)] h fun lv h => lamplighterref04_Crash.L1 c J1 K (AV.norms h.length h lv) (normH h.length h) h.length (AV.norm h.length h t1) (AV.norm h.length h t2))
  (fun t2 t7 h => runD (fitD T_api_Mem (loadD h t2)) h fun t65 h =>
  callW c (.fn (.func 128) [] []) [t65, t7] h (fun t67 h =>
  runD (fieldD T_api_Mem t67 1) h fun t68 h =>
  K (.ret (.tup [t68, (.int .i64 0)])) h)
  (fun v h => K (.pan v) h))))
  (fun v h => K (.pan v) h)
def lamplighterref04_set.loops : Nat → LInfo
  | _ => ⟨[], [], [], [], []⟩
def lamplighterref04_set.H (c : Ctx) (t0 : AV) (t1 : AV) (t2 : AV) (h : List AObj) (K : AOut → List AObj → Prop) : Prop :=
  runD (buildSliceD T_sl_int 0 [] h.length) h fun t8 h =>
  runDM (appendD T_sl_int h t8 t0 h.length) (appendH T_sl_int h t8 t0) h fun t10 h =>
  runD (indexAddrD T_sl_int h t10 t1) h fun t14 h =>
  runH (storeH T_int h t14 t2) h fun _ h =>
  K (.ret t10) h
def lamplighterref04_line.loops : Nat → LInfo
  | 1 => ⟨[], [], [], [(3, none), (6, some [7, 13])], []⟩
  | _ => ⟨[], [], [], [], []⟩
def lamplighterref04_line.H (c : Ctx) (t0 : AV) (t1 : AV) (h : List AObj) (K : AOut → List AObj → Prop) : Prop :=
  boxW T_api_Mem t0 h fun t2 h =>
  runD (binD T_int .geq t1 (.int .i64 0)) h fun t6 h =>
  joinW (fun (J1 : AV → AV → List AObj → Prop) =>
  guardW t6 true
  (runD (fieldAddrD T_api_Mem t2 0) h fun t9 h =>
    runD (fitD T_sl_int (loadD h t9)) h fun t10 h =>
    runD (lenD T_sl_int h t10) h fun t11 h =>
    runD (binD T_int .quo t11 (.int .i64 8)) h fun t12 h =>
    runD (binD T_int .lss t1 t12) h fun t13 h =>
    J1 (.bool true) t13 h)
  (J1 (.bool false) .und h))
  (fun t7 t13 h => runD (pickD t7 t13 (.bool false)) h fun t14 h =>
  K (.ret t14) h)
def lamplighterref04_keep.loops : Nat → LInfo
  | 3 => ⟨[6], [false], [1, 2, 4, 5], [], [5]⟩
  | _ => ⟨[], [], [], [], []⟩
def lamplighterref04_keep.L1 (c : Ctx) (J1 : AV → AV → List AObj → Prop) (K : AOut → List AObj → Prop) (lv : List AV) (h0 : List AObj) (n0 : Nat) (c1 : AV) (c2 : AV) (c4 : AV) (c5 : AV) : Prop :=
  ∃ I : Nat → List AV → List AObj → Prop, (∃ n, I n lv h0) ∧ ∀ n h, ∀ t6, I n [t6] h →
    runD (fieldAddrD T_api_Mem c2 2) h fun t13 h =>
    runD (fitD T_sl_api_Pending (loadD h t13)) h fun t14 h =>
    runD (lenD T_sl_api_Pending h t14) h fun t15 h =>
    runD (binD T_int .lss t6 t15) h fun t16 h =>
    condW t16
    (runD (indexAddrD T_sl_bool h c1 t6) h fun t21 h =>
    runD (fitD T_bool (loadD h t21)) h fun t22 h =>
    joinW (fun (J2 : List AObj → Prop) =>
    condW t22
    (runD (fieldAddrD T_api_Mem c5 1) h fun t23 h =>
      runD (fitD T_sl_int (loadD h t23)) h fun t24 h =>
      runD (fieldAddrD T_api_Mem c2 2) h fun t25 h =>
      runD (fitD T_sl_api_Pending (loadD h t25)) h fun t26 h =>
      runD (indexAddrD T_sl_api_Pending h t26 t6) h fun t28 h =>
      runD (fieldAddrD T_api_Pending t28 0) h fun t29 h =>
      runD (fitD T_int (loadD h t29)) h fun t30 h =>
      runD (fieldAddrD T_api_Mem c2 2) h fun t31 h =>
      runD (fitD T_sl_api_Pending (loadD h t31)) h fun t32 h =>
      runD (indexAddrD T_sl_api_Pending h t32 t6) h fun t34 h =>
      runD (fieldAddrD T_api_Pending t34 1) h fun t35 h =>
      runD (fitD T_int (loadD h t35)) h fun t36 h =>
      callW c.noS (.fn (.func 126) [] []) [t24, t30, t36] h (fun t37 h =>
      runD (fieldAddrD T_api_Mem c5 1) h fun t38 h =>
      runH (storeH T_sl_int h t38 t37) h fun _ h =>
      J2 h)
      (fun _ _ => False))
    (runD (fieldAddrD T_api_Mem c5 2) h fun t39 h =>
      runD (fitD T_sl_api_Pending (loadD h t39)) h fun t40 h =>
      runD (fieldAddrD T_api_Mem c2 2) h fun t41 h =>
      runD (fitD T_sl_api_Pending (loadD h t41)) h fun t42 h =>
      runD (indexAddrD T_sl_api_Pending h t42 t6) h fun t44 h =>
      runD (fitD T_api_Pending (loadD h t44)) h fun t45 h =>
      runD (buildSliceD T_sl_api_Pending 1 [(0, t45)] h.length) h fun t46 h =>
      runDM (appendD T_sl_api_Pending h t40 t46 h.length) (appendH T_sl_api_Pending h t40 t46) h fun t47 h =>
      runD (fieldAddrD T_api_Mem c5 2) h fun t48 h =>
      runH (storeH T_sl_api_Pending h t48 t47) h fun _ h =>
      J2 h))
    (fun h => runD (binD T_int .add t6 (.int .i64 1)) h fun t18 h =>
    (∃ m, m < n ∧ I m (AV.norms n0 h [t18]) (normH n0 h)) ∧ AV.norms n0 h [c1, c2, c4, c5] = [c1, c2, c4, c5]))
    (J1 c4 c5 h)
def lamplighterref04_keep.H (c : Ctx) (t0 : AV) (t1 : AV) (h : List AObj) (K : AOut → List AObj → Prop) : Prop :=
  boxW T_api_Mem t0 h fun t2 h =>
  allocW T_api_Mem h fun t4 h =>
  runD (fieldAddrD T_api_Mem t2 0) h fun t7 h =>
  runD (fitD T_sl_int (loadD h t7)) h fun t8 h =>
  runD (fieldAddrD T_api_Mem t2 1) h fun t9 h =>
  runD (fitD T_sl_int (loadD h t9)) h fun t10 h =>
  runD (buildD T_api_Mem [(0, t8), (1, t10)]) h fun t11 h =>
  allocW T_api_Mem h fun t5 h =>
  runH (storeH T_api_Mem h t5 t11) h fun _ h =>
  joinW (fun (J1 : AV → AV → List AObj → Prop) =>
  promV [false] [(.int .i64 0)] (boxH [t5] h) fun lv h => lamplighterref04_keep.L1 c J1 K (AV.norms h.length h lv) (normH h.length h) h.length (AV.norm h.length h t1) (AV.norm h.length h t2) (AV.norm h.length h t4) (AV.norm h.length h t5))
  (fun t4 t5 h => runD (fitD T_api_Mem (loadD h t5)) h fun t49 h =>
  runH (storeH T_api_Mem h t4 t49) h fun _ h =>
  loadRes (fitD T_api_Mem (loadD h t4)) fun r0 => K (.ret r0) h)
theorem lamplighterref04_Few.eq (F : List (FuncId × Contract)) (S : List (FuncId × Con)) (t0 : AV) (h : List AObj) (K : AOut → List AObj → Prop) : funW (ctx F S lamplighterref04_Few.loops) Try.f62 [t0] h K = lamplighterref04_Few.H (ctx F S lamplighterref04_Few.loops) t0 h K := by kernel_rfl
theorem lamplighterref04_Same.eq (F : List (FuncId × Contract)) (S : List (FuncId × Con)) (t0 t1 : AV) (h : List AObj) (K : AOut → List AObj → Prop) : funW (ctx F S lamplighterref04_Same.loops) Try.f69 [t0, t1] h K = lamplighterref04_Same.H (ctx F S lamplighterref04_Same.loops) t0 t1 h K := by kernel_rfl
theorem lamplighterref04_Check.eq (F : List (FuncId × Contract)) (S : List (FuncId × Con)) (t0 : AV) (h : List AObj) (K : AOut → List AObj → Prop) : funW (ctx F S lamplighterref04_Check.loops) Try.f106 [t0] h K = lamplighterref04_Check.H (ctx F S lamplighterref04_Check.loops) t0 h K := by kernel_rfl
theorem lamplighterref04_Put.eq (F : List (FuncId × Contract)) (S : List (FuncId × Con)) (t0 t1 t2 : AV) (h : List AObj) (K : AOut → List AObj → Prop) : funW (ctx F S lamplighterref04_Put.loops) Try.f108 [t0, t1, t2] h K = lamplighterref04_Put.H (ctx F S lamplighterref04_Put.loops) t0 t1 t2 h K := by kernel_rfl
theorem lamplighterref04_Flush.eq (F : List (FuncId × Contract)) (S : List (FuncId × Con)) (t0 t1 : AV) (h : List AObj) (K : AOut → List AObj → Prop) : funW (ctx F S lamplighterref04_Flush.loops) Try.f109 [t0, t1] h K = lamplighterref04_Flush.H (ctx F S lamplighterref04_Flush.loops) t0 t1 h K := by kernel_rfl
theorem lamplighterref04_Fence.eq (F : List (FuncId × Contract)) (S : List (FuncId × Con)) (t0 : AV) (h : List AObj) (K : AOut → List AObj → Prop) : funW (ctx F S lamplighterref04_Fence.loops) Try.f110 [t0] h K = lamplighterref04_Fence.H (ctx F S lamplighterref04_Fence.loops) t0 h K := by kernel_rfl
theorem lamplighterref04_Crash.eq (F : List (FuncId × Contract)) (S : List (FuncId × Con)) (t0 t1 : AV) (h : List AObj) (K : AOut → List AObj → Prop) : funW (ctx F S lamplighterref04_Crash.loops) Try.f112 [t0, t1] h K = lamplighterref04_Crash.H (ctx F S lamplighterref04_Crash.loops) t0 t1 h K := by kernel_rfl
theorem lamplighterref04_set.eq (F : List (FuncId × Contract)) (S : List (FuncId × Con)) (t0 t1 t2 : AV) (h : List AObj) (K : AOut → List AObj → Prop) : funW (ctx F S lamplighterref04_set.loops) Try.f126 [t0, t1, t2] h K = lamplighterref04_set.H (ctx F S lamplighterref04_set.loops) t0 t1 t2 h K := by kernel_rfl
theorem lamplighterref04_line.eq (F : List (FuncId × Contract)) (S : List (FuncId × Con)) (t0 t1 : AV) (h : List AObj) (K : AOut → List AObj → Prop) : funW (ctx F S lamplighterref04_line.loops) Try.f127 [t0, t1] h K = lamplighterref04_line.H (ctx F S lamplighterref04_line.loops) t0 t1 h K := by kernel_rfl
theorem lamplighterref04_keep.eq (F : List (FuncId × Contract)) (S : List (FuncId × Con)) (t0 t1 : AV) (h : List AObj) (K : AOut → List AObj → Prop) : funW (ctx F S lamplighterref04_keep.loops) Try.f128 [t0, t1] h K = lamplighterref04_keep.H (ctx F S lamplighterref04_keep.loops) t0 t1 h K := by kernel_rfl
theorem lamplighterref04_Few.at : Try.prog.funcs[62]? = some Try.f62 := by kernel_rfl
theorem lamplighterref04_Few.nm : (Try.f62.name == "runtime.NumGoroutine") = false := by kernel_rfl
theorem lamplighterref04_Few.bd : Try.f62.body.isNone = false := by kernel_rfl
theorem lamplighterref04_Same.at : Try.prog.funcs[69]? = some Try.f69 := by kernel_rfl
theorem lamplighterref04_Same.nm : (Try.f69.name == "runtime.NumGoroutine") = false := by kernel_rfl
theorem lamplighterref04_Same.bd : Try.f69.body.isNone = false := by kernel_rfl
theorem lamplighterref04_Check.at : Try.prog.funcs[106]? = some Try.f106 := by kernel_rfl
theorem lamplighterref04_Check.nm : (Try.f106.name == "runtime.NumGoroutine") = false := by kernel_rfl
theorem lamplighterref04_Check.bd : Try.f106.body.isNone = false := by kernel_rfl
theorem lamplighterref04_Put.at : Try.prog.funcs[108]? = some Try.f108 := by kernel_rfl
theorem lamplighterref04_Put.nm : (Try.f108.name == "runtime.NumGoroutine") = false := by kernel_rfl
theorem lamplighterref04_Put.bd : Try.f108.body.isNone = false := by kernel_rfl
theorem lamplighterref04_Flush.at : Try.prog.funcs[109]? = some Try.f109 := by kernel_rfl
theorem lamplighterref04_Flush.nm : (Try.f109.name == "runtime.NumGoroutine") = false := by kernel_rfl
theorem lamplighterref04_Flush.bd : Try.f109.body.isNone = false := by kernel_rfl
theorem lamplighterref04_Fence.at : Try.prog.funcs[110]? = some Try.f110 := by kernel_rfl
theorem lamplighterref04_Fence.nm : (Try.f110.name == "runtime.NumGoroutine") = false := by kernel_rfl
theorem lamplighterref04_Fence.bd : Try.f110.body.isNone = false := by kernel_rfl
theorem lamplighterref04_Crash.at : Try.prog.funcs[112]? = some Try.f112 := by kernel_rfl
theorem lamplighterref04_Crash.nm : (Try.f112.name == "runtime.NumGoroutine") = false := by kernel_rfl
theorem lamplighterref04_Crash.bd : Try.f112.body.isNone = false := by kernel_rfl
theorem lamplighterref04_set.at : Try.prog.funcs[126]? = some Try.f126 := by kernel_rfl
theorem lamplighterref04_set.nm : (Try.f126.name == "runtime.NumGoroutine") = false := by kernel_rfl
theorem lamplighterref04_set.bd : Try.f126.body.isNone = false := by kernel_rfl
theorem lamplighterref04_line.at : Try.prog.funcs[127]? = some Try.f127 := by kernel_rfl
theorem lamplighterref04_line.nm : (Try.f127.name == "runtime.NumGoroutine") = false := by kernel_rfl
theorem lamplighterref04_line.bd : Try.f127.body.isNone = false := by kernel_rfl
theorem lamplighterref04_keep.at : Try.prog.funcs[128]? = some Try.f128 := by kernel_rfl
theorem lamplighterref04_keep.nm : (Try.f128.name == "runtime.NumGoroutine") = false := by kernel_rfl
theorem lamplighterref04_keep.bd : Try.f128.body.isNone = false := by kernel_rfl
end Lam
namespace Lam
open Go Go.Proofs
set_option linter.unusedVariables false
set_option linter.unnecessarySimpa false
set_option linter.unusedSimpArgs false
def lamplighterref04_Few.C : Contract
  | [.agg [.sl false (.ints .i64 vol), .sl false (.ints .i64 per), .sl false (.pends pend)]] => some (false, pD True (.bool (fewB vol per pend)))
  | _ => none
set_option maxRecDepth 20000 in
theorem lamplighterref04_Few.spec : FSpec Try.prog 62 lamplighterref04_Few.C := by
  refine FSpec.of (ctx_ok (F := []) (S := []) (by simp) (by simp) lamplighterref04_Few.loops) lamplighterref04_Few.at lamplighterref04_Few.nm lamplighterref04_Few.bd ?_
  intro vs b S v news e hS
  unfold lamplighterref04_Few.C at e
  split at e
  rotate_left
  · cases e
  cases e
  rw [lamplighterref04_Few.eq]
  unfold lamplighterref04_Few.H
  simp (maxSteps := 4000000) only [go_sem, Nat.reduceEqDiff, Nat.reduceLT, Nat.reduceAdd, Nat.reduceSub, Nat.reduceLeDiff, List.reduceReplicate, Int.reduceToNat]
  rename_i vol per pend
  have e1 : decide ((vol.length : Int) ≤ 300) = decide (vol.length ≤ 300) := decide_eq_decide.2 (by omega)
  have e2 : decide ((per.length : Int) ≤ 300) = decide (per.length ≤ 300) := decide_eq_decide.2 (by omega)
  have e3 : decide ((pend.length : Int) ≤ 100) = decide (pend.length ≤ 100) := decide_eq_decide.2 (by omega)
  rw [e1, e2, e3]
  exact post_val rfl rfl
def sameB (vol per : List Int) (pend : List Pend) (vol' per' : List Int) (pend' : List Pend) : Bool := decide (vol = vol') && decide (per = per') && decide (pend = pend')
theorem sameB_self (v p : List Int) (q : List Pend) : sameB v p q v p q = true := by simp [sameB]
def lamplighterref04_Same.C : Contract
  | [.agg [.sl false (.ints .i64 vol), .sl false (.ints .i64 per), .sl false (.pends pend)], .agg [.sl false (.ints .i64 vol'), .sl false (.ints .i64 per'), .sl false (.pends pend')]] => some (false, pD (smallM vol per pend) (.bool (sameB vol per pend vol' per' pend')))
  | _ => none
set_option maxRecDepth 20000 in
theorem lamplighterref04_Same.spec : FSpec Try.prog 69 lamplighterref04_Same.C := by
  refine FSpec.of (ctx_ok (F := [(22, lamplighterref02_Numbers.C)]) (S := []) (by simpa using lamplighterref02_Numbers.spec) (by simp) lamplighterref04_Same.loops) lamplighterref04_Same.at lamplighterref04_Same.nm lamplighterref04_Same.bd ?_
  intro vs b S v news e hS
  unfold lamplighterref04_Same.C at e
  split at e
  rotate_left
  · cases e
  cases e
  rw [lamplighterref04_Same.eq]
  unfold lamplighterref04_Same.H
  simp (maxSteps := 4000000) only [go_sem, Nat.reduceEqDiff, Nat.reduceLT, Nat.reduceAdd, Nat.reduceSub, Nat.reduceLeDiff, List.reduceReplicate, Int.reduceToNat, lamplighterref02_Numbers.C]
  rename_i vol per pend vol' per' pend'
  obtain ⟨s1, s2, s3⟩ := hS
  unfold roomy at s1 s2 s3
  refine ⟨s1, s2, fun hne => ?_, fun heq => ?_⟩
  · have : sameB vol per pend vol' per' pend' = false := by
      simp only [Bool.or_eq_true, Bool.not_eq_true', decide_eq_false_iff_not] at hne
      unfold sameB
      rcases hne with (h | h) | h
      · simp [h]
      · simp [h]
      · have : pend ≠ pend' := by rintro rfl; exact h rfl
        simp [this]
    rw [this]; exact post_val rfl rfl
  simp only [Bool.or_eq_false_iff, Bool.not_eq_false', decide_eq_true_eq] at heq
  obtain ⟨⟨h1, h2⟩, h3⟩ := heq
  have hlen : pend.length = pend'.length := by omega
  rw [joinW_eq]
  unfold lamplighterref04_Same.L1
  refine loop1 (fun k : Nat => .int .i64 k) (fun _ => [.box (memV vol per pend), .box (memV vol' per' pend')]) (fun k => pend.length - k) (fun k => k ≤ pend.length ∧ ∀ i, i < k → pend.getD i ⟨0, 0, false⟩ = pend'.getD i ⟨0, 0, false⟩) 0 rfl rfl ⟨Nat.zero_le _, fun i hi => absurd hi (Nat.not_lt_zero i)⟩ ?_
  rintro I back k ⟨hk, hall⟩
  simp only [go_sem, Nat.reduceEqDiff, Nat.reduceLT, Nat.reduceAdd, Nat.reduceSub, Nat.reduceLeDiff, List.reduceReplicate, Int.reduceToNat]
  have hd : ∀ a b : Pend, (decide (a.at_ = b.at_) && (decide (a.val = b.val) && a.fl == b.fl)) = decide (a = b) := fun a b => by
    cases a; cases b; rw [Bool.eq_iff_iff]; simp only [Bool.and_eq_true, Bool.or_eq_true, Bool.not_eq_true', Bool.not_eq_false', Bool.not_eq_true, decide_eq_true_eq, decide_eq_false_iff_not, Bool.or_eq_false_iff, Bool.and_eq_false_iff, beq_iff_eq]; simp
  rw [hd]
  refine ⟨fun hlt => ⟨by omega, by omega, fun h0 => ?_, fun h0 => ?_⟩, fun hge => ?_⟩
  · rw [decide_eq_false_iff_not] at h0
    have : pend ≠ pend' := by rintro rfl; exact h0 rfl
    have : sameB vol per pend vol' per' pend' = false := by unfold sameB; simp [this]
    rw [this]; exact post_val rfl rfl
  · rw [decide_eq_true_eq] at h0
    refine back (k + 1) (by omega) (by rw [wnext (by omega)]) rfl ⟨by omega, fun i hi => ?_⟩
    by_cases e : i = k
    · subst e; exact h0
    · exact hall i (by omega)
  · have h4 : pend = pend' := ext_d _ hlen fun i hi => hall i (by omega)
    have : sameB vol per pend vol' per' pend' = true := by unfold sameB; simp [h1, h2, h4]
    rw [this]; exact post_val rfl rfl
def lamplighterref04_set.C : Contract
  | [.sl _ (.ints .i64 l), .int .i64 at_, .int .i64 val] => some (false, pD (0 ≤ at_ ∧ at_ < (l.length : Int) ∧ roomy l.length) (.sl false (.ints .i64 (l.set at_.toNat val))))
  | _ => none
set_option maxRecDepth 20000 in
theorem lamplighterref04_set.spec : FSpec Try.prog 126 lamplighterref04_set.C := by
  refine FSpec.of (ctx_ok (F := []) (S := []) (by simp) (by simp) lamplighterref04_set.loops) lamplighterref04_set.at lamplighterref04_set.nm lamplighterref04_set.bd ?_
  intro vs b S v news e hS
  unfold lamplighterref04_set.C at e
  split at e
  rotate_left
  · cases e
  cases e
  rw [lamplighterref04_set.eq]
  unfold lamplighterref04_set.H
  simp (maxSteps := 4000000) only [go_sem, Nat.reduceEqDiff, Nat.reduceLT, Nat.reduceAdd, Nat.reduceSub, Nat.reduceLeDiff, List.reduceReplicate, Int.reduceToNat]
  rename_i l at_ val
  obtain ⟨h0, h1, hr⟩ := hS
  refine ⟨hr, ⟨h0, h1⟩, by omega, post_val ?_ rfl⟩
  simp only [go_sem, Nat.reduceEqDiff, Nat.reduceLT, Nat.reduceAdd, Nat.reduceSub, Nat.reduceLeDiff, List.reduceReplicate, Int.reduceToNat, take_len _ (Nat.le_of_eq List.length_set)]
def lamplighterref04_line.C : Contract
  | [.agg [.sl false (.ints .i64 vol), .sl false (.ints .i64 per), .sl false (.pends pend)], .int .i64 n] => some (false, pD (roomy vol.length) (.bool (decide (0 ≤ n) && decide (n < ((vol.length / 8 : Nat) : Int)))))
  | _ => none
set_option maxRecDepth 20000 in
theorem lamplighterref04_line.spec : FSpec Try.prog 127 lamplighterref04_line.C := by
  refine FSpec.of (ctx_ok (F := []) (S := []) (by simp) (by simp) lamplighterref04_line.loops) lamplighterref04_line.at lamplighterref04_line.nm lamplighterref04_line.bd ?_
  intro vs b S v news e hS
  unfold lamplighterref04_line.C at e
  split at e
  rotate_left
  · cases e
  cases e
  rw [lamplighterref04_line.eq]
  unfold lamplighterref04_line.H
  simp (maxSteps := 4000000) only [go_sem, Nat.reduceEqDiff, Nat.reduceLT, Nat.reduceAdd, Nat.reduceSub, Nat.reduceLeDiff, List.reduceReplicate, Int.reduceToNat]
  rename_i vol per pend n
  unfold roomy at hS
  rw [wdiv8 (by omega)]
  exact ⟨fun _ => by decide, post_val rfl rfl⟩
def lamplighterref04_Check.C : Contract
  | [.agg [.sl false (.ints .i64 vol), .sl false (.ints .i64 per), .sl false (.pends pend)]] => some (false, pD (smallM vol per pend) (.bool (checkB vol per pend)))
  | _ => none
set_option maxRecDepth 20000 in
theorem lamplighterref04_Check.spec : FSpec Try.prog 106 lamplighterref04_Check.C := by
  refine FSpec.of (ctx_ok (F := [(22, lamplighterref02_Numbers.C)]) (S := []) (by simpa using lamplighterref02_Numbers.spec) (by simp) lamplighterref04_Check.loops) lamplighterref04_Check.at lamplighterref04_Check.nm lamplighterref04_Check.bd ?_
  intro vs b S v news e hS
  unfold lamplighterref04_Check.C at e
  split at e
  rotate_left
  · cases e
  cases e
  rw [lamplighterref04_Check.eq]
  unfold lamplighterref04_Check.H
  simp (maxSteps := 4000000) only [go_sem, Nat.reduceEqDiff, Nat.reduceLT, Nat.reduceAdd, Nat.reduceSub, Nat.reduceLeDiff, List.reduceReplicate, Int.reduceToNat, lamplighterref02_Numbers.C]
  rename_i vol per pend
  obtain ⟨s1, s2, s3⟩ := hS
  unfold roomy at s1 s2 s3
  refine ⟨fun _ => by decide, fun h => ?_, fun h => ⟨s2, ?_⟩⟩
  · have : checkB vol per pend = false := by
      cases e : checkB vol per pend with
      | false => rfl
      | true =>
        have := check_iff.1 e
        have h1 := this.len
        have h2 := this.sz
        have h3 := this.md
        simp only [Bool.or_eq_true, Bool.not_eq_true', decide_eq_true_eq, decide_eq_false_iff_not] at h
        rw [Int.tmod_eq_emod_of_nonneg (by omega)] at h
        omega
    rw [this]; exact post_val rfl rfl
  simp only [Bool.or_eq_false_iff, Bool.not_eq_false', decide_eq_true_eq, decide_eq_false_iff_not] at h
  have hlen : vol.length = per.length := by omega
  have hmd : vol.length % 8 = 0 := by
    have := h.2
    rw [Int.tmod_eq_emod_of_nonneg (by omega)] at this
    omega
  rw [joinW_eq]
  unfold lamplighterref04_Check.L1
  refine loop1 (σ := Nat) (fun k => .int .i64 k) (fun k => [.box (memV vol per pend), .row .own 0 (.ints .i64 []), .row .own 0 (.ints .i64 (app (pend.take k) per))]) (fun k => pend.length - k)
    (fun k => k ≤ pend.length ∧ (∀ p ∈ pend.take k, 0 ≤ p.at_ ∧ p.at_ < (vol.length : Int)) ∧ LineWise (fun p => p.fl) (pend.take k)) 0 rfl rfl ⟨Nat.zero_le _, by simp, by simp [LineWise]⟩ ?_
  rintro I back k ⟨hk, hrg, hlw⟩
  simp only [go_sem, Nat.reduceEqDiff, Nat.reduceLT, Nat.reduceAdd, Nat.reduceSub, Nat.reduceLeDiff, List.reduceReplicate, Int.reduceToNat, app_len]
  refine ⟨fun hlt => ⟨by omega, ?_⟩, fun hge => ?_⟩
  · have hkl : k < pend.length := by omega
    have hmem := getD_mem pend k ⟨0, 0, false⟩ hkl
    have htk := take_next pend k ⟨0, 0, false⟩ hkl
    generalize pend.getD k ⟨0, 0, false⟩ = p at *
    refine ⟨fun hb => ?_, fun hb => ?_⟩
    · have : checkB vol per pend = false := by
        cases e : checkB vol per pend with
        | false => rfl
        | true =>
          have := (check_iff.1 e).rng p hmem
          simp only [Bool.or_eq_true, decide_eq_true_eq] at hb
          omega
      rw [this]; exact post_val rfl rfl
    rw [Bool.or_eq_false_iff, decide_eq_false_iff_not, decide_eq_false_iff_not] at hb
    rw [joinW_eq]
    unfold lamplighterref04_Check.L2
    refine loop1 (σ := Nat) (fun j => .int .i64 j) (fun _ => [.box (memV vol per pend), .row .own 0 (.ints .i64 []), .row .own 0 (.ints .i64 (app (pend.take k) per)), .box (.agg [.int .i64 p.at_, .int .i64 p.val, .bool p.fl])]) (fun j => k - j)
      (fun j => j ≤ k ∧ ∀ q ∈ pend.take j, lineOf q.at_ = lineOf p.at_ → p.fl = true → q.fl = true) 0 rfl rfl ⟨Nat.zero_le _, by simp⟩ ?_
    rintro I2 back2 j ⟨hj, hall⟩
    simp only [go_sem, Nat.reduceEqDiff, Nat.reduceLT, Nat.reduceAdd, Nat.reduceSub, Nat.reduceLeDiff, List.reduceReplicate, Int.reduceToNat, app_len]
    refine ⟨fun hc => ?_, fun hc => ?_⟩
    · rw [Bool.and_eq_true, decide_eq_true_eq] at hc
      obtain ⟨hjk, hfl⟩ := hc
      have hjp : j < pend.length := by omega
      have hjm : pend.getD j ⟨0, 0, false⟩ ∈ pend.take k := by
        have : j < (pend.take k).length := by rw [List.length_take]; omega
        have e : (pend.take k).getD j ⟨0, 0, false⟩ = pend.getD j ⟨0, 0, false⟩ := by
          rw [List.getD_eq_getElem?_getD, List.getElem?_take, if_pos (by omega), List.getD_eq_getElem?_getD]
        rw [← e]; exact getD_mem _ _ _ this
      have htj := take_next pend j ⟨0, 0, false⟩ hjp
      generalize pend.getD j ⟨0, 0, false⟩ = q at *
      refine ⟨by omega, by decide, by decide, fun _ => by omega, fun hx => ?_, fun hx => ?_⟩
      · rw [Bool.and_eq_true, decide_eq_true_eq, Bool.not_eq_true'] at hx
        have : checkB vol per pend = false := by
          cases e : checkB vol per pend with
          | false => rfl
          | true =>
            have h2 := (check_iff.1 e).ord.sublist (List.take_sublist (k + 1) pend)
            rw [htk, List.pairwise_append] at h2
            have h3 : q.fl = true := h2.2.2 q hjm p (by simp) hx.1 hfl
            rw [hx.2] at h3; cases h3
        rw [this]; exact post_val rfl rfl
      · refine back2 (j + 1) (by omega) (by rw [wnext (by omega)]) rfl ⟨by omega, fun r hr hl hf => ?_⟩
        rw [htj, List.mem_append, List.mem_singleton] at hr
        rcases hr with hr | rfl
        · exact hall r hr hl hf
        · rw [Bool.and_eq_false_iff, decide_eq_false_iff_not, Bool.not_eq_false'] at hx
          rcases hx with hx | hx
          · exact absurd hl hx
          · exact hx
    · refine ⟨⟨by omega, by omega⟩, by omega, back (k + 1) (by omega) (by rw [wnext (by omega)]) ?_ ⟨by omega, fun q hq => ?_, ?_⟩⟩
      · rw [htk, app_append]; rfl
      · rw [htk, List.mem_append, List.mem_singleton] at hq
        rcases hq with hq | rfl
        · exact hrg q hq
        · omega
      · unfold LineWise
        rw [htk, List.pairwise_append]
        refine ⟨hlw, List.pairwise_singleton _ _, fun q hq r hr hl hf => ?_⟩
        rw [List.mem_singleton] at hr; subst hr
        rw [Bool.and_eq_false_iff, decide_eq_false_iff_not] at hc
        rcases hc with hc | hc
        · exact hall q (by rw [show j = k by omega]; exact hq) hl hf
        · have hf : r.fl = true := hf
          rw [hc] at hf; cases hf
  · obtain rfl : k = pend.length := by omega
    rw [List.take_length] at *
    have e : (app pend per).take per.length = app pend per := take_len _ (by rw [app_len]; exact Nat.le_refl _)
    rw [e]
    simp only [lamplighterref02_Numbers.C, go_sem, Nat.reduceEqDiff, Nat.reduceLT, Nat.reduceAdd, Nat.reduceSub, Nat.reduceLeDiff, List.reduceReplicate, Int.reduceToNat, app_len]
    refine ⟨s2, ?_⟩
    have : checkB vol per pend = decide (app pend per = vol) := by
      by_cases e : app pend per = vol
      · rw [decide_eq_true e, check_iff]
        exact ⟨hlen, by omega, hmd, fun p hp => by have := hrg p hp; omega, hlw, e⟩
      · rw [decide_eq_false e]
        cases c : checkB vol per pend with
        | false => rfl
        | true => exact absurd (check_iff.1 c).eq e
    rw [this]; exact post_val rfl rfl
def lamplighterref04_Put.C : Contract
  | [.agg [.sl false (.ints .i64 vol), .sl false (.ints .i64 per), .sl false (.pends pend)], .int .i64 at_, .int .i64 val] => some (false, pD (smallM vol per pend ∧ roomy (pend.length + 1)) (putM vol per pend at_ val))
  | _ => none
set_option maxRecDepth 20000 in
theorem lamplighterref04_Put.spec : FSpec Try.prog 108 lamplighterref04_Put.C := by
  refine FSpec.of (ctx_ok (F := [(106, lamplighterref04_Check.C), (126, lamplighterref04_set.C)]) (S := []) (by simpa using ⟨lamplighterref04_Check.spec, lamplighterref04_set.spec⟩) (by simp) lamplighterref04_Put.loops) lamplighterref04_Put.at lamplighterref04_Put.nm lamplighterref04_Put.bd ?_
  intro vs b S v news e hS
  unfold lamplighterref04_Put.C at e
  split at e
  rotate_left
  · cases e
  cases e
  rw [lamplighterref04_Put.eq]
  unfold lamplighterref04_Put.H
  simp (maxSteps := 4000000) only [go_sem, Nat.reduceEqDiff, Nat.reduceLT, Nat.reduceAdd, Nat.reduceSub, Nat.reduceLeDiff, List.reduceReplicate, Int.reduceToNat, lamplighterref04_Check.C, lamplighterref04_set.C]
  rename_i vol per pend at_ val
  obtain ⟨hS, hr⟩ := hS
  have e : (!checkB vol per pend || decide (at_ < 0) || decide ((vol.length : Int) ≤ at_)) = !placeB vol per pend at_ := by
    unfold placeB
    cases checkB vol per pend
    · simp
    · rw [Bool.eq_iff_iff]; simp only [Bool.and_eq_true, Bool.or_eq_true, Bool.not_eq_true', Bool.not_eq_false', Bool.not_eq_true, decide_eq_true_eq, decide_eq_false_iff_not, Bool.or_eq_false_iff, Bool.and_eq_false_iff, beq_iff_eq]; simp <;> omega
  rw [e]
  refine ⟨hS, fun h => ?_, fun h => ?_⟩
  · rw [Bool.not_eq_true'] at h
    unfold putM; rw [h]; exact post_val rfl rfl
  · rw [Bool.not_eq_false'] at h
    have hp : 0 ≤ at_ ∧ at_ < (vol.length : Int) := by
      simp only [placeB, Bool.and_eq_true, decide_eq_true_eq] at h
      exact h.1
    have hl : (pend ++ [(⟨at_, val, false⟩ : Pend)]).length = pend.length + 1 := by simp
    refine ⟨⟨hp.1, hp.2, hS.1⟩, hS.2.2, by rw [hl]; exact hr, rfl, rfl, ?_⟩
    unfold putM; simp only [h, if_true]
    refine post_val ?_ rfl
    simp only [go_sem, Nat.reduceEqDiff, Nat.reduceLT, Nat.reduceAdd, Nat.reduceSub, Nat.reduceLeDiff, List.reduceReplicate, Int.reduceToNat, List.take_length]
def lamplighterref04_Flush.C : Contract
  | [.agg [.sl false (.ints .i64 vol), .sl false (.ints .i64 per), .sl false (.pends pend)], .int .i64 line] => some (false, pD (smallM vol per pend) (flushM vol per pend line))
  | _ => none
set_option maxRecDepth 20000 in
theorem lamplighterref04_Flush.spec : FSpec Try.prog 109 lamplighterref04_Flush.C := by
  refine FSpec.of (ctx_ok (F := [(106, lamplighterref04_Check.C), (127, lamplighterref04_line.C)]) (S := []) (by simpa using ⟨lamplighterref04_Check.spec, lamplighterref04_line.spec⟩) (by simp) lamplighterref04_Flush.loops) lamplighterref04_Flush.at lamplighterref04_Flush.nm lamplighterref04_Flush.bd ?_
  intro vs b S v news e hS
  unfold lamplighterref04_Flush.C at e
  split at e
  rotate_left
  · cases e
  cases e
  rw [lamplighterref04_Flush.eq]
  unfold lamplighterref04_Flush.H
  simp (maxSteps := 4000000) only [go_sem, Nat.reduceEqDiff, Nat.reduceLT, Nat.reduceAdd, Nat.reduceSub, Nat.reduceLeDiff, List.reduceReplicate, Int.reduceToNat, lamplighterref04_Check.C, lamplighterref04_line.C]
  rename_i vol per pend line
  rw [place_first (vol := vol) hS]
  obtain ⟨s1, s2, s3⟩ := hS
  refine ⟨⟨s1, s2, s3⟩, fun _ => s1, fun h => ?_, fun h => ?_⟩
  · rw [Bool.not_eq_true'] at h
    unfold flushM; rw [h]; exact post_val rfl rfl
  rw [Bool.not_eq_false'] at h
  unfold roomy at s1 s2 s3
  rw [joinW_eq]
  unfold lamplighterref04_Flush.L1
  refine loop1 (σ := Nat × Nat) (fun s => .int .i64 s.1) (fun s => [.box (memV vol per pend), .box (memV [] [] []), .box (.agg [.sl false (.ints .i64 vol), .sl false (.ints .i64 per), .sref false 3 s.2 0 s.1]), .row .own s.2 (.pends (flushP line (pend.take s.1)))]) (fun s => pend.length - s.1) (fun s => s.1 ≤ pend.length) (0, 0) rfl rfl (Nat.zero_le _) ?_
  rintro I back ⟨k, v⟩ hk
  simp only [] at hk ⊢
  have hfl : (flushP line (pend.take k)).length = k := by unfold flushP; simp; omega
  have hsn : ∀ p : Pend, flushP line [p] = [⟨p.at_, p.val, p.fl || decide (lineOf p.at_ = line)⟩] := fun p => by
    unfold flushP
    by_cases e : lineOf p.at_ = line <;> simp [e]
  have happ : ∀ a b : List Pend, flushP line (a ++ b) = flushP line a ++ flushP line b := fun a b => by unfold flushP; simp
  simp only [go_sem, Nat.reduceEqDiff, Nat.reduceLT, Nat.reduceAdd, Nat.reduceSub, Nat.reduceLeDiff, List.reduceReplicate, Int.reduceToNat, hfl]
  refine ⟨fun hlt => ⟨by omega, fun _ => by decide, ?_⟩, fun hge => ?_⟩
  · have hkl : k < pend.length := by omega
    have hnx : flushP line (pend.take (k + 1)) = flushP line (pend.take k) ++ [⟨(pend.getD k ⟨0, 0, false⟩).at_, (pend.getD k ⟨0, 0, false⟩).val, (pend.getD k ⟨0, 0, false⟩).fl || decide (lineOf (pend.getD k ⟨0, 0, false⟩).at_ = line)⟩] := by
      rw [take_next pend k ⟨0, 0, false⟩ hkl, happ, hsn]
    have hl1 : (flushP line (pend.take (k + 1))).length = k + 1 := by unfold flushP; simp; omega
    unfold lineOf at hnx
    rw [← hnx, hl1]
    exact ⟨by unfold roomy; omega, back (k + 1, v + 1) (by show _ - (k + 1) < _ - k; omega) (by rw [wnext (by omega)]) rfl (by omega)⟩
  · obtain rfl : k = pend.length := by omega
    rw [List.take_length] at hfl ⊢
    unfold flushM
    simp only [h, if_true]
    refine post_val ?_ rfl
    simp only [go_sem, Nat.reduceEqDiff, Nat.reduceLT, Nat.reduceAdd, Nat.reduceSub, Nat.reduceLeDiff, List.reduceReplicate, Int.reduceToNat, take_len _ (Nat.le_of_eq hfl)]
def keptB : List Bool → List Pend → List Pend
  | true :: bs, p :: ps => p :: keptB bs ps
  | false :: bs, p :: ps => keptB bs ps
  | _, _ => []
def restB : List Bool → List Pend → List Pend
  | true :: bs, p :: ps => restB bs ps
  | false :: bs, p :: ps => p :: restB bs ps
  | _, _ => []
theorem keptB_map (f : Pend → Bool) : ∀ l : List Pend, keptB (l.map f) l = l.filter f
  | [] => rfl
  | p :: r => by
    have ih := keptB_map f r
    cases h : f p <;> simp [h, keptB, ih]
theorem restB_map (f : Pend → Bool) : ∀ l : List Pend, restB (l.map f) l = keepP f l
  | [] => rfl
  | p :: r => by
    have ih := restB_map f r
    unfold keepP at ih ⊢
    cases h : f p <;> simp [h, restB, ih]
theorem kept_snoc (b : Bool) (p : Pend) : ∀ (bs : List Bool) (l : List Pend), bs.length = l.length → keptB (bs ++ [b]) (l ++ [p]) = (match b with | true => keptB bs l ++ [p] | false => keptB bs l) ∧ restB (bs ++ [b]) (l ++ [p]) = (match b with | true => restB bs l | false => restB bs l ++ [p])
  | [], [], _ => by cases b <;> exact ⟨rfl, rfl⟩
  | [], _ :: _, h => by cases h
  | _ :: _, [], h => by cases h
  | c :: bs, q :: l, h => by
    have ih := kept_snoc b p bs l (by simpa using h)
    cases c <;> cases b <;> simp [keptB, restB, ih.1, ih.2]
theorem restB_len : ∀ (bs : List Bool) (l : List Pend), (restB bs l).length ≤ l.length
  | [], l => by simp [restB]
  | b :: bs, [] => by simp [restB]
  | b :: bs, p :: l => by
    have := restB_len bs l
    cases b <;> simp [restB] <;> omega
def lamplighterref04_keep.C : Contract
  | [.agg [.sl false (.ints .i64 vol), .sl false (.ints .i64 per), .sl false (.pends pend)], .sl _ (.bools those)] => some (false, pD (smallM vol per pend ∧ those.length = pend.length ∧ ∀ p ∈ pend, 0 ≤ p.at_ ∧ p.at_ < (per.length : Int)) (memV vol (app (keptB those pend) per) (restB those pend)))
  | _ => none
set_option maxRecDepth 20000 in
theorem lamplighterref04_keep.spec : FSpec Try.prog 128 lamplighterref04_keep.C := by
  refine FSpec.of (ctx_ok (F := [(126, lamplighterref04_set.C)]) (S := []) (by simpa using lamplighterref04_set.spec) (by simp) lamplighterref04_keep.loops) lamplighterref04_keep.at lamplighterref04_keep.nm lamplighterref04_keep.bd ?_
  intro vs b S v news e hS
  unfold lamplighterref04_keep.C at e
  split at e
  rotate_left
  · cases e
  cases e
  rw [lamplighterref04_keep.eq]
  unfold lamplighterref04_keep.H
  simp (maxSteps := 4000000) only [go_sem, Nat.reduceEqDiff, Nat.reduceLT, Nat.reduceAdd, Nat.reduceSub, Nat.reduceLeDiff, List.reduceReplicate, Int.reduceToNat, lamplighterref04_set.C]
  rename_i vol per pend _ those
  obtain ⟨⟨s1, s2, s3⟩, hl, hrange⟩ := hS
  unfold roomy at s1 s2 s3
  rw [joinW_eq]
  unfold lamplighterref04_keep.L1
  refine loop1 (σ := Nat × Nat) (fun s => .int .i64 s.1) (fun s => [.box (memV vol per pend), .box (memV [] [] []), .box (.agg [.sl false (.ints .i64 vol), .sl false (.ints .i64 (app (keptB (those.take s.1) (pend.take s.1)) per)), .sref false 3 s.2 0 (restB (those.take s.1) (pend.take s.1)).length]), .row .own s.2 (.pends (restB (those.take s.1) (pend.take s.1)))]) (fun s => pend.length - s.1)
    (fun s => s.1 ≤ pend.length) (0, 0) rfl ?_ (Nat.zero_le _) ?_
  · simp only [List.take_zero]; rfl
  rintro I back ⟨k, v⟩ hk
  simp only [] at hk ⊢
  have hrl := restB_len (those.take k) (pend.take k)
  rw [List.length_take] at hrl
  simp only [go_sem, Nat.reduceEqDiff, Nat.reduceLT, Nat.reduceAdd, Nat.reduceSub, Nat.reduceLeDiff, List.reduceReplicate, Int.reduceToNat, app_len]
  refine ⟨fun hlt => ⟨by omega, ?_⟩, fun hge => ?_⟩
  · have hkl : k < pend.length := by omega
    have hr := hrange _ (getD_mem pend k ⟨0, 0, false⟩ hkl)
    have hs := kept_snoc (those.getD k false) (pend.getD k ⟨0, 0, false⟩) (those.take k) (pend.take k) (by simp; omega)
    rw [← take_next pend k ⟨0, 0, false⟩ hkl, ← take_next those k false (by omega)] at hs
    generalize pend.getD k ⟨0, 0, false⟩ = p at *
    generalize those.getD k false = b at *
    rw [joinW_eq]
    refine ⟨fun hb => ⟨by omega, by omega, ?_⟩, fun hb => ⟨by omega, ?_, ?_⟩⟩
    · subst hb
      simp only [lamplighterref04_set.C, go_sem, Nat.reduceEqDiff, Nat.reduceLT, Nat.reduceAdd, Nat.reduceSub, Nat.reduceLeDiff, List.reduceReplicate, Int.reduceToNat, app_len]
      refine ⟨⟨hr.1, hr.2, s2⟩, back (k + 1, v) (by show _ - (k + 1) < _ - k; omega) (by rw [wnext (by omega)]) ?_ (by show k + 1 ≤ _; omega)⟩
      simp only [hs, app_append, app, memV]
    · unfold roomy; simp; omega
    · subst hb
      simp only [go_sem, Nat.reduceEqDiff, Nat.reduceLT, Nat.reduceAdd, Nat.reduceSub, Nat.reduceLeDiff, List.reduceReplicate, Int.reduceToNat]
      refine back (k + 1, v + 1) (by show _ - (k + 1) < _ - k; omega) (by rw [wnext (by omega)]) ?_ (by show k + 1 ≤ _; omega)
      simp only [hs, memV]
  · obtain rfl : k = pend.length := by omega
    rw [List.take_length, ← hl, List.take_length]
    refine post_val ?_ rfl
    simp only [go_sem, Nat.reduceEqDiff, Nat.reduceLT, Nat.reduceAdd, Nat.reduceSub, Nat.reduceLeDiff, List.reduceReplicate, Int.reduceToNat, List.take_length]
theorem placeB_line {vol per : List Int} {pend : List Pend} {line : Int} (hs : smallM vol per pend) : (!checkB vol per pend || !(decide (0 ≤ line) && decide (line < ((vol.length / 8 : Nat) : Int)))) = !placeB vol per pend (firstI vol line) := place_first hs line
def lamplighterref04_Fence.C : Contract
  | [.agg [.sl false (.ints .i64 vol), .sl false (.ints .i64 per), .sl false (.pends pend)]] => some (false, pD (smallM vol per pend) (fenceM fFl (checkB vol per pend) vol per pend))
  | _ => none
set_option maxRecDepth 20000 in
theorem lamplighterref04_Fence.spec : FSpec Try.prog 110 lamplighterref04_Fence.C := by
  refine FSpec.of (ctx_ok (F := [(106, lamplighterref04_Check.C), (128, lamplighterref04_keep.C)]) (S := []) (by simpa using ⟨lamplighterref04_Check.spec, lamplighterref04_keep.spec⟩) (by simp) lamplighterref04_Fence.loops) lamplighterref04_Fence.at lamplighterref04_Fence.nm lamplighterref04_Fence.bd ?_
  intro vs b S v news e hS
  unfold lamplighterref04_Fence.C at e
  split at e
  rotate_left
  · cases e
  cases e
  rw [lamplighterref04_Fence.eq]
  unfold lamplighterref04_Fence.H
  simp (maxSteps := 4000000) only [go_sem, Nat.reduceEqDiff, Nat.reduceLT, Nat.reduceAdd, Nat.reduceSub, Nat.reduceLeDiff, List.reduceReplicate, Int.reduceToNat, lamplighterref04_Check.C, lamplighterref04_keep.C]
  rename_i vol per pend
  refine ⟨hS, fun h => ?_, fun h => ?_⟩
  · unfold fenceM; rw [h]; exact post_val rfl rfl
  have hrange := check_range h
  obtain ⟨s1, s2, s3⟩ := hS
  unfold roomy at s1 s2 s3
  rw [joinW_eq]
  unfold lamplighterref04_Fence.L1
  refine loop2 (σ := Nat × Nat) (fun s => .sref false 2 s.2 0 s.1) (fun s => .int .i64 s.1) (fun s => [.box (memV vol per pend), .box (memV [] [] []), .row .own s.2 (.bools ((pend.take s.1).map (fFl)))]) (fun s => pend.length - s.1) (fun s => s.1 ≤ pend.length) (0, 0) rfl rfl (Nat.zero_le _) ?_
  rintro I back ⟨k, v⟩ hk
  simp only [] at hk ⊢
  have hml : ((pend.take k).map (fFl)).length = k := by simp; omega
  simp only [go_sem, Nat.reduceEqDiff, Nat.reduceLT, Nat.reduceAdd, Nat.reduceSub, Nat.reduceLeDiff, List.reduceReplicate, Int.reduceToNat, hml]
  refine ⟨fun hlt => ?_, fun hge => ?_⟩
  · have hkl : k < pend.length := by omega
    have hnx : (pend.take (k + 1)).map (fFl) = (pend.take k).map (fFl) ++ [(fFl) (pend.getD k ⟨0, 0, false⟩)] := by rw [take_next pend k ⟨0, 0, false⟩ hkl, List.map_append]; rfl
    have hl1 : ((pend.take (k + 1)).map (fFl)).length = k + 1 := by simp; omega
    refine ⟨by omega, ?_, ?_⟩
    · unfold roomy; simp; omega
    · refine back (k + 1, v + 1) (by show _ - (k + 1) < _ - k; omega) ?_ ?_ (by show k + 1 ≤ _; omega)
      · rw [wnext (by omega)]; simp; omega
      · rw [hnx]; rfl
  · obtain rfl : k = pend.length := by omega
    rw [List.take_length] at *
    simp only [lamplighterref04_keep.C, go_sem, Nat.reduceEqDiff, Nat.reduceLT, Nat.reduceAdd, Nat.reduceSub, Nat.reduceLeDiff, List.reduceReplicate, Int.reduceToNat, take_len _ (Nat.le_of_eq hml), hml]
    refine ⟨⟨⟨s1, s2, s3⟩, hrange⟩, ?_⟩
    unfold fenceM; simp only [h, if_true]
    rw [keptB_map, restB_map, ← keepW_app]
    exact post_val rfl rfl
/-- how many of a line -/
def cntL (L : Int) (l : List Pend) : Nat := (l.filter (fLn L)).length
theorem cntL_snoc (L : Int) (l : List Pend) (p : Pend) : cntL L (l ++ [p]) = cntL L l + (if lineOf p.at_ = L then 1 else 0) := by
  unfold cntL fLn
  rw [List.filter_append, List.length_append]
  by_cases e : lineOf p.at_ = L <;> simp [e]
/-- those that a crash keeps, told one by one -/
def thoseL (keep : List Int) : List Pend → List Pend → List Bool
  | _, [] => []
  | pre, p :: r => decide ((cntL (lineOf p.at_) pre : Int) < leftF keep (lineOf p.at_)) :: thoseL keep (pre ++ [p]) r
theorem thoseL_len (keep : List Int) : ∀ (r pre : List Pend), (thoseL keep pre r).length = r.length
  | [], _ => rfl
  | p :: r, pre => by simp [thoseL, thoseL_len keep r]
theorem thoseL_crash (keep : List Int) : ∀ (r pre : List Pend) (left : Int → Int), (∀ j, (left j).toNat = (leftF keep j).toNat - cntL j pre) → keptB (thoseL keep pre r) r = crashK r left
  | [], _, _, _ => rfl
  | p :: r, pre, left, h => by
    have ih := thoseL_crash keep r (pre ++ [p]) (lessL p left) fun j => by
      rw [cntL_snoc]
      have := h j
      unfold lessL
      by_cases e : lineOf p.at_ = j
      · subst e
        rw [if_pos rfl, if_pos rfl]
        split <;> omega
      · rw [if_neg (fun h => e h.symm), if_neg e]; omega
    have hb : decide ((cntL (lineOf p.at_) pre : Int) < leftF keep (lineOf p.at_)) = decide (0 < left (lineOf p.at_)) := by
      have := h (lineOf p.at_)
      exact decide_eq_decide.2 ⟨fun h => by omega, fun h => by omega⟩
    rw [thoseL, crashK, hb]
    cases decide (0 < left (lineOf p.at_)) <;> simp [keptB, ih]
theorem thoseL_append (keep : List Int) : ∀ (a b pre : List Pend), thoseL keep pre (a ++ b) = thoseL keep pre a ++ thoseL keep (pre ++ a) b
  | [], b, pre => by simp [thoseL]
  | p :: a, b, pre => by
    rw [List.cons_append, thoseL, thoseL_append keep a b, thoseL, List.cons_append, List.append_assoc]; rfl
def lamplighterref04_Crash.C : Contract
  | [.agg [.sl false (.ints .i64 vol), .sl false (.ints .i64 per), .sl false (.pends pend)], .sl _ (.ints .i64 keep)] => some (false, pD (smallM vol per pend ∧ roomy keep.length) (crashM (checkB vol per pend) keep per pend))
  | _ => none
set_option maxRecDepth 20000 in
theorem lamplighterref04_Crash.spec : FSpec Try.prog 112 lamplighterref04_Crash.C := by
  refine FSpec.of (ctx_ok (F := [(106, lamplighterref04_Check.C), (128, lamplighterref04_keep.C)]) (S := []) (by simpa using ⟨lamplighterref04_Check.spec, lamplighterref04_keep.spec⟩) (by simp) lamplighterref04_Crash.loops) lamplighterref04_Crash.at lamplighterref04_Crash.nm lamplighterref04_Crash.bd ?_
  intro vs b S v news e hS
  unfold lamplighterref04_Crash.C at e
  split at e
  rotate_left
  · cases e
  cases e
  rw [lamplighterref04_Crash.eq]
  unfold lamplighterref04_Crash.H
  simp (maxSteps := 4000000) only [go_sem, Nat.reduceEqDiff, Nat.reduceLT, Nat.reduceAdd, Nat.reduceSub, Nat.reduceLeDiff, List.reduceReplicate, Int.reduceToNat, lamplighterref04_Check.C, lamplighterref04_keep.C]
  rename_i vol per pend _ keep
  obtain ⟨hS, hr⟩ := hS
  refine ⟨hS, fun h => ?_, fun h => ?_⟩
  · unfold crashM; rw [h]; exact post_val rfl rfl
  have hrange := check_range h
  have hsz := (check_iff.1 h).sz
  have hln := (check_iff.1 h).len
  obtain ⟨s1, s2, s3⟩ := hS
  unfold roomy at s1 s2 s3 hr
  rw [joinW_eq]
  unfold lamplighterref04_Crash.L1
  refine loop2 (σ := Nat × Nat) (fun s => .sref false 1 s.2 0 s.1) (fun s => .int .i64 s.1) (fun s => [.box (memV vol per pend), .row .own s.2 (.bools (thoseL keep [] (pend.take s.1)))]) (fun s => pend.length - s.1) (fun s => s.1 ≤ pend.length) (0, 0) rfl rfl (Nat.zero_le _) ?_
  rintro I back ⟨k, v⟩ hk
  simp only [] at hk ⊢
  have hml : (thoseL keep [] (pend.take k)).length = k := by rw [thoseL_len]; simp; omega
  simp only [go_sem, Nat.reduceEqDiff, Nat.reduceLT, Nat.reduceAdd, Nat.reduceSub, Nat.reduceLeDiff, List.reduceReplicate, Int.reduceToNat, hml]
  refine ⟨fun hlt => ?_, fun hge => ?_⟩
  · have hkl : k < pend.length := by omega
    have hrp := hrange _ (getD_mem pend k ⟨0, 0, false⟩ hkl)
    have hnx : thoseL keep [] (pend.take (k + 1)) = thoseL keep [] (pend.take k) ++ [decide ((cntL (lineOf (pend.getD k ⟨0, 0, false⟩).at_) (pend.take k) : Int) < leftF keep (lineOf (pend.getD k ⟨0, 0, false⟩).at_))] := by rw [take_next pend k ⟨0, 0, false⟩ hkl, thoseL_append]; rfl
    generalize pend.getD k ⟨0, 0, false⟩ = p at *
    refine ⟨by omega, by decide, ?_⟩
    rw [joinW_eq]
    unfold lamplighterref04_Crash.L2
    refine loop2 (σ := Nat) (fun j => .int .i64 (cntL (lineOf p.at_) (pend.take j) : Nat)) (fun j => .int .i64 j) (fun _ => [.box (memV vol per pend), .row .own v (.bools (thoseL keep [] (pend.take k)))]) (fun j => k - j) (fun j => j ≤ k) 0 rfl rfl (Nat.zero_le _) ?_
    rintro I2 back2 j hj
    simp only [go_sem, Nat.reduceEqDiff, Nat.reduceLT, Nat.reduceAdd, Nat.reduceSub, Nat.reduceLeDiff, List.reduceReplicate, Int.reduceToNat, hml]
    have hc0 : ∀ j, j ≤ pend.length → cntL (lineOf p.at_) (pend.take j) ≤ j := fun j hj => Nat.le_trans (List.length_filter_le _ _) (by simp; omega)
    refine ⟨fun hjk => ⟨by omega, by decide, ?_⟩, fun hjk => ?_⟩
    · have hcn := cntL_snoc (lineOf p.at_) (pend.take j) (pend.getD j ⟨0, 0, false⟩)
      rw [← take_next pend j ⟨0, 0, false⟩ (by omega)] at hcn
      have hcj := hc0 j (by omega)
      rw [joinW_eq]
      refine ⟨fun hl => ?_, fun hl => ?_⟩
      · have hl : lineOf (pend.getD j ⟨0, 0, false⟩).at_ = lineOf p.at_ := hl
        rw [if_pos hl] at hcn
        simp only [go_sem, Nat.reduceEqDiff, Nat.reduceLT, Nat.reduceAdd, Nat.reduceSub, Nat.reduceLeDiff, List.reduceReplicate, Int.reduceToNat]
        refine back2 (j + 1) (by omega) ?_ rfl (by omega)
        rw [wnext (by omega), wnext (by omega), hcn]
      · have hl : ¬ lineOf (pend.getD j ⟨0, 0, false⟩).at_ = lineOf p.at_ := hl
        rw [if_neg hl] at hcn
        simp only [go_sem, Nat.reduceEqDiff, Nat.reduceLT, Nat.reduceAdd, Nat.reduceSub, Nat.reduceLeDiff, List.reduceReplicate, Int.reduceToNat]
        refine back2 (j + 1) (by omega) ?_ rfl (by omega)
        rw [wnext (by omega), hcn]; rfl
    · obtain rfl : j = k := by omega
      have hL : lineOf p.at_ = p.at_ / 8 := lineOf_eq (by omega) (by omega)
      have hw : IntKind.i64.wrap ((keep.length : Int) - 1) = (keep.length : Int) - 1 := w64 (by omega) (by omega)
      have hdec : (decide (lineOf p.at_ < (keep.length : Int)) && decide ((cntL (lineOf p.at_) (pend.take j) : Int) < keep.getD (if (keep.length : Int) - 1 < lineOf p.at_ then (keep.length : Int) - 1 else lineOf p.at_).toNat 0)) = decide ((cntL (lineOf p.at_) (pend.take j) : Int) < leftF keep (lineOf p.at_)) := by
        unfold leftF
        have h0 : 0 ≤ lineOf p.at_ := by omega
        rw [if_pos h0]
        by_cases e : lineOf p.at_ < (keep.length : Int)
        · rw [if_neg (show ¬ (keep.length : Int) - 1 < lineOf p.at_ by omega), decide_eq_true e, Bool.true_and]
        · rw [decide_eq_false e, Bool.false_and, List.getD_eq_getElem?_getD, List.getElem?_eq_none (by omega)]
          exact (decide_eq_false (by simp)).symm
      rw [hw]
      have hl1 : (thoseL keep [] (pend.take (j + 1))).length = j + 1 := by rw [thoseL_len]; simp; omega
      have hfold : IntKind.i64.wrap (p.at_.tdiv 8) = lineOf p.at_ := rfl
      rw [hfold, hdec, ← hnx, hl1]
      refine ⟨fun hlt => ?_, by unfold roomy; omega, back (j + 1, v + 1) (by show _ - (j + 1) < _ - j; omega) (by rw [wnext (by omega)]) rfl (by show j + 1 ≤ _; omega)⟩
      rw [hL] at hlt ⊢
      split <;> omega
  · obtain rfl : k = pend.length := by omega
    rw [List.take_length] at *
    simp only [lamplighterref04_keep.C, go_sem, Nat.reduceEqDiff, Nat.reduceLT, Nat.reduceAdd, Nat.reduceSub, Nat.reduceLeDiff, List.reduceReplicate, Int.reduceToNat, take_len _ (Nat.le_of_eq hml), hml]
    refine ⟨⟨⟨s1, s2, s3⟩, hrange⟩, ?_⟩
    rw [thoseL_crash keep pend [] (leftF keep) fun j => rfl]
    unfold crashM; simp only [h, if_true]
    exact post_val rfl rfl
end Lam
namespace Lam
open Go Go.Proofs
set_option linter.unusedVariables false
def lamplighterref05_Same.loops : Nat → LInfo
  | 4 => ⟨[5], [false], [0, 1], [], []⟩
  | _ => ⟨[], [], [], [], []⟩
def lamplighterref05_Same.L1 (c : Ctx) (J1 : List AObj → Prop) (K : AOut → List AObj → Prop) (lv : List AV) (h0 : List AObj) (n0 : Nat) (c0 : AV) (c1 : AV) : Prop :=
  ∃ I : Nat → List AV → List AObj → Prop, (∃ n, I n lv h0) ∧ ∀ n h, ∀ t5, I n [t5] h →
    runD (lenD T_sl_api_Micro h c0) h fun t13 h =>
    runD (binD T_int .lss t5 t13) h fun t14 h =>
    condW t14
    (runD (indexAddrD T_sl_api_Micro h c0 t5) h fun t19 h =>
    runD (fitD T_api_Micro (loadD h t19)) h fun t20 h =>
    runD (indexAddrD T_sl_api_Micro h c1 t5) h fun t23 h =>
    runD (fitD T_api_Micro (loadD h t23)) h fun t24 h =>
    runD (binD T_api_Micro .neq t20 t24) h fun t25 h =>
    condW t25
    (K (.ret (.bool false)) h)
    (runD (binD T_int .add t5 (.int .i64 1)) h fun t16 h =>
    (∃ m, m < n ∧ I m (AV.norms n0 h [t16]) (normH n0 h)) ∧ AV.norms n0 h [c0, c1] = [c0, c1]))
    (J1 h)
def lamplighterref05_Same.H (c : Ctx) (t0 : AV) (t1 : AV) (h : List AObj) (K : AOut → List AObj → Prop) : Prop :=
  runD (lenD T_sl_api_Micro h t0) h fun t7 h =>
  runD (lenD T_sl_api_Micro h t1) h fun t9 h =>
  runD (binD T_int .neq t7 t9) h fun t10 h =>
  condW t10
  (K (.ret (.bool false)) h)
  (joinW (fun (J1 : List AObj → Prop) =>
  promV [false] [(.int .i64 0)] h fun lv h => lamplighterref05_Same.L1 c J1 K (AV.norms h.length h lv) (normH h.length h) h.length (AV.norm h.length h t0) (AV.norm h.length h t1))
  (fun h => K (.ret (.bool true)) h))
def lamplighterref05_Run.loops : Nat → LInfo
  | 3 => ⟨[], [], [], [(3, none), (2, some [20, 22])], []⟩
  | 6 => ⟨[8], [false], [1, 2, 4], [], []⟩
  | _ => ⟨[], [], [], [], []⟩
def lamplighterref05_Run.L1 (c : Ctx) (J2 : AV → AV → List AObj → Prop) (K : AOut → List AObj → Prop) (lv : List AV) (h0 : List AObj) (n0 : Nat) (c1 : AV) (c2 : AV) (c4 : AV) : Prop :=
  ∃ I : Nat → List AV → List AObj → Prop, (∃ n, I n lv h0) ∧ ∀ n h, ∀ t8, I n [t8] h →
    runD (lenD T_sl_api_Micro h c1) h fun t27 h =>
    runD (binD T_int .lss t8 t27) h fun t28 h =>
    condW t28
    (runD (fitD T_api_Mem (loadD h c2)) h fun t32 h =>
    runD (indexAddrD T_sl_api_Micro h c1 t8) h fun t35 h =>
    runD (fitD T_api_Micro (loadD h t35)) h fun t36 h =>
    callW c.noS (.fn (.func 66) [] []) [t32, t36] h (fun t37 h =>
    runD (extractD t37 0) h fun t38 h =>
    runD (extractD t37 1) h fun t39 h =>
    allocW T_api_Mem h fun t9 h =>
    runH (storeH T_api_Mem h t9 t38) h fun _ h =>
    runD (fitD T_api_Mem (loadD h t9)) h fun t40 h =>
    runH (storeH T_api_Mem h c2 t40) h fun _ h =>
    runD (binD T_int .add t8 (.int .i64 1)) h fun t30 h =>
    (∃ m, m < n ∧ I m (AV.norms n0 h [t30]) (normH n0 h)) ∧ AV.norms n0 h [c1, c2, c4] = [c1, c2, c4])
    (fun _ _ => False))
    (J2 c2 c4 h)
def lamplighterref05_Run.H (c : Ctx) (t0 : AV) (t1 : AV) (h : List AObj) (K : AOut → List AObj → Prop) : Prop :=
  boxW T_api_Mem t0 h fun t2 h =>
  allocW T_api_Mem h fun t4 h =>
  runD (fitD T_api_Mem (loadD h t2)) h fun t11 h =>
  callW c (.fn (.func 106) [] []) [t11] h (fun t12 h =>
  runD (fieldAddrD T_api_Mem t2 0) h fun t14 h =>
  runD (fitD T_sl_int (loadD h t14)) h fun t15 h =>
  runD (lenD T_sl_int h t15) h fun t16 h =>
  callW c (.fn (.func 71) [] []) [t1, t16] h (fun t17 h =>
  runD (unD .not t12) h fun t19 h =>
  joinW (fun (J1 : AV → AV → List AObj → Prop) =>
  guardW t19 false
  (runD (unD .not t17) h fun t22 h =>
    J1 (.bool false) t22 h)
  (J1 (.bool true) .und h))
  (fun t20 t22 h => runD (pickD t20 (.bool true) t22) h fun t23 h =>
  condW t23
  (runD (fitD T_api_Mem (loadD h t2)) h fun t24 h =>
    runH (storeH T_api_Mem h t4 t24) h fun _ h =>
    loadRes (fitD T_api_Mem (loadD h t4)) fun r0 => K (.ret (.tup [r0, (.int .i64 40)])) h)
  (joinW (fun (J2 : AV → AV → List AObj → Prop) =>
  promV [false] [(.int .i64 0)] h fun lv h => lamplighterref05_Run.L1 c J2 K (AV.norms h.length h lv) (normH h.length h) h.length (AV.norm h.length h t1) (AV.norm h.length h t2) (AV.norm h.length h t4))
  (fun t2 t4 h => runD (fitD T_api_Mem (loadD h t2)) h fun t41 h =>
  runH (storeH T_api_Mem h t4 t41) h fun _ h =>
  loadRes (fitD T_api_Mem (loadD h t4)) fun r0 => K (.ret (.tup [r0, (.int .i64 0)])) h))))
  (fun v h => K (.pan v) h))
  (fun v h => K (.pan v) h)
def lamplighterref05_Do.loops : Nat → LInfo
  | 2 => ⟨[], [], [], [(3, none), (6, some [13, 19])], []⟩
  | _ => ⟨[], [], [], [], []⟩
def lamplighterref05_Do.H (c : Ctx) (t0 : AV) (t1 : AV) (h : List AObj) (K : AOut → List AObj → Prop) : Prop :=
  boxW T_api_Mem t0 h fun t2 h =>
  boxW T_api_Micro t1 h fun t3 h =>
  allocW T_api_Mem h fun t4 h =>
  runD (fitD T_api_Mem (loadD h t2)) h fun t9 h =>
  callW c (.fn (.func 106) [] []) [t9] h (fun t10 h =>
  runD (unD .not t10) h fun t12 h =>
  joinW (fun (J1 : AV → AV → List AObj → Prop) =>
  guardW t12 false
  (runD (fitD T_api_Micro (loadD h t3)) h fun t14 h =>
    runD (fieldAddrD T_api_Mem t2 0) h fun t15 h =>
    runD (fitD T_sl_int (loadD h t15)) h fun t16 h =>
    runD (lenD T_sl_int h t16) h fun t17 h =>
    callW c (.fn (.func 107) [] []) [t14, t17] h (fun t18 h =>
    runD (unD .not t18) h fun t19 h =>
    J1 (.bool false) t19 h)
    (fun v h => K (.pan v) h))
  (J1 (.bool true) .und h))
  (fun t13 t19 h => runD (pickD t13 (.bool true) t19) h fun t20 h =>
  condW t20
  (runD (fitD T_api_Mem (loadD h t2)) h fun t21 h =>
    runH (storeH T_api_Mem h t4 t21) h fun _ h =>
    loadRes (fitD T_api_Mem (loadD h t4)) fun r0 => K (.ret (.tup [r0, (.int .i64 40)])) h)
  (runD (fieldAddrD T_api_Micro t3 0) h fun t22 h =>
  runD (fitD T_int (loadD h t22)) h fun t23 h =>
  runD (binD T_int .eql t23 (.int .i64 1)) h fun t24 h =>
  condW t24
  (runD (fitD T_api_Mem (loadD h t2)) h fun t25 h =>
    runD (fieldAddrD T_api_Micro t3 1) h fun t26 h =>
    runD (fitD T_int (loadD h t26)) h fun t27 h =>
    runD (fieldAddrD T_api_Micro t3 2) h fun t28 h =>
    runD (fitD T_int (loadD h t28)) h fun t29 h =>
    callW c (.fn (.func 108) [] []) [t25, t27, t29] h (fun t30 h =>
    runD (extractD t30 0) h fun t31 h =>
    runD (extractD t30 1) h fun t32 h =>
    runH (storeH T_api_Mem h t4 t31) h fun _ h =>
    loadRes (fitD T_api_Mem (loadD h t4)) fun r0 => K (.ret (.tup [r0, t32])) h)
    (fun v h => K (.pan v) h))
  (runD (fitD T_api_Mem (loadD h t2)) h fun t34 h =>
  runD (fieldAddrD T_api_Micro t3 1) h fun t35 h =>
  runD (fitD T_int (loadD h t35)) h fun t36 h =>
  callW c (.fn (.func 109) [] []) [t34, t36] h (fun t37 h =>
  runD (extractD t37 0) h fun t38 h =>
  runD (extractD t37 1) h fun t39 h =>
  allocW T_api_Mem h fun t7 h =>
  runH (storeH T_api_Mem h t7 t38) h fun _ h =>
  runD (fitD T_api_Mem (loadD h t7)) h fun t40 h =>
  callW c (.fn (.func 110) [] []) [t40] h (fun t41 h =>
  runD (extractD t41 0) h fun t42 h =>
  runD (extractD t41 1) h fun t43 h =>
  runH (storeH T_api_Mem h t4 t42) h fun _ h =>
  loadRes (fitD T_api_Mem (loadD h t4)) fun r0 => K (.ret (.tup [r0, t43])) h)
  (fun v h => K (.pan v) h))
  (fun v h => K (.pan v) h)))))
  (fun v h => K (.pan v) h)
def lamplighterref05_Crash.loops : Nat → LInfo
  | _ => ⟨[], [], [], [], []⟩
def lamplighterref05_Crash.H (c : Ctx) (t0 : AV) (t1 : AV) (t2 : AV) (t3 : AV) (h : List AObj) (K : AOut → List AObj → Prop) : Prop :=
  boxW T_api_Mem t0 h fun t4 h =>
  runD (fitD T_api_Mem (loadD h t4)) h fun t16 h =>
  callW c (.fn (.func 64) [] []) [t16, t1] h (fun t18 h =>
  runD (extractD t18 0) h fun t19 h =>
  runD (extractD t18 1) h fun t20 h =>
  allocW T_api_Mem h fun t10 h =>
  runH (storeH T_api_Mem h t10 t19) h fun _ h =>
  runD (binD T_api_Errno .neq t20 (.int .i64 0)) h fun t22 h =>
  condW t22
  (K (.ret (.tup [(.sl true (.ints .i64 [])), t20])) h)
  (runD (lenD T_sl_api_Micro h t1) h fun t26 h =>
  runD (minD t2 t26) h fun t27 h =>
  runD (maxD (.int .i64 0) t27) h fun t28 h =>
  runD (fitD T_api_Mem (loadD h t4)) h fun t30 h =>
  runD (sliceD T_sl_api_Micro h t1 none (some t28) none) h fun t33 h =>
  callW c.noS (.fn (.func 64) [] []) [t30, t33] h (fun t34 h =>
  runD (extractD t34 0) h fun t35 h =>
  runD (extractD t34 1) h fun t36 h =>
  allocW T_api_Mem h fun t13 h =>
  runH (storeH T_api_Mem h t13 t35) h fun _ h =>
  runD (fitD T_api_Mem (loadD h t13)) h fun t37 h =>
  callW c (.fn (.func 112) [] []) [t37, t3] h (fun t39 h =>
  runD (extractD t39 0) h fun t40 h =>
  runD (extractD t39 1) h fun t41 h =>
  K (.ret (.tup [t40, t41])) h)
  (fun v h => K (.pan v) h))
  (fun _ _ => False)))
  (fun v h => K (.pan v) h)
def lamplighterref05_Check.loops : Nat → LInfo
  | 1 => ⟨[], [], [], [(3, none), (2, some [8, 10]), (2, none), (3, some [12, 15])], []⟩
  | 4 => ⟨[5], [false], [0, 1], [], []⟩
  | _ => ⟨[], [], [], [], []⟩
def lamplighterref05_Check.L1 (c : Ctx) (J3 : List AObj → Prop) (K : AOut → List AObj → Prop) (lv : List AV) (h0 : List AObj) (n0 : Nat) (c0 : AV) (c1 : AV) : Prop :=
  ∃ I : Nat → List AV → List AObj → Prop, (∃ n, I n lv h0) ∧ ∀ n h, ∀ t5, I n [t5] h →
    runD (lenD T_sl_api_Micro h c0) h fun t19 h =>
    runD (binD T_int .lss t5 t19) h fun t20 h =>
    condW t20
    (runD (indexAddrD T_sl_api_Micro h c0 t5) h fun t25 h =>
    runD (fitD T_api_Micro (loadD h t25)) h fun t26 h =>
    callW c (.fn (.func 107) [] []) [t26, c1] h (fun t28 h =>
    runD (unD .not t28) h fun t29 h =>
    condW t29
    (K (.ret (.bool false)) h)
    (runD (binD T_int .add t5 (.int .i64 1)) h fun t22 h =>
    (∃ m, m < n ∧ I m (AV.norms n0 h [t22]) (normH n0 h)) ∧ AV.norms n0 h [c0, c1] = [c0, c1]))
    (fun v h => K (.pan v) h))
    (J3 h)
def lamplighterref05_Check.H (c : Ctx) (t0 : AV) (t1 : AV) (h : List AObj) (K : AOut → List AObj → Prop) : Prop :=
  runD (binD T_int .lss t1 (.int .i64 0)) h fun t7 h =>
  joinW (fun (J1 : AV → AV → List AObj → Prop) =>
  guardW t7 false
  (runD (binD T_int .gtr t1 (.int .i64 4096)) h fun t10 h =>
    J1 (.bool false) t10 h)
  (J1 (.bool true) .und h))
  (fun t8 t10 h => runD (pickD t8 (.bool true) t10) h fun t11 h =>
  joinW (fun (J2 : AV → AV → List AObj → Prop) =>
  guardW t11 false
  (runD (binD T_int .rem t1 (.int .i64 8)) h fun t14 h =>
    runD (binD T_int .neq t14 (.int .i64 0)) h fun t15 h =>
    J2 (.bool false) t15 h)
  (J2 (.bool true) .und h))
  (fun t12 t15 h => runD (pickD t12 (.bool true) t15) h fun t16 h =>
  condW t16
  (K (.ret (.bool false)) h)
  (joinW (fun (J3 : List AObj → Prop) =>
  promV [false] [(.int .i64 0)] h fun lv h => lamplighterref05_Check.L1 c J3 K (AV.norms h.length h lv) (normH h.length h) h.length (AV.norm h.length h t0) (AV.norm h.length h t1))
  (fun h => K (.ret (.bool true)) h))))
def lamplighterref05_may.loops : Nat → LInfo
  | 2 => ⟨[], [], [], [(4, none), (4, some [11, 15])], []⟩
  | 3 => ⟨[], [], [], [(4, none), (3, some [20, 23]), (2, none), (5, some [25, 30]), (2, none), (3, some [32, 35])], []⟩
  | _ => ⟨[], [], [], [], []⟩
def lamplighterref05_may.H (c : Ctx) (t0 : AV) (t1 : AV) (h : List AObj) (K : AOut → List AObj → Prop) : Prop :=
  boxW T_api_Micro t0 h fun t2 h =>
  runD (fieldAddrD T_api_Micro t2 0) h fun t5 h =>
  runD (fitD T_int (loadD h t5)) h fun t6 h =>
  runD (binD T_int .eql t6 (.int .i64 1)) h fun t7 h =>
  condW t7
  (runD (fieldAddrD T_api_Micro t2 1) h fun t8 h =>
    runD (fitD T_int (loadD h t8)) h fun t9 h =>
    runD (binD T_int .geq t9 (.int .i64 0)) h fun t10 h =>
    joinW (fun (J1 : AV → AV → List AObj → Prop) =>
    guardW t10 true
    (runD (fieldAddrD T_api_Micro t2 1) h fun t12 h =>
      runD (fitD T_int (loadD h t12)) h fun t13 h =>
      runD (binD T_int .lss t13 t1) h fun t15 h =>
      J1 (.bool true) t15 h)
    (J1 (.bool false) .und h))
    (fun t11 t15 h => runD (pickD t11 t15 (.bool false)) h fun t16 h =>
    K (.ret t16) h))
  (runD (fieldAddrD T_api_Micro t2 0) h fun t17 h =>
  runD (fitD T_int (loadD h t17)) h fun t18 h =>
  runD (binD T_int .eql t18 (.int .i64 2)) h fun t19 h =>
  joinW (fun (J2 : AV → AV → List AObj → Prop) =>
  guardW t19 true
  (runD (fieldAddrD T_api_Micro t2 1) h fun t21 h =>
    runD (fitD T_int (loadD h t21)) h fun t22 h =>
    runD (binD T_int .geq t22 (.int .i64 0)) h fun t23 h =>
    J2 (.bool true) t23 h)
  (J2 (.bool false) .und h))
  (fun t20 t23 h => runD (pickD t20 t23 (.bool false)) h fun t24 h =>
  joinW (fun (J3 : AV → AV → List AObj → Prop) =>
  guardW t24 true
  (runD (fieldAddrD T_api_Micro t2 1) h fun t26 h =>
    runD (fitD T_int (loadD h t26)) h fun t27 h =>
    runD (binD T_int .quo t1 (.int .i64 8)) h fun t29 h =>
    runD (binD T_int .lss t27 t29) h fun t30 h =>
    J3 (.bool true) t30 h)
  (J3 (.bool false) .und h))
  (fun t25 t30 h => runD (pickD t25 t30 (.bool false)) h fun t31 h =>
  joinW (fun (J4 : AV → AV → List AObj → Prop) =>
  guardW t31 true
  (runD (fieldAddrD T_api_Micro t2 2) h fun t33 h =>
    runD (fitD T_int (loadD h t33)) h fun t34 h =>
    runD (binD T_int .eql t34 (.int .i64 0)) h fun t35 h =>
    J4 (.bool true) t35 h)
  (J4 (.bool false) .und h))
  (fun t32 t35 h => runD (pickD t32 t35 (.bool false)) h fun t36 h =>
  K (.ret t36) h))))
theorem lamplighterref05_Same.eq (F : List (FuncId × Contract)) (S : List (FuncId × Con)) (t0 t1 : AV) (h : List AObj) (K : AOut → List AObj → Prop) : funW (ctx F S lamplighterref05_Same.loops) Try.f23 [t0, t1] h K = lamplighterref05_Same.H (ctx F S lamplighterref05_Same.loops) t0 t1 h K := by kernel_rfl
theorem lamplighterref05_Run.eq (F : List (FuncId × Contract)) (S : List (FuncId × Con)) (t0 t1 : AV) (h : List AObj) (K : AOut → List AObj → Prop) : funW (ctx F S lamplighterref05_Run.loops) Try.f64 [t0, t1] h K = lamplighterref05_Run.H (ctx F S lamplighterref05_Run.loops) t0 t1 h K := by kernel_rfl
theorem lamplighterref05_Do.eq (F : List (FuncId × Contract)) (S : List (FuncId × Con)) (t0 t1 : AV) (h : List AObj) (K : AOut → List AObj → Prop) : funW (ctx F S lamplighterref05_Do.loops) Try.f66 [t0, t1] h K = lamplighterref05_Do.H (ctx F S lamplighterref05_Do.loops) t0 t1 h K := by kernel_rfl
theorem lamplighterref05_Crash.eq (F : List (FuncId × Contract)) (S : List (FuncId × Con)) (t0 t1 t2 t3 : AV) (h : List AObj) (K : AOut → List AObj → Prop) : funW (ctx F S lamplighterref05_Crash.loops) Try.f68 [t0, t1, t2, t3] h K = lamplighterref05_Crash.H (ctx F S lamplighterref05_Crash.loops) t0 t1 t2 t3 h K := by kernel_rfl
theorem lamplighterref05_Check.eq (F : List (FuncId × Contract)) (S : List (FuncId × Con)) (t0 t1 : AV) (h : List AObj) (K : AOut → List AObj → Prop) : funW (ctx F S lamplighterref05_Check.loops) Try.f71 [t0, t1] h K = lamplighterref05_Check.H (ctx F S lamplighterref05_Check.loops) t0 t1 h K := by kernel_rfl
theorem lamplighterref05_may.eq (F : List (FuncId × Contract)) (S : List (FuncId × Con)) (t0 t1 : AV) (h : List AObj) (K : AOut → List AObj → Prop) : funW (ctx F S lamplighterref05_may.loops) Try.f107 [t0, t1] h K = lamplighterref05_may.H (ctx F S lamplighterref05_may.loops) t0 t1 h K := by kernel_rfl
theorem lamplighterref05_Same.at : Try.prog.funcs[23]? = some Try.f23 := by kernel_rfl
theorem lamplighterref05_Same.nm : (Try.f23.name == "runtime.NumGoroutine") = false := by kernel_rfl
theorem lamplighterref05_Same.bd : Try.f23.body.isNone = false := by kernel_rfl
theorem lamplighterref05_Run.at : Try.prog.funcs[64]? = some Try.f64 := by kernel_rfl
theorem lamplighterref05_Run.nm : (Try.f64.name == "runtime.NumGoroutine") = false := by kernel_rfl
theorem lamplighterref05_Run.bd : Try.f64.body.isNone = false := by kernel_rfl
theorem lamplighterref05_Do.at : Try.prog.funcs[66]? = some Try.f66 := by kernel_rfl
theorem lamplighterref05_Do.nm : (Try.f66.name == "runtime.NumGoroutine") = false := by kernel_rfl
theorem lamplighterref05_Do.bd : Try.f66.body.isNone = false := by kernel_rfl
theorem lamplighterref05_Crash.at : Try.prog.funcs[68]? = some Try.f68 := by kernel_rfl
theorem lamplighterref05_Crash.nm : (Try.f68.name == "runtime.NumGoroutine") = false := by kernel_rfl
theorem lamplighterref05_Crash.bd : Try.f68.body.isNone = false := by kernel_rfl
theorem lamplighterref05_Check.at : Try.prog.funcs[71]? = some Try.f71 := by kernel_rfl
theorem lamplighterref05_Check.nm : (Try.f71.name == "runtime.NumGoroutine") = false := by kernel_rfl
theorem lamplighterref05_Check.bd : Try.f71.body.isNone = false := by kernel_rfl
theorem lamplighterref05_may.at : Try.prog.funcs[107]? = some Try.f107 := by kernel_rfl
theorem lamplighterref05_may.nm : (Try.f107.name == "runtime.NumGoroutine") = false := by kernel_rfl
theorem lamplighterref05_may.bd : Try.f107.body.isNone = false := by kernel_rfl
end Lam
namespace Lam
open Go Go.Proofs
set_option linter.unusedVariables false
set_option linter.unnecessarySimpa false
set_option linter.unusedSimpArgs false
def lamplighterref05_may.C : Contract
  | [.agg [.int .i64 k, .int .i64 a, .int .i64 w], .int .i64 n] => some (false, pD True (.bool (mmay ⟨k, a, w⟩ n)))
  | _ => none
set_option maxRecDepth 20000 in
theorem lamplighterref05_may.spec : FSpec Try.prog 107 lamplighterref05_may.C := by
  refine FSpec.of (ctx_ok (F := []) (S := []) (by simp) (by simp) lamplighterref05_may.loops) lamplighterref05_may.at lamplighterref05_may.nm lamplighterref05_may.bd ?_
  intro vs b S v news e hS
  unfold lamplighterref05_may.C at e
  split at e
  rotate_left
  · cases e
  cases e
  rw [lamplighterref05_may.eq]
  unfold lamplighterref05_may.H
  simp (maxSteps := 4000000) only [go_sem, Nat.reduceEqDiff, Nat.reduceLT, Nat.reduceAdd, Nat.reduceSub, Nat.reduceLeDiff, List.reduceReplicate, Int.reduceToNat]
  rename_i k a w n
  have key : mmay ⟨k, a, w⟩ n = if k = 1 then (decide (0 ≤ a) && decide (a < n)) else (decide (k = 2) && decide (0 ≤ a) && decide (a < IntKind.i64.wrap (n.tdiv 8)) && decide (w = 0)) := by
    unfold mmay
    simp only []
    by_cases h1 : k = 1
    · subst h1; simp
    · rw [if_neg h1, if_neg h1]
      by_cases h2 : k = 2
      · subst h2; simp
      · rw [if_neg h2]
        rw [Bool.eq_iff_iff]; simp only [Bool.and_eq_true, Bool.or_eq_true, Bool.not_eq_true', Bool.not_eq_false', Bool.not_eq_true, decide_eq_true_eq, decide_eq_false_iff_not, Bool.or_eq_false_iff, Bool.and_eq_false_iff, beq_iff_eq]; simp [h2]; omega
  refine ⟨fun h => ?_, fun h => ⟨fun _ => by decide, ?_⟩⟩
  · rw [key, if_pos h]; exact post_val rfl rfl
  · rw [key, if_neg h]; exact post_val rfl rfl
def lamplighterref05_Check.C : Contract
  | [.sl _ (.mics l), .int .i64 n] => some (false, pD (roomy l.length) (.bool (stepsB l n)))
  | _ => none
set_option maxRecDepth 20000 in
theorem lamplighterref05_Check.spec : FSpec Try.prog 71 lamplighterref05_Check.C := by
  refine FSpec.of (ctx_ok (F := [(107, lamplighterref05_may.C)]) (S := []) (by simpa using lamplighterref05_may.spec) (by simp) lamplighterref05_Check.loops) lamplighterref05_Check.at lamplighterref05_Check.nm lamplighterref05_Check.bd ?_
  intro vs b S v news e hS
  unfold lamplighterref05_Check.C at e
  split at e
  rotate_left
  · cases e
  cases e
  rw [lamplighterref05_Check.eq]
  unfold lamplighterref05_Check.H
  simp (maxSteps := 4000000) only [go_sem, Nat.reduceEqDiff, Nat.reduceLT, Nat.reduceAdd, Nat.reduceSub, Nat.reduceLeDiff, List.reduceReplicate, Int.reduceToNat, lamplighterref05_may.C]
  rename_i _ l n
  have e : (decide (n < 0) || decide (4096 < n) || !decide (n.tmod 8 = 0)) = !sizedB n := by
    unfold sizedB; rw [Bool.eq_iff_iff]; simp only [Bool.and_eq_true, Bool.or_eq_true, Bool.not_eq_true', Bool.not_eq_false', Bool.not_eq_true, decide_eq_true_eq, decide_eq_false_iff_not, Bool.or_eq_false_iff, Bool.and_eq_false_iff, beq_iff_eq]; omega
  rw [e]
  unfold roomy at hS
  refine ⟨fun _ => by decide, fun h => ?_, fun h => ?_⟩
  · rw [Bool.not_eq_true'] at h
    unfold stepsB; rw [h]; exact post_val rfl rfl
  rw [Bool.not_eq_false'] at h
  rw [joinW_eq]
  unfold lamplighterref05_Check.L1
  refine loop1 (σ := Nat) (fun k => .int .i64 k) (fun k => []) (fun k => l.length - k) (fun k => k ≤ l.length ∧ ∀ x ∈ l.take k, mmay x n = true) 0 rfl rfl ⟨Nat.zero_le _, by simp⟩ ?_
  rintro I back k ⟨hk, hall⟩
  simp only [lamplighterref05_may.C, go_sem, Nat.reduceEqDiff, Nat.reduceLT, Nat.reduceAdd, Nat.reduceSub, Nat.reduceLeDiff, List.reduceReplicate, Int.reduceToNat]
  refine ⟨fun hlt => ⟨by omega, fun hm => ?_, fun hm => ?_⟩, fun hge => ?_⟩
  · have : stepsB l n = false := by
      unfold stepsB
      rw [Bool.and_eq_false_iff]; right
      rw [List.all_eq_false]
      exact ⟨_, getD_mem l k ⟨0, 0, 0⟩ (by omega), by simpa using hm⟩
    rw [this]; exact post_val rfl rfl
  · refine back (k + 1) (by omega) (by rw [wnext (by omega)]) rfl ⟨by omega, fun x hx => ?_⟩
    rw [take_next l k ⟨0, 0, 0⟩ (by omega), List.mem_append, List.mem_singleton] at hx
    rcases hx with hx | rfl
    · exact hall x hx
    · exact hm
  · obtain rfl : k = l.length := by omega
    rw [List.take_length] at hall
    have : stepsB l n = true := by unfold stepsB; rw [h, Bool.true_and, List.all_eq_true]; exact hall
    rw [this]; exact post_val rfl rfl
def lamplighterref05_Do.C : Contract
  | [.agg [.sl false (.ints .i64 vol), .sl false (.ints .i64 per), .sl false (.pends pend)], .agg [.int .i64 a, .int .i64 b, .int .i64 c]] => some (false, pD (smallM vol per pend ∧ pend.length + 1 ≤ 1000000) (runV ⟨vol, per, pend⟩ [⟨a, b, c⟩]))
  | _ => none
set_option maxRecDepth 20000 in
theorem lamplighterref05_Do.spec : FSpec Try.prog 66 lamplighterref05_Do.C := by
  refine FSpec.of (ctx_ok (F := [(106, lamplighterref04_Check.C), (107, lamplighterref05_may.C), (108, lamplighterref04_Put.C), (109, lamplighterref04_Flush.C), (110, lamplighterref04_Fence.C)]) (S := []) (by simpa using ⟨lamplighterref04_Check.spec, lamplighterref05_may.spec, lamplighterref04_Put.spec, lamplighterref04_Flush.spec, lamplighterref04_Fence.spec⟩) (by simp) lamplighterref05_Do.loops) lamplighterref05_Do.at lamplighterref05_Do.nm lamplighterref05_Do.bd ?_
  intro vs b S v news e hS
  unfold lamplighterref05_Do.C at e
  split at e
  rotate_left
  · cases e
  cases e
  rw [lamplighterref05_Do.eq]
  unfold lamplighterref05_Do.H
  simp (maxSteps := 4000000) only [go_sem, Nat.reduceEqDiff, Nat.reduceLT, Nat.reduceAdd, Nat.reduceSub, Nat.reduceLeDiff, List.reduceReplicate, Int.reduceToNat, lamplighterref04_Check.C, lamplighterref05_may.C, lamplighterref04_Put.C, lamplighterref04_Flush.C, lamplighterref04_Fence.C]
  rename_i vol per pend a b c
  obtain ⟨hs, hz⟩ := hS
  have key : (!checkB vol per pend || !mmay ⟨a, b, c⟩ vol.length) = !soundB ⟨vol, per, pend⟩ [⟨a, b, c⟩] := by
    rw [← Bool.not_and]
    congr 1
    rw [Bool.eq_iff_iff, sound_iff, Bool.and_eq_true, check_iff]
    constructor
    · rintro ⟨h1, h2⟩
      exact ⟨h1, fun x hx => by rw [List.mem_singleton] at hx; subst hx; exact (mmay_iff h1.sz).1 h2⟩
    · rintro ⟨h1, h2⟩
      exact ⟨h1, (mmay_iff (OkM.sz h1)).2 (h2 _ (by simp))⟩
  rw [key]
  refine ⟨hs, fun h => ?_, fun h => ?_⟩
  · rw [Bool.not_eq_true'] at h
    rw [runV_no h]; exact post_val rfl rfl
  rw [Bool.not_eq_false'] at h
  obtain ⟨ok, hx⟩ := sound_iff.1 h
  have hx := hx _ (List.mem_singleton.2 rfl)
  have ok : OkM vol per pend := ok
  rw [runV_ok h]
  refine ⟨fun ha => ⟨⟨hs, by unfold roomy; omega⟩, ?_⟩, fun ha => ⟨hs, ?_⟩⟩
  · rcases hx with ⟨hkd, h0, h1⟩ | ⟨hkd, h0, h1, _⟩
    · have hp : placeB vol per pend b = true := place_iff.2 ⟨⟨h0, h1⟩, ok⟩
      simp only [putM_ok hp, go_sem, Nat.reduceEqDiff, Nat.reduceLT, Nat.reduceAdd, Nat.reduceSub, Nat.reduceLeDiff, List.reduceReplicate, Int.reduceToNat]
      subst ha
      exact post_val rfl rfl
    · simp only [] at hkd; omega
  · rcases hx with ⟨hkd, h0, h1⟩ | ⟨hkd, h0, h1, _⟩
    · exact absurd hkd ha
    · have hp : placeB vol per pend (firstI vol b) = true := (OkM.first ok h0 (by simp only [] at h1; omega)).2
      have okf := ok.flush b
      simp only [flushM_ok hp, lamplighterref04_Fence.C, fenceM_ok, check_iff.2 okf, go_sem, Nat.reduceEqDiff, Nat.reduceLT, Nat.reduceAdd, Nat.reduceSub, Nat.reduceLeDiff, List.reduceReplicate, Int.reduceToNat]
      refine ⟨okf.small (by rw [flushP_len]; omega), post_val ?_ rfl⟩
      have hkd : a = 2 := hkd
      subst hkd
      rfl
def lamplighterref05_Run.C : Contract
  | [.agg [.sl false (.ints .i64 vol), .sl false (.ints .i64 per), .sl false (.pends pend)], .sl _ (.mics l)] => some (false, pD (smallM vol per pend ∧ pend.length + l.length ≤ 1000000) (runV ⟨vol, per, pend⟩ l))
  | _ => none
set_option maxRecDepth 20000 in
theorem lamplighterref05_Run.spec : FSpec Try.prog 64 lamplighterref05_Run.C := by
  refine FSpec.of (ctx_ok (F := [(106, lamplighterref04_Check.C), (71, lamplighterref05_Check.C), (66, lamplighterref05_Do.C)]) (S := []) (by simpa using ⟨lamplighterref04_Check.spec, lamplighterref05_Check.spec, lamplighterref05_Do.spec⟩) (by simp) lamplighterref05_Run.loops) lamplighterref05_Run.at lamplighterref05_Run.nm lamplighterref05_Run.bd ?_
  intro vs b S v news e hS
  unfold lamplighterref05_Run.C at e
  split at e
  rotate_left
  · cases e
  cases e
  rw [lamplighterref05_Run.eq]
  unfold lamplighterref05_Run.H
  simp (maxSteps := 4000000) only [go_sem, Nat.reduceEqDiff, Nat.reduceLT, Nat.reduceAdd, Nat.reduceSub, Nat.reduceLeDiff, List.reduceReplicate, Int.reduceToNat, lamplighterref04_Check.C, lamplighterref05_Check.C, lamplighterref05_Do.C]
  rename_i vol per pend _ l
  obtain ⟨hs, hz⟩ := hS
  have key : (!checkB vol per pend || !stepsB l vol.length) = !soundB ⟨vol, per, pend⟩ l := by
    rw [← Bool.not_and]; rfl
  rw [key]
  refine ⟨hs, by unfold roomy; omega, fun h => ?_, fun h => ?_⟩
  · rw [Bool.not_eq_true'] at h
    rw [runV_no h]; exact post_val rfl rfl
  rw [Bool.not_eq_false'] at h
  obtain ⟨ok, hl⟩ := sound_iff.1 h
  rw [runV_ok h, joinW_eq]
  unfold lamplighterref05_Run.L1
  refine loop1 (σ := Nat) (fun k => .int .i64 k) (fun k => [.box (runS ⟨vol, per, pend⟩ (l.take k)).V, .box (memV [] [] [])]) (fun k => l.length - k) (fun k => k ≤ l.length) 0 rfl rfl (Nat.zero_le _) ?_
  intro I back k hk
  have okk := runS_ok (l.take k) ok fun x hx => hl x ((List.take_sublist _ _).subset hx)
  have lenk := runS_len (l.take k) ⟨vol, per, pend⟩
  have pendk := runS_pend_le (l.take k) ⟨vol, per, pend⟩
  rw [List.length_take] at pendk
  simp only [] at lenk pendk
  simp only [go_sem, Nat.reduceEqDiff, Nat.reduceLT, Nat.reduceAdd, Nat.reduceSub, Nat.reduceLeDiff, List.reduceReplicate, Int.reduceToNat]
  refine ⟨fun hlt => ?_, fun hge => ?_⟩
  · have hkl : k < l.length := by omega
    have hnx : runS ⟨vol, per, pend⟩ (l.take (k + 1)) = stepM (runS ⟨vol, per, pend⟩ (l.take k)) (l.getD k ⟨0, 0, 0⟩) := by
      rw [take_next l k ⟨0, 0, 0⟩ hkl, runS_append]; rfl
    have hx := hl _ (getD_mem l k ⟨0, 0, 0⟩ hkl)
    generalize l.getD k ⟨0, 0, 0⟩ = x at *
    generalize runS ⟨vol, per, pend⟩ (l.take k) = m at *
    have hsm : smallM m.vol m.per m.pend := OkM.small okk (by omega)
    have hso : soundB ⟨m.vol, m.per, m.pend⟩ [⟨x.kind, x.at_, x.val⟩] = true := sound_iff.2 ⟨okk, fun y hy => by
      rw [List.mem_singleton] at hy; subst hy
      show MayN x m.vol.length
      rw [lenk]; exact hx⟩
    simp only [lamplighterref05_Do.C, runV_ok hso, go_sem, Nat.reduceEqDiff, Nat.reduceLT, Nat.reduceAdd, Nat.reduceSub, Nat.reduceLeDiff, List.reduceReplicate, Int.reduceToNat]
    refine ⟨by omega, ⟨hsm, by omega⟩, back (k + 1) (by omega) (by rw [wnext (by omega)]) ?_ (by omega)⟩
    rw [hnx]; rfl
  · obtain rfl : k = l.length := by omega
    rw [List.take_length]
    exact post_val rfl rfl
def lamplighterref05_Crash.C : Contract
  | [.agg [.sl false (.ints .i64 vol), .sl false (.ints .i64 per), .sl false (.pends pend)], .sl _ (.mics l), .int .i64 n, .sl _ (.ints .i64 keep)] => some (false, pD (smallM vol per pend ∧ pend.length + l.length ≤ 1000000 ∧ roomy keep.length) (mcrashV ⟨vol, per, pend⟩ l n keep))
  | _ => none
set_option maxRecDepth 20000 in
theorem lamplighterref05_Crash.spec : FSpec Try.prog 68 lamplighterref05_Crash.C := by
  refine FSpec.of (ctx_ok (F := [(64, lamplighterref05_Run.C), (112, lamplighterref04_Crash.C)]) (S := []) (by simpa using ⟨lamplighterref05_Run.spec, lamplighterref04_Crash.spec⟩) (by simp) lamplighterref05_Crash.loops) lamplighterref05_Crash.at lamplighterref05_Crash.nm lamplighterref05_Crash.bd ?_
  intro vs b S v news e hS
  unfold lamplighterref05_Crash.C at e
  split at e
  rotate_left
  · cases e
  cases e
  rw [lamplighterref05_Crash.eq]
  unfold lamplighterref05_Crash.H
  simp (maxSteps := 4000000) only [go_sem, Nat.reduceEqDiff, Nat.reduceLT, Nat.reduceAdd, Nat.reduceSub, Nat.reduceLeDiff, List.reduceReplicate, Int.reduceToNat, lamplighterref05_Run.C, lamplighterref04_Crash.C]
  rename_i vol per pend _ l n _ keep
  obtain ⟨hs, hz, hk1⟩ := hS
  refine ⟨⟨hs, hz⟩, ?_⟩
  have hfold : (if (if (l.length : Int) < n then (l.length : Int) else n) > 0 then (if (l.length : Int) < n then (l.length : Int) else n) else 0) = cutI n l.length := rfl
  rw [hfold]
  have hc := cutI_range n l.length
  cases h : soundB ⟨vol, per, pend⟩ l with
  | false =>
    simp only [runV_no h, mcrash_no h, joinW_eq, guard_tt, guard_tf, guard_ft, guard_ff, Int.reduceEq, Int.reduceLT, Int.reduceLE, decide_false, decide_true, Bool.not_false, Bool.not_true, Bool.not_not, not_true_eq_false, not_false_eq_true, true_implies, false_implies, implies_true, and_true, true_and, reduceCtorEq, Bool.and_self, Bool.or_self, Bool.and_true, Bool.true_and, Bool.false_eq_true, if_true, if_false, go_sem, Nat.reduceEqDiff, Nat.reduceLT, Nat.reduceAdd, Nat.reduceSub, Nat.reduceLeDiff, List.reduceReplicate, Int.reduceToNat]
    exact post_val rfl rfl
  | true =>
    obtain ⟨ok, hl⟩ := sound_iff.1 h
    have hso : soundB ⟨vol, per, pend⟩ (l.take (cutI n l.length).toNat) = true := sound_iff.2 ⟨ok, fun x hx => hl x ((List.take_sublist _ _).subset hx)⟩
    have okk := runS_ok (l.take (cutI n l.length).toNat) ok fun x hx => hl x ((List.take_sublist _ _).subset hx)
    have pendk := runS_pend_le (l.take (cutI n l.length).toNat) ⟨vol, per, pend⟩
    have hlt : (l.take (cutI n l.length).toNat).length ≤ l.length := by rw [List.length_take]; omega
    simp only [] at pendk
    simp only [runV_ok h, mcrash_ok h, runV_ok hso, lamplighterref05_Run.C, joinW_eq, guard_tt, guard_tf, guard_ft, guard_ff, Int.reduceEq, Int.reduceLT, Int.reduceLE, decide_false, decide_true, Bool.not_false, Bool.not_true, Bool.not_not, not_true_eq_false, not_false_eq_true, true_implies, false_implies, implies_true, and_true, true_and, reduceCtorEq, Bool.and_self, Bool.or_self, Bool.and_true, Bool.true_and, Bool.false_eq_true, if_true, if_false, go_sem, Nat.reduceEqDiff, Nat.reduceLT, Nat.reduceAdd, Nat.reduceSub, Nat.reduceLeDiff, List.reduceReplicate, Int.reduceToNat]
    generalize runS ⟨vol, per, pend⟩ (l.take (cutI n l.length).toNat) = m at *
    have hsm : smallM m.vol m.per m.pend := OkM.small okk (by omega)
    have hck : checkB m.vol m.per m.pend = true := check_iff.2 okk
    simp only [hck, crashM_ok, lamplighterref04_Crash.C, joinW_eq, guard_tt, guard_tf, guard_ft, guard_ff, Int.reduceEq, Int.reduceLT, Int.reduceLE, decide_false, decide_true, Bool.not_false, Bool.not_true, Bool.not_not, not_true_eq_false, not_false_eq_true, true_implies, false_implies, implies_true, and_true, true_and, reduceCtorEq, Bool.and_self, Bool.or_self, Bool.and_true, Bool.true_and, Bool.false_eq_true, if_true, if_false, go_sem, Nat.reduceEqDiff, Nat.reduceLT, Nat.reduceAdd, Nat.reduceSub, Nat.reduceLeDiff, List.reduceReplicate, Int.reduceToNat]
    exact ⟨hc, ⟨hs, by omega⟩, ⟨hsm, hk1⟩, post_val rfl rfl⟩
def lamplighterref05_Same.C : Contract
  | [.sl _ (.mics a), .sl _ (.mics b)] => some (false, pD (roomy a.length) (.bool (decide (a = b))))
  | _ => none
set_option maxRecDepth 20000 in
theorem lamplighterref05_Same.spec : FSpec Try.prog 23 lamplighterref05_Same.C := by
  refine FSpec.of (ctx_ok (F := []) (S := []) (by simp) (by simp) lamplighterref05_Same.loops) lamplighterref05_Same.at lamplighterref05_Same.nm lamplighterref05_Same.bd ?_
  intro vs b S v news e hS
  unfold lamplighterref05_Same.C at e
  split at e
  rotate_left
  · cases e
  cases e
  rw [lamplighterref05_Same.eq]
  unfold lamplighterref05_Same.H
  simp (maxSteps := 4000000) only [go_sem, Nat.reduceEqDiff, Nat.reduceLT, Nat.reduceAdd, Nat.reduceSub, Nat.reduceLeDiff, List.reduceReplicate, Int.reduceToNat]
  rename_i _ a _ b
  unfold roomy at hS
  refine ⟨fun hne => ?_, fun heq => ?_⟩
  · have : decide (a = b) = false := by rw [decide_eq_false_iff_not]; rintro rfl; exact hne rfl
    rw [this]; exact post_val rfl rfl
  rw [joinW_eq]
  unfold lamplighterref05_Same.L1
  have hlen : a.length = b.length := by omega
  refine loop1 (fun k : Nat => .int .i64 k) (fun _ => []) (fun k => a.length - k) (fun k => k ≤ a.length ∧ ∀ i, i < k → a.getD i ⟨0, 0, 0⟩ = b.getD i ⟨0, 0, 0⟩) 0 rfl rfl ⟨Nat.zero_le _, fun i hi => absurd hi (Nat.not_lt_zero i)⟩ ?_
  rintro I back k ⟨hk, hall⟩
  have hd : ∀ a b : Mic, (decide (a.kind = b.kind) && (decide (a.at_ = b.at_) && (decide (a.val = b.val)))) = decide (a = b) := fun a b => by
    cases a; cases b; rw [Bool.eq_iff_iff]; simp only [Bool.and_eq_true, Bool.or_eq_true, Bool.not_eq_true', Bool.not_eq_false', Bool.not_eq_true, decide_eq_true_eq, decide_eq_false_iff_not, Bool.or_eq_false_iff, Bool.and_eq_false_iff, beq_iff_eq]; simp
  simp only [go_sem, Nat.reduceEqDiff, Nat.reduceLT, Nat.reduceAdd, Nat.reduceSub, Nat.reduceLeDiff, List.reduceReplicate, Int.reduceToNat, Bool.and_true]
  rw [hd]
  refine ⟨fun hlt => ⟨by omega, by omega, fun h0 => ?_, fun h0 => ?_⟩, fun hge => ?_⟩
  · rw [decide_eq_false_iff_not] at h0
    have : decide (a = b) = false := by rw [decide_eq_false_iff_not]; rintro rfl; exact h0 rfl
    rw [this]; exact post_val rfl rfl
  · rw [decide_eq_true_eq] at h0
    refine back (k + 1) (by omega) (by rw [wnext (by omega)]) rfl ⟨by omega, fun i hi => ?_⟩
    by_cases e : i = k
    · subst e; exact h0
    · exact hall i (by omega)
  · rw [decide_eq_true (ext_d _ hlen fun i hi => hall i (by omega))]; exact post_val rfl rfl
end Lam
namespace Lam
open Go Go.Proofs
set_option linter.unusedVariables false
def lamplighterlaw08_SuperTells.loops : Nat → LInfo
  | 10 => ⟨[], [], [], [(2, none), (3, some [64, 67]), (2, none), (3, some [69, 72]), (2, none), (3, some [74, 77]), (2, none), (3, some [79, 82]), (2, none), (3, some [84, 87]), (2, none), (3, some [89, 92]), (2, none), (3, some [94, 97])], []⟩
  | _ => ⟨[], [], [], [], []⟩
def lamplighterlaw08_SuperTells.H (c : Ctx) (t0 : AV) (t1 : AV) (t2 : AV) (h : List AObj) (K : AOut → List AObj → Prop) : Prop :=
  callW c (.fn (.func 15) [] []) [] h (fun t22 h =>
  runD (lenD T_sl_int h t2) h fun t24 h =>
  runD (binD T_int .gtr t24 (.int .i64 5000)) h fun t25 h =>
  condW t25
  (K (.ret t22) h)
  (callW c (.fn (.func 16) [] []) [t0, t1] h (fun t30 h =>
  runD (extractD t30 0) h fun t31 h =>
  runD (extractD t30 1) h fun t32 h =>
  callW c (.fn (.func 17) [] []) [t0, t1] h (fun t36 h =>
  runD (extractD t36 0) h fun t37 h =>
  runD (extractD t36 1) h fun t38 h =>
  callW c (.fn (.func 18) [] []) [t2] h (fun t41 h =>
  runD (extractD t41 0) h fun t42 h =>
  runD (extractD t41 1) h fun t43 h =>
  runD (extractD t41 2) h fun t44 h =>
  callW c (.fn (.func 19) [] []) [t2] h (fun t47 h =>
  runD (extractD t47 0) h fun t48 h =>
  runD (extractD t47 1) h fun t49 h =>
  runD (extractD t47 2) h fun t50 h =>
  callW c (.fn (.func 20) [] []) [t0, t1] h (fun t54 h =>
  runD (extractD t54 0) h fun t55 h =>
  runD (extractD t54 1) h fun t56 h =>
  callW c (.fn (.func 21) [] []) [t0, t1] h (fun t60 h =>
  runD (extractD t60 0) h fun t61 h =>
  runD (extractD t60 1) h fun t62 h =>
  joinW (fun (J1 : AV → AV → List AObj → Prop) =>
  guardW t22 true
  (callW c (.fn (.func 22) [] []) [t31, t37] h (fun t67 h =>
    J1 (.bool true) t67 h)
    (fun v h => K (.pan v) h))
  (J1 (.bool false) .und h))
  (fun t64 t67 h => runD (pickD t64 t67 (.bool false)) h fun t68 h =>
  joinW (fun (J2 : AV → AV → List AObj → Prop) =>
  guardW t68 true
  (runD (binD T_api_Errno .eql t32 t38) h fun t72 h =>
    J2 (.bool true) t72 h)
  (J2 (.bool false) .und h))
  (fun t69 t72 h => runD (pickD t69 t72 (.bool false)) h fun t73 h =>
  joinW (fun (J3 : AV → AV → List AObj → Prop) =>
  guardW t73 true
  (runD (binD T_int .eql t42 t48) h fun t77 h =>
    J3 (.bool true) t77 h)
  (J3 (.bool false) .und h))
  (fun t74 t77 h => runD (pickD t74 t77 (.bool false)) h fun t78 h =>
  joinW (fun (J4 : AV → AV → List AObj → Prop) =>
  guardW t78 true
  (runD (binD T_int .eql t43 t49) h fun t82 h =>
    J4 (.bool true) t82 h)
  (J4 (.bool false) .und h))
  (fun t79 t82 h => runD (pickD t79 t82 (.bool false)) h fun t83 h =>
  joinW (fun (J5 : AV → AV → List AObj → Prop) =>
  guardW t83 true
  (runD (binD T_api_Errno .eql t44 t50) h fun t87 h =>
    J5 (.bool true) t87 h)
  (J5 (.bool false) .und h))
  (fun t84 t87 h => runD (pickD t84 t87 (.bool false)) h fun t88 h =>
  joinW (fun (J6 : AV → AV → List AObj → Prop) =>
  guardW t88 true
  (callW c (.fn (.func 23) [] []) [t55, t61] h (fun t92 h =>
    J6 (.bool true) t92 h)
    (fun v h => K (.pan v) h))
  (J6 (.bool false) .und h))
  (fun t89 t92 h => runD (pickD t89 t92 (.bool false)) h fun t93 h =>
  joinW (fun (J7 : AV → AV → List AObj → Prop) =>
  guardW t93 true
  (runD (binD T_api_Errno .eql t56 t62) h fun t97 h =>
    J7 (.bool true) t97 h)
  (J7 (.bool false) .und h))
  (fun t94 t97 h => runD (pickD t94 t97 (.bool false)) h fun t98 h =>
  K (.ret t98) h))))))))
  (fun v h => K (.pan v) h))
  (fun v h => K (.pan v) h))
  (fun v h => K (.pan v) h))
  (fun v h => K (.pan v) h))
  (fun v h => K (.pan v) h))
  (fun v h => K (.pan v) h)))
  (fun v h => K (.pan v) h)
theorem lamplighterlaw08_SuperTells.eq (F : List (FuncId × Contract)) (S : List (FuncId × Con)) (t0 t1 t2 : AV) (h : List AObj) (K : AOut → List AObj → Prop) : funW (ctx F S lamplighterlaw08_SuperTells.loops) Try.f3 [t0, t1, t2] h K = lamplighterlaw08_SuperTells.H (ctx F S lamplighterlaw08_SuperTells.loops) t0 t1 t2 h K := by kernel_rfl
theorem lamplighterlaw08_SuperTells.at : Try.prog.funcs[3]? = some Try.f3 := by kernel_rfl
theorem lamplighterlaw08_SuperTells.nm : (Try.f3.name == "runtime.NumGoroutine") = false := by kernel_rfl
theorem lamplighterlaw08_SuperTells.bd : Try.f3.body.isNone = false := by kernel_rfl
end Lam
namespace Lam
open Go Go.Proofs
set_option linter.unusedVariables false
set_option linter.unnecessarySimpa false
set_option linter.unusedSimpArgs false
theorem decide_self {α : Type} [DecidableEq α] (a : α) : decide (a = a) = true := decide_eq_true rfl
abbrev SuperTells_ctx : Ctx := ctx [(15, lamplighterlaw08_awake.C), (16, super_Words.C), (18, super_Read.C), (20, super_Root.C), (17, lamplighterref08_Words.C), (19, lamplighterref08_Read.C), (21, lamplighterref08_Root.C), (22, lamplighterref02_Numbers.C), (23, lamplighterref05_Same.C)] [] lamplighterlaw08_SuperTells.loops
set_option maxRecDepth 20000 in
theorem SuperTells_vc (blocks : Int) (root : Int) (words : List Int) (w_blocks : (Lit.int .i64 blocks).wf = true) (w_root : (Lit.int .i64 root).wf = true) : lamplighterlaw08_SuperTells.H SuperTells_ctx (.int .i64 blocks) (.int .i64 root) (.sl false (.ints .i64 words)) [] Told := by
  unfold lamplighterlaw08_SuperTells.H
  simp (maxSteps := 4000000) only [go_sem, Nat.reduceEqDiff, Nat.reduceLT, Nat.reduceAdd, Nat.reduceSub, Nat.reduceLeDiff, List.reduceReplicate, Int.reduceToNat, lamplighterlaw08_awake.C, super_Words.C, super_Read.C, super_Root.C, lamplighterref08_Words.C, lamplighterref08_Read.C, lamplighterref08_Root.C, lamplighterref02_Numbers.C, lamplighterref05_Same.C]
  refine ⟨fun _ => rfl, fun hl => ?_⟩
  have hr : roomy words.length := by unfold roomy; omega
  have hlw : ∀ b r, (superW b r).length = 16 := fun b r => by simp [superW]
  have r0 : roomy 0 := Nat.zero_le _
  have r16 : roomy 16 := by unfold roomy; omega
  have r2 : roomy 2 := by unfold roomy; omega
  have hread : ∃ a b e, sreadV words = .tup [.int .i64 a, .int .i64 b, .int .i64 e] := by
    unfold sreadV; split
    · exact ⟨_, _, _, rfl⟩
    · exact ⟨_, _, _, rfl⟩
  obtain ⟨a, b, e, hread⟩ := hread
  cases hm : mayB blocks root with
  | false =>
    simp only [hread, lamplighterref02_Numbers.C, lamplighterref05_Same.C, decide_self, List.length_nil, joinW_eq, guard_tt, guard_tf, guard_ft, guard_ff, Int.reduceEq, Int.reduceLT, Int.reduceLE, decide_false, decide_true, Bool.not_false, Bool.not_true, Bool.not_not, not_true_eq_false, not_false_eq_true, true_implies, false_implies, implies_true, and_true, true_and, reduceCtorEq, Bool.and_self, Bool.or_self, Bool.and_true, Bool.true_and, Bool.false_eq_true, if_true, if_false, go_sem, Nat.reduceEqDiff, Nat.reduceLT, Nat.reduceAdd, Nat.reduceSub, Nat.reduceLeDiff, List.reduceReplicate, Int.reduceToNat]
    exact ⟨hr, hr, r0, r0, rfl⟩
  | true =>
    simp only [hread, hlw, lamplighterref02_Numbers.C, lamplighterref05_Same.C, decide_self, List.length_nil, List.length_cons, joinW_eq, guard_tt, guard_tf, guard_ft, guard_ff, Int.reduceEq, Int.reduceLT, Int.reduceLE, decide_false, decide_true, Bool.not_false, Bool.not_true, Bool.not_not, not_true_eq_false, not_false_eq_true, true_implies, false_implies, implies_true, and_true, true_and, reduceCtorEq, Bool.and_self, Bool.or_self, Bool.and_true, Bool.true_and, Bool.false_eq_true, if_true, if_false, go_sem, Nat.reduceEqDiff, Nat.reduceLT, Nat.reduceAdd, Nat.reduceSub, Nat.reduceLeDiff, List.reduceReplicate, Int.reduceToNat]
    exact ⟨hr, hr, r16, r2, rfl⟩
theorem SuperTells_ok : Ok Try.prog SuperTells_ctx := ctx_ok (by simpa using ⟨lamplighterlaw08_awake.spec, super_Words.spec, super_Read.spec, super_Root.spec, lamplighterref08_Words.spec, lamplighterref08_Read.spec, lamplighterref08_Root.spec, lamplighterref02_Numbers.spec, lamplighterref05_Same.spec⟩) (by simp) _
theorem SuperTells_law (blocks : Int) (root : Int) (words : List Int) (w_blocks : (Lit.int .i64 blocks).wf = true) (w_root : (Lit.int .i64 root).wf = true) : funW SuperTells_ctx Try.f3 [(.int .i64 blocks), (.int .i64 root), (.sl false (.ints .i64 words))] [] Told := by
  rw [SuperTells_ctx, lamplighterlaw08_SuperTells.eq]
  exact SuperTells_vc blocks root words w_blocks w_root
end Lam
