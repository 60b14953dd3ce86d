/- What functions of the program come to, each proved from its code. -/
import Derived.Test.YtdnhjeoacanbcaaLm5
namespace Lam
open Go Go.Proofs
set_option linter.unusedVariables false
def pmem_New.loops : Nat → LInfo
  | _ => ⟨[], [], [], [], []⟩
def pmem_New.H (c : Ctx) (t0 : AV) (h : List AObj) (K : AOut → List AObj → Prop) : Prop :=
  allocW T_api_Mem h fun t2 h =>
  runD (lenD T_sl_int h t0) h fun t5 h =>
  callW false c (.fn (.func 123) [] []) [t5] h (fun t6 h =>
  runD (unD .not t6) h fun t7 h =>
  condW t7
  (runD (buildD T_api_Mem []) h fun t8 h =>
    runH (storeH T_api_Mem h t2 t8) h fun _ h =>
    loadRes (fitD T_api_Mem (loadD h t2)) fun r0 => K (.ret (.tup [r0, (.int .i64 40)])) h)
  (callW false c (.fn (.func 92) [] []) [t0] h (fun t10 h =>
  callW false c (.fn (.func 92) [] []) [t0] h (fun t12 h =>
  runD (buildD T_api_Mem [(0, t10), (1, t12)]) h fun t13 h =>
  runH (storeH T_api_Mem h t2 t13) h fun _ h =>
  loadRes (fitD T_api_Mem (loadD h t2)) fun r0 => K (.ret (.tup [r0, (.int .i64 0)])) h)
  (fun v h => K (.pan v) h))
  (fun v h => K (.pan v) h)))
  (fun v h => K (.pan v) h)
def pmem_Crash.loops : Nat → LInfo
  | 5 => ⟨[15], [false], [2, 6, 13, 14], [], []⟩
  | _ => ⟨[], [], [], [], []⟩
def pmem_Crash.L1 (c : Ctx) (J1 : AV → AV → List AObj → Prop) (K : AOut → List AObj → Prop) (lv : List AV) (h0 : List AObj) (n0 : Nat) (c2 : AV) (c6 : AV) (c13 : AV) (c14 : AV) : Prop :=
  ∃ I : Nat → List AV → List AObj → Prop, (∃ n, I n lv h0) ∧ ∀ n h, ∀ t15, I n [t15] h →
    runD (binD T_int .lss t15 c14) h fun t16 h =>
    condW t16
    (runD (indexAddrD T_sl_int h c13 t15) h fun t18 h =>
    runD (fitD T_int (loadD h t18)) h fun t19 h =>
    runD (fitD T_map_int_int (loadD h c6)) h fun t20 h =>
    runH (mapSetH T_map_int_int h t20 t15 t19) h fun _ h =>
    runD (binD T_int .add t15 (.int .i64 1)) h fun t23 h =>
    (∃ m, m < n ∧ I m (AV.norms n0 h [t23]) (normH n0 h)) ∧ AV.norms n0 h [c2, c6, c13, c14] = [c2, c6, c13, c14])
    (J1 c2 c6 h)
def pmem_Crash.H (c : Ctx) (t0 : AV) (t1 : AV) (h : List AObj) (K : AOut → List AObj → Prop) : Prop :=
  boxW T_api_Mem t0 h fun t2 h =>
  runD (fitD T_api_Mem (loadD h t2)) h fun t9 h =>
  callW false c (.fn (.func 124) [] []) [t9] h (fun t10 h =>
  runD (unD .not t10) h fun t11 h =>
  condW t11
  (K (.ret (.tup [(.sl true (.ints .i64 [])), (.int .i64 40)])) h)
  (runD (makeMapD T_map_int_int h.length) h fun t12 h =>
  allocW T_map_int_int h fun t6 h =>
  runH (storeH T_map_int_int h t6 t12) h fun _ h =>
  runD (lenD T_sl_int h t1) h fun t14 h =>
  joinW (fun (J1 : AV → AV → List AObj → Prop) =>
  promV [false] [(.int .i64 0)] h fun lv h => pmem_Crash.L1 c J1 K (AV.norms h.length h lv) (normH h.length h) h.length (AV.norm h.length h t2) (AV.norm h.length h t6) (AV.norm h.length h t1) (AV.norm h.length h t14))
  (fun t2 t6 h => runD (fitD T_api_Mem (loadD h t2)) h fun t24 h =>
  callW false c (.fn (.func 129) [] []) [t24, (.fn (.func 130) [] [t6])] h (fun t26 h =>
  runD (fieldD T_api_Mem t26 1) h fun t27 h =>
  K (.ret (.tup [t27, (.int .i64 0)])) h)
  (fun v h => K (.pan v) h))))
  (fun v h => K (.pan v) h)
def pmem_sized.loops : Nat → LInfo
  | 1 => ⟨[], [], [], [(3, none), (3, some [5, 8])], []⟩
  | _ => ⟨[], [], [], [], []⟩
def pmem_sized.H (c : Ctx) (t0 : AV) (h : List AObj) (K : AOut → List AObj → Prop) : Prop :=
  runD (binD T_int .leq t0 (.int .i64 4096)) h fun t4 h =>
  joinW (fun (J1 : AV → AV → List AObj → Prop) =>
  guardW t4 true
  (runD (binD T_int .rem t0 (.int .i64 8)) h fun t7 h =>
    runD (binD T_int .eql t7 (.int .i64 0)) h fun t8 h =>
    J1 (.bool true) t8 h)
  (J1 (.bool false) .und h))
  (fun t5 t8 h => runD (pickD t5 t8 (.bool false)) h fun t9 h =>
  K (.ret t9) h)
def pmem_Check.loops : Nat → LInfo
  | 1 => ⟨[], [], [], [(8, none), (5, some [14, 19])], []⟩
  | 6 => ⟨[28], [false], [1, 3, 4, 26, 27], [], []⟩
  | 8 => ⟨[], [], [], [(4, none), (5, some [35, 40]), (2, none), (9, some [42, 51])], []⟩
  | 10 => ⟨[], [], [], [(10, none), (3, some [62, 65])], []⟩
  | _ => ⟨[], [], [], [], []⟩
def pmem_Check.L1 (c : Ctx) (J2 : AV → AV → List AObj → Prop) (K : AOut → List AObj → Prop) (lv : List AV) (h0 : List AObj) (n0 : Nat) (c1 : AV) (c3 : AV) (c4 : AV) (c26 : AV) (c27 : AV) : Prop :=
  ∃ I : Nat → List AV → List AObj → Prop, (∃ n, I n lv h0) ∧ ∀ n h, ∀ t28, I n [t28] h →
    runD (binD T_int .lss t28 c27) h fun t29 h =>
    condW t29
    (runD (indexAddrD T_sl_api_Pending h c26 t28) h fun t30 h =>
    runD (fitD T_api_Pending (loadD h t30)) h fun t31 h =>
    allocW T_api_Pending h fun t6 h =>
    runH (storeH T_api_Pending h t6 t31) h fun _ h =>
    runD (fieldAddrD T_api_Pending t6 0) h fun t32 h =>
    runD (fitD T_int (loadD h t32)) h fun t33 h =>
    runD (binD T_int .lss t33 (.int .i64 0)) h fun t34 h =>
    joinW (fun (J3 : AV → AV → List AObj → Prop) =>
    guardW t34 false
    (runD (fieldAddrD T_api_Pending t6 0) h fun t36 h =>
      runD (fitD T_int (loadD h t36)) h fun t37 h =>
      runD (lenD T_sl_int h c3) h fun t39 h =>
      runD (binD T_int .geq t37 t39) h fun t40 h =>
      J3 (.bool false) t40 h)
    (J3 (.bool true) .und h))
    (fun t35 t40 h => runD (pickD t35 (.bool true) t40) h fun t41 h =>
    joinW (fun (J4 : AV → AV → List AObj → Prop) =>
    guardW t41 false
    (runD (fieldAddrD T_api_Pending t6 2) h fun t43 h =>
      runD (fitD T_bool (loadD h t43)) h fun t44 h =>
      joinW (fun (J5 : AV → AV → List AObj → Prop) =>
      guardW t44 true
      (runD (fieldAddrD T_api_Pending t6 0) h fun t47 h =>
        runD (fitD T_int (loadD h t47)) h fun t48 h =>
        runD (binD T_int .quo t48 (.int .i64 8)) h fun t49 h =>
        runD (lookupD T_map_int_bool h c4 t49) h fun t50 h =>
        J5 (.bool true) t50 h)
      (J5 (.bool false) .und h))
      (fun t45 t50 h => runD (pickD t45 t50 (.bool false)) h fun t51 h =>
      J4 (.bool false) t51 h))
    (J4 (.bool true) .und h))
    (fun t42 t51 h => runD (pickD t42 (.bool true) t51) h fun t52 h =>
    condW t52
    (K (.ret (.bool false)) h)
    (runD (fieldAddrD T_api_Pending t6 0) h fun t54 h =>
    runD (fitD T_int (loadD h t54)) h fun t55 h =>
    runD (binD T_int .quo t55 (.int .i64 8)) h fun t56 h =>
    runD (fieldAddrD T_api_Pending t6 0) h fun t58 h =>
    runD (fitD T_int (loadD h t58)) h fun t59 h =>
    runD (binD T_int .quo t59 (.int .i64 8)) h fun t60 h =>
    runD (lookupD T_map_int_bool h c4 t60) h fun t61 h =>
    joinW (fun (J6 : AV → AV → List AObj → Prop) =>
    guardW t61 false
    (runD (fieldAddrD T_api_Pending t6 2) h fun t63 h =>
      runD (fitD T_bool (loadD h t63)) h fun t64 h =>
      runD (unD .not t64) h fun t65 h =>
      J6 (.bool false) t65 h)
    (J6 (.bool true) .und h))
    (fun t62 t65 h => runD (pickD t62 (.bool true) t65) h fun t66 h =>
    runH (mapSetH T_map_int_bool h c4 t56 t66) h fun _ h =>
    runD (fieldAddrD T_api_Pending t6 0) h fun t68 h =>
    runD (fitD T_int (loadD h t68)) h fun t69 h =>
    runD (fieldAddrD T_api_Pending t6 1) h fun t70 h =>
    runD (fitD T_int (loadD h t70)) h fun t71 h =>
    runD (indexAddrD T_sl_int h c3 t69) h fun t72 h =>
    runH (storeH T_int h t72 t71) h fun _ h =>
    runD (binD T_int .add t28 (.int .i64 1)) h fun t73 h =>
    (∃ m, m < n ∧ I m (AV.norms n0 h [t73]) (normH n0 h)) ∧ AV.norms n0 h [c1, c3, c4, c26, c27] = [c1, c3, c4, c26, c27])))))
    (J2 c1 c3 h)
def pmem_Check.H (c : Ctx) (t0 : AV) (h : List AObj) (K : AOut → List AObj → Prop) : Prop :=
  boxW T_api_Mem t0 h fun t1 h =>
  runD (fieldAddrD T_api_Mem t1 0) h fun t7 h =>
  runD (fitD T_sl_int (loadD h t7)) h fun t8 h =>
  runD (lenD T_sl_int h t8) h fun t9 h =>
  runD (fieldAddrD T_api_Mem t1 1) h fun t10 h =>
  runD (fitD T_sl_int (loadD h t10)) h fun t11 h =>
  runD (lenD T_sl_int h t11) h fun t12 h =>
  runD (binD T_int .neq t9 t12) h fun t13 h =>
  joinW (fun (J1 : AV → AV → List AObj → Prop) =>
  guardW t13 false
  (runD (fieldAddrD T_api_Mem t1 0) h fun t15 h =>
    runD (fitD T_sl_int (loadD h t15)) h fun t16 h =>
    runD (lenD T_sl_int h t16) h fun t17 h =>
    callW false c (.fn (.func 123) [] []) [t17] h (fun t18 h =>
    runD (unD .not t18) h fun t19 h =>
    J1 (.bool false) t19 h)
    (fun v h => K (.pan v) h))
  (J1 (.bool true) .und h))
  (fun t14 t19 h => runD (pickD t14 (.bool true) t19) h fun t20 h =>
  condW t20
  (K (.ret (.bool false)) h)
  (runD (fieldAddrD T_api_Mem t1 1) h fun t21 h =>
  runD (fitD T_sl_int (loadD h t21)) h fun t22 h =>
  callW false c (.fn (.func 92) [] []) [t22] h (fun t23 h =>
  runD (makeMapD T_map_int_bool h.length) h fun t24 h =>
  runD (fieldAddrD T_api_Mem t1 2) h fun t25 h =>
  runD (fitD T_sl_api_Pending (loadD h t25)) h fun t26 h =>
  runD (lenD T_sl_api_Pending h t26) h fun t27 h =>
  joinW (fun (J2 : AV → AV → List AObj → Prop) =>
  promV [false] [(.int .i64 0)] h fun lv h => pmem_Check.L1 c J2 K (AV.norms h.length h lv) (normH h.length h) h.length (AV.norm h.length h t1) (AV.norm h.length h t23) (AV.norm h.length h t24) (AV.norm h.length h t26) (AV.norm h.length h t27))
  (fun t1 t3 h => runD (fieldAddrD T_api_Mem t1 0) h fun t75 h =>
  runD (fitD T_sl_int (loadD h t75)) h fun t76 h =>
  callW false c (.fn (.func 78) [] []) [t3, t76] h (fun t77 h =>
  K (.ret t77) h)
  (fun v h => K (.pan v) h)))
  (fun v h => K (.pan v) h)))
def pmem_keep.loops : Nat → LInfo
  | 3 => ⟨[17], [false], [1, 4, 5, 15, 16], [], [5]⟩
  | _ => ⟨[], [], [], [], []⟩
def pmem_keep.L1 (c : Ctx) (J1 : AV → AV → List AObj → Prop) (K : AOut → List AObj → Prop) (lv : List AV) (h0 : List AObj) (n0 : Nat) (c1 : AV) (c4 : AV) (c5 : AV) (c15 : AV) (c16 : AV) : Prop :=
  ∃ I : Nat → List AV → List AObj → Prop, (∃ n, I n lv h0) ∧ ∀ n h, ∀ t17, I n [t17] h →
    runD (binD T_int .lss t17 c16) h fun t18 h =>
    condW t18
    (joinW (fun (J2 : List AObj → Prop) =>
    runD (indexAddrD T_sl_api_Pending h c15 t17) h fun t19 h =>
    runD (fitD T_api_Pending (loadD h t19)) h fun t20 h =>
    allocW T_api_Pending h fun t7 h =>
    runH (storeH T_api_Pending h t7 t20) h fun _ h =>
    runD (fitD T_api_Pending (loadD h t7)) h fun t22 h =>
    callW false c c1 [t22] h (fun t23 h =>
    condW t23
    (runD (fieldAddrD T_api_Mem c5 1) h fun t24 h =>
      runD (fitD T_sl_int (loadD h t24)) h fun t25 h =>
      runD (fieldAddrD T_api_Pending t7 0) h fun t26 h =>
      runD (fitD T_int (loadD h t26)) h fun t27 h =>
      runD (fieldAddrD T_api_Pending t7 1) h fun t28 h =>
      runD (fitD T_int (loadD h t28)) h fun t29 h =>
      runD (indexAddrD T_sl_int h t25 t27) h fun t30 h =>
      runH (storeH T_int h t30 t29) h fun _ h =>
      J2 h)
    (runD (fieldAddrD T_api_Mem c5 2) h fun t31 h =>
    runD (fitD T_sl_api_Pending (loadD h t31)) h fun t32 h =>
    runD (fitD T_api_Pending (loadD h t7)) h fun t33 h =>
    runD (buildSliceD T_sl_api_Pending 1 [(0, t33)] h.length) h fun t34 h =>
    runDM (appendD T_sl_api_Pending h t32 t34 h.length) (appendH T_sl_api_Pending h t32 t34) h fun t35 h =>
    runD (fieldAddrD T_api_Mem c5 2) h fun t36 h =>
    runH (storeH T_sl_api_Pending h t36 t35) h fun _ h =>
    J2 h))
    (fun v h => K (.pan v) h))
    (fun h => runD (binD T_int .add t17 (.int .i64 1)) h fun t37 h =>
    (∃ m, m < n ∧ I m (AV.norms n0 h [t37]) (normH n0 h)) ∧ AV.norms n0 h [c1, c4, c5, c15, c16] = [c1, c4, c5, c15, c16]))
    (J1 c4 c5 h)
def pmem_keep.H (c : Ctx) (t0 : AV) (t1 : AV) (h : List AObj) (K : AOut → List AObj → Prop) : Prop :=
  boxW T_api_Mem t0 h fun t2 h =>
  allocW T_api_Mem h fun t4 h =>
  runD (fieldAddrD T_api_Mem t2 0) h fun t8 h =>
  runD (fitD T_sl_int (loadD h t8)) h fun t9 h =>
  runD (fieldAddrD T_api_Mem t2 1) h fun t10 h =>
  runD (fitD T_sl_int (loadD h t10)) h fun t11 h =>
  callW false c.noS (.fn (.func 92) [] []) [t11] h (fun t12 h =>
  runD (buildD T_api_Mem [(0, t9), (1, t12)]) h fun t13 h =>
  allocW T_api_Mem h fun t5 h =>
  runH (storeH T_api_Mem h t5 t13) h fun _ h =>
  runD (fieldAddrD T_api_Mem t2 2) h fun t14 h =>
  runD (fitD T_sl_api_Pending (loadD h t14)) h fun t15 h =>
  runD (lenD T_sl_api_Pending h t15) h fun t16 h =>
  joinW (fun (J1 : AV → AV → List AObj → Prop) =>
  promV [false] [(.int .i64 0)] (boxH [t5] h) fun lv h => pmem_keep.L1 c J1 K (AV.norms h.length h lv) (normH h.length h) h.length (AV.norm h.length h t1) (AV.norm h.length h t4) (AV.norm h.length h t5) (AV.norm h.length h t15) (AV.norm h.length h t16))
  (fun t4 t5 h => runD (fitD T_api_Mem (loadD h t5)) h fun t38 h =>
  runH (storeH T_api_Mem h t4 t38) h fun _ h =>
  loadRes (fitD T_api_Mem (loadD h t4)) fun r0 => K (.ret r0) h))
  (fun _ _ => False)
def pmem_Crash_1.loops : Nat → LInfo
  | _ => ⟨[], [], [], [], []⟩
def pmem_Crash_1.H (c : Ctx) (t0 : AV) (t1 : AV) (h : List AObj) (K : AOut → List AObj → Prop) : Prop :=
  boxW T_api_Pending t0 h fun t2 h =>
  runD (fitD T_map_int_int (loadD h t1)) h fun t5 h =>
  runD (fieldAddrD T_api_Pending t2 0) h fun t6 h =>
  runD (fitD T_int (loadD h t6)) h fun t7 h =>
  runD (binD T_int .quo t7 (.int .i64 8)) h fun t8 h =>
  runD (lookupD T_map_int_int h t5 t8) h fun t9 h =>
  runD (fitD T_map_int_int (loadD h t1)) h fun t10 h =>
  runD (fieldAddrD T_api_Pending t2 0) h fun t11 h =>
  runD (fitD T_int (loadD h t11)) h fun t12 h =>
  runD (binD T_int .quo t12 (.int .i64 8)) h fun t13 h =>
  runD (maxD t9 (.int .i64 1)) h fun t15 h =>
  runD (binD T_int .sub t15 (.int .i64 1)) h fun t16 h =>
  runH (mapSetH T_map_int_int h t10 t13 t16) h fun _ h =>
  runD (binD T_int .gtr t9 (.int .i64 0)) h fun t18 h =>
  K (.ret t18) h
def pmem_Put.loops : Nat → LInfo
  | _ => ⟨[], [], [], [], []⟩
def pmem_Put.H (c : Ctx) (t0 : AV) (t1 : AV) (t2 : AV) (h : List AObj) (K : AOut → List AObj → Prop) : Prop :=
  boxW T_api_Mem t0 h fun t3 h =>
  allocW T_api_Mem h fun t6 h =>
  runD (fitD T_api_Mem (loadD h t3)) h fun t9 h =>
  callW false c (.fn (.func 145) [] []) [t9, t1] h (fun t11 h =>
  runD (unD .not t11) h fun t12 h =>
  condW t12
  (runD (fitD T_api_Mem (loadD h t3)) h fun t13 h =>
    runH (storeH T_api_Mem h t6 t13) h fun _ h =>
    loadRes (fitD T_api_Mem (loadD h t6)) fun r0 => K (.ret (.tup [r0, (.int .i64 40)])) h)
  (runD (fieldAddrD T_api_Mem t3 0) h fun t14 h =>
  runD (fitD T_sl_int (loadD h t14)) h fun t15 h =>
  runD (lenD T_sl_int h t15) h fun t16 h =>
  runD (makeSliceD T_sl_int t16 t16 h.length) h fun t17 h =>
  runD (fieldAddrD T_api_Mem t3 0) h fun t19 h =>
  runD (fitD T_sl_int (loadD h t19)) h fun t20 h =>
  runM (copyH T_sl_int h t17 t20) h fun t21 h =>
  runD (indexAddrD T_sl_int h t17 t1) h fun t25 h =>
  runH (storeH T_int h t25 t2) h fun _ h =>
  runD (fieldAddrD T_api_Mem t3 1) h fun t27 h =>
  runD (fitD T_sl_int (loadD h t27)) h fun t28 h =>
  runD (fieldAddrD T_api_Mem t3 2) h fun t29 h =>
  runD (fitD T_sl_api_Pending (loadD h t29)) h fun t30 h =>
  callW false c.noS (.fn (.func 146) [] []) [t30] h (fun t31 h =>
  runD (buildD T_api_Pending [(0, t1), (1, t2)]) h fun t34 h =>
  runD (buildSliceD T_sl_api_Pending 1 [(0, t34)] h.length) h fun t35 h =>
  runDM (appendD T_sl_api_Pending h t31 t35 h.length) (appendH T_sl_api_Pending h t31 t35) h fun t36 h =>
  runD (buildD T_api_Mem [(0, t17), (1, t28), (2, t36)]) h fun t37 h =>
  runH (storeH T_api_Mem h t6 t37) h fun _ h =>
  sepB t31 [t27] = true ∧ loadRes (fitD T_api_Mem (loadD h t6)) fun r0 => K (.ret (.tup [r0, (.int .i64 0)])) h)
  (fun _ _ => False)))
  (fun v h => K (.pan v) h)
def pmem_Flush.loops : Nat → LInfo
  | _ => ⟨[], [], [], [], []⟩
def pmem_Flush.H (c : Ctx) (t0 : AV) (t1 : AV) (h : List AObj) (K : AOut → List AObj → Prop) : Prop :=
  boxW T_api_Mem t0 h fun t2 h =>
  allocW T_api_Mem h fun t4 h =>
  runD (fitD T_api_Mem (loadD h t2)) h fun t8 h =>
  runD (fitD T_api_Mem (loadD h t2)) h fun t9 h =>
  callW false c.noS (.fn (.func 147) [] []) [t9, t1] h (fun t11 h =>
  callW false c.noS (.fn (.func 145) [] []) [t8, t11] h (fun t12 h =>
  runD (unD .not t12) h fun t13 h =>
  condW t13
  (runD (fitD T_api_Mem (loadD h t2)) h fun t14 h =>
    runH (storeH T_api_Mem h t4 t14) h fun _ h =>
    loadRes (fitD T_api_Mem (loadD h t4)) fun r0 => K (.ret (.tup [r0, (.int .i64 40)])) h)
  (runD (fieldAddrD T_api_Mem t2 2) h fun t15 h =>
  runD (fitD T_sl_api_Pending (loadD h t15)) h fun t16 h =>
  callW false c (.fn (.func 148) [] []) [t16] h (fun t17 h =>
  allocW T_sl_api_Pending h fun t6 h =>
  runH (storeH T_sl_api_Pending h t6 t17) h fun _ h =>
  runD (fitD T_api_Mem (loadD h t2)) h fun t18 h =>
  callW false c (.fn (.func 149) [] []) [t18, t1] h (fun t20 h =>
  joinW (fun (J1 : AV → AV → AV → List AObj → Prop) =>
  rangeX c.iterS t20 h
  (fun id r args h K => lpIs h id .ready r ∧ argX1 args fun t21 =>
  lpIs h id .ready r ∧
  runD (fitD T_sl_api_Pending (loadD (List.set h id (.lp .busy none r)) t6)) (List.set h id (.lp .busy none r)) fun t22 h =>
  runD (indexAddrD T_sl_api_Pending h t22 t21) h fun t24 h =>
  runD (fieldAddrD T_api_Pending t24 2) h fun t25 h =>
  runH (storeH T_bool h t25 (.bool true)) h fun _ h =>
  lpIs h id .busy r ∧ K (.ret (.bool true)) (List.set h id (.lp .ready none r)))
  (fun id r ao h => endX id r ao h
  (fun h => J1 t2 t4 t6 h)
  (fun h => loadRes (fitD T_api_Mem (loadD h t4)) fun r0 => K (.ret (.tup [r0, (.int .i64 0)])) h)
  (fun i h => exitW i 0 (J1 t2 t4 t6 h) (False))
  (fun l h => False)
  (fun v h => K (.pan v) h)))
  (fun t2 t4 t6 h => runD (fitD T_sl_api_Pending (loadD h t6)) h fun t26 h =>
  runD (fieldAddrD T_api_Mem t2 2) h fun t27 h =>
  runH (storeH T_sl_api_Pending h t27 t26) h fun _ h =>
  runD (fitD T_api_Mem (loadD h t2)) h fun t28 h =>
  runH (storeH T_api_Mem h t4 t28) h fun _ h =>
  loadRes (fitD T_api_Mem (loadD h t4)) fun r0 => K (.ret (.tup [r0, (.int .i64 0)])) h))
  (fun v h => K (.pan v) h))
  (fun v h => K (.pan v) h)))
  (fun _ _ => False))
  (fun _ _ => False)
def pmem_Fence.loops : Nat → LInfo
  | _ => ⟨[], [], [], [], []⟩
def pmem_Fence.H (c : Ctx) (t0 : AV) (h : List AObj) (K : AOut → List AObj → Prop) : Prop :=
  boxW T_api_Mem t0 h fun t1 h =>
  allocW T_api_Mem h fun t2 h =>
  runD (fitD T_api_Mem (loadD h t1)) h fun t4 h =>
  callW false c (.fn (.func 124) [] []) [t4] h (fun t5 h =>
  runD (unD .not t5) h fun t6 h =>
  condW t6
  (runD (fitD T_api_Mem (loadD h t1)) h fun t7 h =>
    runH (storeH T_api_Mem h t2 t7) h fun _ h =>
    loadRes (fitD T_api_Mem (loadD h t2)) fun r0 => K (.ret (.tup [r0, (.int .i64 40)])) h)
  (runD (fitD T_api_Mem (loadD h t1)) h fun t8 h =>
  callW false c (.fn (.func 129) [] []) [t8, (.fn (.func 150) [] [])] h (fun t9 h =>
  runH (storeH T_api_Mem h t2 t9) h fun _ h =>
  loadRes (fitD T_api_Mem (loadD h t2)) fun r0 => K (.ret (.tup [r0, (.int .i64 0)])) h)
  (fun v h => K (.pan v) h)))
  (fun v h => K (.pan v) h)
def pmem_place.loops : Nat → LInfo
  | 1 => ⟨[], [], [], [(3, none), (5, some [7, 12]), (2, none), (2, some [14, 16])], []⟩
  | _ => ⟨[], [], [], [], []⟩
def pmem_place.H (c : Ctx) (t0 : AV) (t1 : AV) (h : List AObj) (K : AOut → List AObj → Prop) : Prop :=
  boxW T_api_Mem t0 h fun t2 h =>
  runD (binD T_int .geq t1 (.int .i64 0)) h fun t6 h =>
  joinW (fun (J1 : AV → AV → List AObj → Prop) =>
  guardW t6 true
  (runD (fieldAddrD T_api_Mem t2 0) h fun t9 h =>
    runD (fitD T_sl_int (loadD h t9)) h fun t10 h =>
    runD (lenD T_sl_int h t10) h fun t11 h =>
    runD (binD T_int .lss t1 t11) h fun t12 h =>
    J1 (.bool true) t12 h)
  (J1 (.bool false) .und h))
  (fun t7 t12 h => runD (pickD t7 t12 (.bool false)) h fun t13 h =>
  joinW (fun (J2 : AV → AV → List AObj → Prop) =>
  guardW t13 true
  (runD (fitD T_api_Mem (loadD h t2)) h fun t15 h =>
    callW false c (.fn (.func 124) [] []) [t15] h (fun t16 h =>
    J2 (.bool true) t16 h)
    (fun v h => K (.pan v) h))
  (J2 (.bool false) .und h))
  (fun t14 t16 h => runD (pickD t14 t16 (.bool false)) h fun t17 h =>
  K (.ret t17) h))
def pmem_first.loops : Nat → LInfo
  | 1 => ⟨[], [], [], [(3, none), (6, some [7, 13])], []⟩
  | _ => ⟨[], [], [], [], []⟩
def pmem_first.H (c : Ctx) (t0 : AV) (t1 : AV) (h : List AObj) (K : AOut → List AObj → Prop) : Prop :=
  boxW T_api_Mem t0 h fun t2 h =>
  runD (binD T_int .lss t1 (.int .i64 0)) h fun t6 h =>
  joinW (fun (J1 : AV → AV → List AObj → Prop) =>
  guardW t6 false
  (runD (fieldAddrD T_api_Mem t2 0) h fun t9 h =>
    runD (fitD T_sl_int (loadD h t9)) h fun t10 h =>
    runD (lenD T_sl_int h t10) h fun t11 h =>
    runD (binD T_int .quo t11 (.int .i64 8)) h fun t12 h =>
    runD (binD T_int .geq t1 t12) h fun t13 h =>
    J1 (.bool false) t13 h)
  (J1 (.bool true) .und h))
  (fun t7 t13 h => runD (pickD t7 (.bool true) t13) h fun t14 h =>
  condW t14
  (K (.ret (.int .i64 (-1))) h)
  (runD (binD T_int .mul t1 (.int .i64 8)) h fun t16 h =>
  K (.ret t16) h))
def pmem_of.loops : Nat → LInfo
  | _ => ⟨[], [], [], [], []⟩
def pmem_of.H (c : Ctx) (t0 : AV) (t1 : AV) (h : List AObj) (K : AOut → List AObj → Prop) : Prop :=
  boxW T_api_Mem t0 h fun t2 h =>
  boxW T_int t1 h fun t3 h =>
  K (.ret (.fn (.func 151) [] [t2, t3])) h
def pmem_Fence_1.loops : Nat → LInfo
  | _ => ⟨[], [], [], [], []⟩
def pmem_Fence_1.H (c : Ctx) (t0 : AV) (h : List AObj) (K : AOut → List AObj → Prop) : Prop :=
  boxW T_api_Pending t0 h fun t1 h =>
  runD (fieldAddrD T_api_Pending t1 2) h fun t3 h =>
  runD (fitD T_bool (loadD h t3)) h fun t4 h =>
  K (.ret t4) h
def pmem_of_1.loops : Nat → LInfo
  | 1 => ⟨[9], [false], [0, 2, 7, 8], [], []⟩
  | 3 => ⟨[], [], [], [(6, none), (4, some [19, 23])], []⟩
  | _ => ⟨[], [], [], [], []⟩
def pmem_of_1.L1 (c : Ctx) (J1 : List AObj → Prop) (K : AOut → List AObj → Prop) (lv : List AV) (h0 : List AObj) (n0 : Nat) (c0 : AV) (c2 : AV) (c7 : AV) (c8 : AV) : Prop :=
  ∃ I : Nat → List AV → List AObj → Prop, (∃ n, I n lv h0) ∧ ∀ n h, ∀ t9, I n [t9] h →
    runD (binD T_int .lss t9 c8) h fun t10 h =>
    condW t10
    (runD (indexAddrD T_sl_api_Pending h c7 t9) h fun t12 h =>
    runD (fitD T_api_Pending (loadD h t12)) h fun t13 h =>
    allocW T_api_Pending h fun t5 h =>
    runH (storeH T_api_Pending h t5 t13) h fun _ h =>
    runD (fieldAddrD T_api_Pending t5 0) h fun t14 h =>
    runD (fitD T_int (loadD h t14)) h fun t15 h =>
    runD (binD T_int .quo t15 (.int .i64 8)) h fun t16 h =>
    runD (fitD T_int (loadD h c2)) h fun t17 h =>
    runD (binD T_int .eql t16 t17) h fun t18 h =>
    joinW (fun (J2 : AV → AV → List AObj → Prop) =>
    guardW t18 true
    (callW false c c0 [t9] h (fun t22 h =>
      runD (unD .not t22) h fun t23 h =>
      J2 (.bool true) t23 h)
      (fun v h => K (.pan v) h))
    (J2 (.bool false) .und h))
    (fun t19 t23 h => runD (pickD t19 t23 (.bool false)) h fun t24 h =>
    condW t24
    (K (.ret (.tup [])) h)
    (runD (binD T_int .add t9 (.int .i64 1)) h fun t25 h =>
    (∃ m, m < n ∧ I m (AV.norms n0 h [t25]) (normH n0 h)) ∧ AV.norms n0 h [c0, c2, c7, c8] = [c0, c2, c7, c8])))
    (J1 h)
def pmem_of_1.H (c : Ctx) (t0 : AV) (t1 : AV) (t2 : AV) (h : List AObj) (K : AOut → List AObj → Prop) : Prop :=
  runD (fieldAddrD T_api_Mem t1 2) h fun t6 h =>
  runD (fitD T_sl_api_Pending (loadD h t6)) h fun t7 h =>
  runD (lenD T_sl_api_Pending h t7) h fun t8 h =>
  joinW (fun (J1 : List AObj → Prop) =>
  promV [false] [(.int .i64 0)] h fun lv h => pmem_of_1.L1 c J1 K (AV.norms h.length h lv) (normH h.length h) h.length (AV.norm h.length h t0) (AV.norm h.length h t2) (AV.norm h.length h t7) (AV.norm h.length h t8))
  (fun h => K (.ret (.tup [])) h)
theorem pmem_New.eq (F : List (FuncId × Contract)) (S : List (FuncId × Con)) (t0 : AV) (h : List AObj) (K : AOut → List AObj → Prop) : funW (ctx F S pmem_New.loops) Try.f103 [t0] h K = pmem_New.H (ctx F S pmem_New.loops) t0 h K := by kernel_rfl
theorem pmem_Crash.eq (F : List (FuncId × Contract)) (S : List (FuncId × Con)) (t0 t1 : AV) (h : List AObj) (K : AOut → List AObj → Prop) : funW (ctx F S pmem_Crash.loops) Try.f111 [t0, t1] h K = pmem_Crash.H (ctx F S pmem_Crash.loops) t0 t1 h K := by kernel_rfl
theorem pmem_sized.eq (F : List (FuncId × Contract)) (S : List (FuncId × Con)) (t0 : AV) (h : List AObj) (K : AOut → List AObj → Prop) : funW (ctx F S pmem_sized.loops) Try.f123 [t0] h K = pmem_sized.H (ctx F S pmem_sized.loops) t0 h K := by kernel_rfl
theorem pmem_Check.eq (F : List (FuncId × Contract)) (S : List (FuncId × Con)) (t0 : AV) (h : List AObj) (K : AOut → List AObj → Prop) : funW (ctx F S pmem_Check.loops) Try.f124 [t0] h K = pmem_Check.H (ctx F S pmem_Check.loops) t0 h K := by kernel_rfl
theorem pmem_keep.eq (F : List (FuncId × Contract)) (S : List (FuncId × Con)) (t0 t1 : AV) (h : List AObj) (K : AOut → List AObj → Prop) : funW (ctx F S pmem_keep.loops) Try.f129 [t0, t1] h K = pmem_keep.H (ctx F S pmem_keep.loops) t0 t1 h K := by kernel_rfl
theorem pmem_Crash_1.eq (F : List (FuncId × Contract)) (S : List (FuncId × Con)) (t0 t1 : AV) (h : List AObj) (K : AOut → List AObj → Prop) : funW (ctx F S pmem_Crash_1.loops) Try.f130 [t0, t1] h K = pmem_Crash_1.H (ctx F S pmem_Crash_1.loops) t0 t1 h K := by kernel_rfl
theorem pmem_Put.eq (F : List (FuncId × Contract)) (S : List (FuncId × Con)) (t0 t1 t2 : AV) (h : List AObj) (K : AOut → List AObj → Prop) : funW (ctx F S pmem_Put.loops) Try.f142 [t0, t1, t2] h K = pmem_Put.H (ctx F S pmem_Put.loops) t0 t1 t2 h K := by kernel_rfl
theorem pmem_Flush.eq (F : List (FuncId × Contract)) (S : List (FuncId × Con)) (Is : List (FuncId × (Con → Con))) (t0 t1 : AV) (h : List AObj) (K : AOut → List AObj → Prop) : funW (ctxI F S Is pmem_Flush.loops) Try.f143 [t0, t1] h K = pmem_Flush.H (ctxI F S Is pmem_Flush.loops) t0 t1 h K := by kernel_rfl
theorem pmem_Fence.eq (F : List (FuncId × Contract)) (S : List (FuncId × Con)) (t0 : AV) (h : List AObj) (K : AOut → List AObj → Prop) : funW (ctx F S pmem_Fence.loops) Try.f144 [t0] h K = pmem_Fence.H (ctx F S pmem_Fence.loops) t0 h K := by kernel_rfl
theorem pmem_place.eq (F : List (FuncId × Contract)) (S : List (FuncId × Con)) (t0 t1 : AV) (h : List AObj) (K : AOut → List AObj → Prop) : funW (ctx F S pmem_place.loops) Try.f145 [t0, t1] h K = pmem_place.H (ctx F S pmem_place.loops) t0 t1 h K := by kernel_rfl
theorem pmem_first.eq (F : List (FuncId × Contract)) (S : List (FuncId × Con)) (t0 t1 : AV) (h : List AObj) (K : AOut → List AObj → Prop) : funW (ctx F S pmem_first.loops) Try.f147 [t0, t1] h K = pmem_first.H (ctx F S pmem_first.loops) t0 t1 h K := by kernel_rfl
theorem pmem_of.eq (F : List (FuncId × Contract)) (S : List (FuncId × Con)) (t0 t1 : AV) (h : List AObj) (K : AOut → List AObj → Prop) : funW (ctx F S pmem_of.loops) Try.f149 [t0, t1] h K = pmem_of.H (ctx F S pmem_of.loops) t0 t1 h K := by kernel_rfl
theorem pmem_Fence_1.eq (F : List (FuncId × Contract)) (S : List (FuncId × Con)) (t0 : AV) (h : List AObj) (K : AOut → List AObj → Prop) : funW (ctx F S pmem_Fence_1.loops) Try.f150 [t0] h K = pmem_Fence_1.H (ctx F S pmem_Fence_1.loops) t0 h K := by kernel_rfl
theorem pmem_of_1.eq (F : List (FuncId × Contract)) (S : List (FuncId × Con)) (l : Nat) (Y : Con) (t0 t1 t2 : AV) (h : List AObj) (K : AOut → List AObj → Prop) : funW ((ctx F S pmem_of_1.loops).withY l Y) Try.f151 [t0, t1, t2] h K = pmem_of_1.H ((ctx F S pmem_of_1.loops).withY l Y) t0 t1 t2 h K := by kernel_rfl
theorem pmem_New.at : Try.prog.funcs[103]? = some Try.f103 := by kernel_rfl
theorem pmem_New.nm : (Try.f103.name == "runtime.NumGoroutine") = false := by kernel_rfl
theorem pmem_New.bd : Try.f103.body.isNone = false := by kernel_rfl
theorem pmem_Crash.at : Try.prog.funcs[111]? = some Try.f111 := by kernel_rfl
theorem pmem_Crash.nm : (Try.f111.name == "runtime.NumGoroutine") = false := by kernel_rfl
theorem pmem_Crash.bd : Try.f111.body.isNone = false := by kernel_rfl
theorem pmem_sized.at : Try.prog.funcs[123]? = some Try.f123 := by kernel_rfl
theorem pmem_sized.nm : (Try.f123.name == "runtime.NumGoroutine") = false := by kernel_rfl
theorem pmem_sized.bd : Try.f123.body.isNone = false := by kernel_rfl
theorem pmem_Check.at : Try.prog.funcs[124]? = some Try.f124 := by kernel_rfl
theorem pmem_Check.nm : (Try.f124.name == "runtime.NumGoroutine") = false := by kernel_rfl
theorem pmem_Check.bd : Try.f124.body.isNone = false := by kernel_rfl
theorem pmem_keep.at : Try.prog.funcs[129]? = some Try.f129 := by kernel_rfl
theorem pmem_keep.nm : (Try.f129.name == "runtime.NumGoroutine") = false := by kernel_rfl
theorem pmem_keep.bd : Try.f129.body.isNone = false := by kernel_rfl
theorem pmem_Crash_1.at : Try.prog.funcs[130]? = some Try.f130 := by kernel_rfl
theorem pmem_Crash_1.nm : (Try.f130.name == "runtime.NumGoroutine") = false := by kernel_rfl
theorem pmem_Crash_1.bd : Try.f130.body.isNone = false := by kernel_rfl
theorem pmem_Put.at : Try.prog.funcs[142]? = some Try.f142 := by kernel_rfl
theorem pmem_Put.nm : (Try.f142.name == "runtime.NumGoroutine") = false := by kernel_rfl
theorem pmem_Put.bd : Try.f142.body.isNone = false := by kernel_rfl
theorem pmem_Flush.at : Try.prog.funcs[143]? = some Try.f143 := by kernel_rfl
theorem pmem_Flush.nm : (Try.f143.name == "runtime.NumGoroutine") = false := by kernel_rfl
theorem pmem_Flush.bd : Try.f143.body.isNone = false := by kernel_rfl
theorem pmem_Fence.at : Try.prog.funcs[144]? = some Try.f144 := by kernel_rfl
theorem pmem_Fence.nm : (Try.f144.name == "runtime.NumGoroutine") = false := by kernel_rfl
theorem pmem_Fence.bd : Try.f144.body.isNone = false := by kernel_rfl
theorem pmem_place.at : Try.prog.funcs[145]? = some Try.f145 := by kernel_rfl
theorem pmem_place.nm : (Try.f145.name == "runtime.NumGoroutine") = false := by kernel_rfl
theorem pmem_place.bd : Try.f145.body.isNone = false := by kernel_rfl
theorem pmem_first.at : Try.prog.funcs[147]? = some Try.f147 := by kernel_rfl
theorem pmem_first.nm : (Try.f147.name == "runtime.NumGoroutine") = false := by kernel_rfl
theorem pmem_first.bd : Try.f147.body.isNone = false := by kernel_rfl
theorem pmem_of.at : Try.prog.funcs[149]? = some Try.f149 := by kernel_rfl
theorem pmem_of.nm : (Try.f149.name == "runtime.NumGoroutine") = false := by kernel_rfl
theorem pmem_of.bd : Try.f149.body.isNone = false := by kernel_rfl
theorem pmem_Fence_1.at : Try.prog.funcs[150]? = some Try.f150 := by kernel_rfl
theorem pmem_Fence_1.nm : (Try.f150.name == "runtime.NumGoroutine") = false := by kernel_rfl
theorem pmem_Fence_1.bd : Try.f150.body.isNone = false := by kernel_rfl
theorem pmem_of_1.at : Try.prog.funcs[151]? = some Try.f151 := by kernel_rfl
theorem pmem_of_1.nm : (Try.f151.name == "runtime.NumGoroutine") = false := by kernel_rfl
theorem pmem_of_1.bd : Try.f151.body.isNone = false := by kernel_rfl
end Lam
namespace Lam
open Go Go.Proofs
set_option linter.unusedVariables false
def slices_Equal_sl_int_int.loops : Nat → LInfo
  | 4 => ⟨[13], [false], [0, 1, 12], [], []⟩
  | _ => ⟨[], [], [], [], []⟩
def slices_Equal_sl_int_int.L1 (c : Ctx) (J1 : List AObj → Prop) (K : AOut → List AObj → Prop) (lv : List AV) (h0 : List AObj) (n0 : Nat) (c0 : AV) (c1 : AV) (c12 : AV) : Prop :=
  ∃ I : Nat → List AV → List AObj → Prop, (∃ n, I n lv h0) ∧ ∀ n h, ∀ t13, I n [t13] h →
    runD (binD T_int .lss t13 c12) h fun t14 h =>
    condW t14
    (runD (indexAddrD T_sl_int h c0 t13) h fun t18 h =>
    runD (fitD T_int (loadD h t18)) h fun t19 h =>
    runD (indexAddrD T_sl_int h c1 t13) h fun t22 h =>
    runD (fitD T_int (loadD h t22)) h fun t23 h =>
    runD (binD T_int .neq t19 t23) h fun t24 h =>
    condW t24
    (K (.ret (.bool false)) h)
    (runD (binD T_int .add t13 (.int .i64 1)) h fun t25 h =>
    (∃ m, m < n ∧ I m (AV.norms n0 h [t25]) (normH n0 h)) ∧ AV.norms n0 h [c0, c1, c12] = [c0, c1, c12]))
    (J1 h)
def slices_Equal_sl_int_int.H (c : Ctx) (t0 : AV) (t1 : AV) (h : List AObj) (K : AOut → List AObj → Prop) : Prop :=
  runD (lenD T_sl_int h t0) h fun t7 h =>
  runD (lenD T_sl_int h t1) h fun t9 h =>
  runD (binD T_int .neq t7 t9) h fun t10 h =>
  condW t10
  (K (.ret (.bool false)) h)
  (runD (lenD T_sl_int h t0) h fun t12 h =>
  joinW (fun (J1 : List AObj → Prop) =>
  promV [false] [(.int .i64 0)] h fun lv h => slices_Equal_sl_int_int.L1 c J1 K (AV.norms h.length h lv) (normH h.length h) h.length (AV.norm h.length h t0) (AV.norm h.length h t1) (AV.norm h.length h t12))
  (fun h => K (.ret (.bool true)) h))
def slices_ContainsFunc_sl_int_int.loops : Nat → LInfo
  | _ => ⟨[], [], [], [], []⟩
def slices_ContainsFunc_sl_int_int.H (c : Ctx) (t0 : AV) (t1 : AV) (h : List AObj) (K : AOut → List AObj → Prop) : Prop :=
  callW false c (.fn (.func 90) [] []) [t0, t1] h (fun t7 h =>
  runD (binD T_int .geq t7 (.int .i64 0)) h fun t8 h =>
  K (.ret t8) h)
  (fun v h => K (.pan v) h)
def slices_IndexFunc_sl_int_int.loops : Nat → LInfo
  | 2 => ⟨[8], [false], [0, 1, 7], [], []⟩
  | _ => ⟨[], [], [], [], []⟩
def slices_IndexFunc_sl_int_int.L1 (c : Ctx) (J1 : List AObj → Prop) (K : AOut → List AObj → Prop) (lv : List AV) (h0 : List AObj) (n0 : Nat) (c0 : AV) (c1 : AV) (c7 : AV) : Prop :=
  ∃ I : Nat → List AV → List AObj → Prop, (∃ n, I n lv h0) ∧ ∀ n h, ∀ t8, I n [t8] h →
    runD (binD T_int .lss t8 c7) h fun t9 h =>
    condW t9
    (runD (indexAddrD T_sl_int h c0 t8) h fun t14 h =>
    runD (fitD T_int (loadD h t14)) h fun t15 h =>
    callW false c c1 [t15] h (fun t16 h =>
    condW t16
    (K (.ret t8) h)
    (runD (binD T_int .add t8 (.int .i64 1)) h fun t18 h =>
    (∃ m, m < n ∧ I m (AV.norms n0 h [t18]) (normH n0 h)) ∧ AV.norms n0 h [c0, c1, c7] = [c0, c1, c7]))
    (fun v h => K (.pan v) h))
    (J1 h)
def slices_IndexFunc_sl_int_int.H (c : Ctx) (t0 : AV) (t1 : AV) (h : List AObj) (K : AOut → List AObj → Prop) : Prop :=
  runD (lenD T_sl_int h t0) h fun t7 h =>
  joinW (fun (J1 : List AObj → Prop) =>
  promV [false] [(.int .i64 0)] h fun lv h => slices_IndexFunc_sl_int_int.L1 c J1 K (AV.norms h.length h lv) (normH h.length h) h.length (AV.norm h.length h t0) (AV.norm h.length h t1) (AV.norm h.length h t7))
  (fun h => K (.ret (.int .i64 (-1))) h)
def slices_Clone_sl_int_int.loops : Nat → LInfo
  | _ => ⟨[], [], [], [], []⟩
def slices_Clone_sl_int_int.H (c : Ctx) (t0 : AV) (h : List AObj) (K : AOut → List AObj → Prop) : Prop :=
  nilEqO (AV.len T_sl_int h t0) h fun t4 h =>
  condW t4
  (K (.ret (.sl true (.ints .i64 []))) h)
  (runD (buildSliceD T_sl_int 0 [] h.length) h fun t5 h =>
  runDM (appendD T_sl_int h t5 t0 h.length) (appendH T_sl_int h t5 t0) h fun t7 h =>
  K (.ret t7) h)
def slices_Compact_sl_int_int.loops : Nat → LInfo
  | 4 => ⟨[3], [false], [0], [], []⟩
  | 9 => ⟨[3, 5], [false, false], [0, 4], [], []⟩
  | _ => ⟨[], [], [], [], []⟩
def slices_Compact_sl_int_int.L2 (c : Ctx) (J3 : AV → AV → List AObj → Prop) (K : AOut → List AObj → Prop) (lv : List AV) (h0 : List AObj) (n0 : Nat) (c0 : AV) (c4 : AV) : Prop :=
  ∃ I : Nat → List AV → List AObj → Prop, (∃ n, I n lv h0) ∧ ∀ n h, ∀ t3, ∀ t5, I n [t3, t5] h →
    runD (lenD T_sl_int h c4) h fun t31 h =>
    runD (binD T_int .lss t5 t31) h fun t32 h =>
    condW t32
    (runD (indexAddrD T_sl_int h c4 t5) h fun t37 h =>
    runD (fitD T_int (loadD h t37)) h fun t38 h =>
    runD (binD T_int .sub t5 (.int .i64 1)) h fun t41 h =>
    runD (indexAddrD T_sl_int h c4 t41) h fun t42 h =>
    runD (fitD T_int (loadD h t42)) h fun t43 h =>
    runD (binD T_int .neq t38 t43) h fun t44 h =>
    joinW (fun (J4 : AV → List AObj → Prop) =>
    condW t44
    (runD (indexAddrD T_sl_int h c4 t5) h fun t49 h =>
      runD (fitD T_int (loadD h t49)) h fun t50 h =>
      runD (indexAddrD T_sl_int h c0 t3) h fun t51 h =>
      runH (storeH T_int h t51 t50) h fun _ h =>
      runD (binD T_int .add t3 (.int .i64 1)) h fun t53 h =>
      J4 t53 h)
    (J4 t3 h))
    (fun t3 h => runD (binD T_int .add t5 (.int .i64 1)) h fun t34 h =>
    (∃ m, m < n ∧ I m (AV.norms n0 h [t3, t34]) (normH n0 h)) ∧ AV.norms n0 h [c0, c4] = [c0, c4]))
    (J3 c0 t3 h)
def slices_Compact_sl_int_int.L1 (c : Ctx) (J1 : AV → List AObj → Prop) (K : AOut → List AObj → Prop) (lv : List AV) (h0 : List AObj) (n0 : Nat) (c0 : AV) : Prop :=
  ∃ I : Nat → List AV → List AObj → Prop, (∃ n, I n lv h0) ∧ ∀ n h, ∀ t3, I n [t3] h →
    runD (lenD T_sl_int h c0) h fun t12 h =>
    runD (binD T_int .lss t3 t12) h fun t13 h =>
    condW t13
    (joinW (fun (J2 : AV → AV → List AObj → Prop) =>
    runD (indexAddrD T_sl_int h c0 t3) h fun t18 h =>
    runD (fitD T_int (loadD h t18)) h fun t19 h =>
    runD (binD T_int .sub t3 (.int .i64 1)) h fun t22 h =>
    runD (indexAddrD T_sl_int h c0 t22) h fun t23 h =>
    runD (fitD T_int (loadD h t23)) h fun t24 h =>
    runD (binD T_int .eql t19 t24) h fun t25 h =>
    condW t25
    (runD (sliceD T_sl_int h c0 (some t3) none none) h fun t28 h =>
      joinW (fun (J3 : AV → AV → List AObj → Prop) =>
      promV [false, false] [t3, (.int .i64 1)] h fun lv h => slices_Compact_sl_int_int.L2 c J3 K (AV.norms h.length h lv) (normH h.length h) h.length (AV.norm h.length h c0) (AV.norm h.length h t28))
      (fun t0 t3 h => runD (sliceD T_sl_int h t0 (some t3) none none) h fun t56 h =>
      runM (clearH T_sl_int h t56) h fun _ h =>
      runD (sliceD T_sl_int h t0 none (some t3) none) h fun t59 h =>
      K (.ret t59) h))
    (J2 c0 t3 h))
    (fun t0 t3 h => runD (binD T_int .add t3 (.int .i64 1)) h fun t15 h =>
    (∃ m, m < n ∧ I m (AV.norms n0 h [t15]) (normH n0 h)) ∧ AV.norms n0 h [t0] = [c0]))
    (J1 c0 h)
def slices_Compact_sl_int_int.H (c : Ctx) (t0 : AV) (h : List AObj) (K : AOut → List AObj → Prop) : Prop :=
  runD (lenD T_sl_int h t0) h fun t7 h =>
  runD (binD T_int .lss t7 (.int .i64 2)) h fun t8 h =>
  condW t8
  (K (.ret t0) h)
  (joinW (fun (J1 : AV → List AObj → Prop) =>
  promV [false] [(.int .i64 1)] h fun lv h => slices_Compact_sl_int_int.L1 c J1 K (AV.norms h.length h lv) (normH h.length h) h.length (AV.norm h.length h t0))
  (fun t0 h => K (.ret t0) h))
def slices_ContainsFunc_sl_api_Micro_api_Micro.loops : Nat → LInfo
  | _ => ⟨[], [], [], [], []⟩
def slices_ContainsFunc_sl_api_Micro_api_Micro.H (c : Ctx) (t0 : AV) (t1 : AV) (h : List AObj) (K : AOut → List AObj → Prop) : Prop :=
  callW false c (.fn (.func 131) [] []) [t0, t1] h (fun t7 h =>
  runD (binD T_int .geq t7 (.int .i64 0)) h fun t8 h =>
  K (.ret t8) h)
  (fun v h => K (.pan v) h)
def slices_IndexFunc_sl_api_Micro_api_Micro.loops : Nat → LInfo
  | 2 => ⟨[8], [false], [0, 1, 7], [], []⟩
  | _ => ⟨[], [], [], [], []⟩
def slices_IndexFunc_sl_api_Micro_api_Micro.L1 (c : Ctx) (J1 : List AObj → Prop) (K : AOut → List AObj → Prop) (lv : List AV) (h0 : List AObj) (n0 : Nat) (c0 : AV) (c1 : AV) (c7 : AV) : Prop :=
  ∃ I : Nat → List AV → List AObj → Prop, (∃ n, I n lv h0) ∧ ∀ n h, ∀ t8, I n [t8] h →
    runD (binD T_int .lss t8 c7) h fun t9 h =>
    condW t9
    (runD (indexAddrD T_sl_api_Micro h c0 t8) h fun t14 h =>
    runD (fitD T_api_Micro (loadD h t14)) h fun t15 h =>
    callW false c c1 [t15] h (fun t16 h =>
    condW t16
    (K (.ret t8) h)
    (runD (binD T_int .add t8 (.int .i64 1)) h fun t18 h =>
    (∃ m, m < n ∧ I m (AV.norms n0 h [t18]) (normH n0 h)) ∧ AV.norms n0 h [c0, c1, c7] = [c0, c1, c7]))
    (fun v h => K (.pan v) h))
    (J1 h)
def slices_IndexFunc_sl_api_Micro_api_Micro.H (c : Ctx) (t0 : AV) (t1 : AV) (h : List AObj) (K : AOut → List AObj → Prop) : Prop :=
  runD (lenD T_sl_api_Micro h t0) h fun t7 h =>
  joinW (fun (J1 : List AObj → Prop) =>
  promV [false] [(.int .i64 0)] h fun lv h => slices_IndexFunc_sl_api_Micro_api_Micro.L1 c J1 K (AV.norms h.length h lv) (normH h.length h) h.length (AV.norm h.length h t0) (AV.norm h.length h t1) (AV.norm h.length h t7))
  (fun h => K (.ret (.int .i64 (-1))) h)
def slices_Clip_sl_api_Pending_api_Pending.loops : Nat → LInfo
  | _ => ⟨[], [], [], [], []⟩
def slices_Clip_sl_api_Pending_api_Pending.H (c : Ctx) (t0 : AV) (h : List AObj) (K : AOut → List AObj → Prop) : Prop :=
  runD (lenD T_sl_api_Pending h t0) h fun t5 h =>
  runD (lenD T_sl_api_Pending h t0) h fun t7 h =>
  runD (sliceD T_sl_api_Pending h t0 none (some t5) (some t7)) h fun t8 h =>
  K (.ret t8) h
def slices_Clone_sl_api_Pending_api_Pending.loops : Nat → LInfo
  | _ => ⟨[], [], [], [], []⟩
def slices_Clone_sl_api_Pending_api_Pending.H (c : Ctx) (t0 : AV) (h : List AObj) (K : AOut → List AObj → Prop) : Prop :=
  nilEqO (AV.len T_sl_api_Pending h t0) h fun t4 h =>
  condW t4
  (K (.ret (.sl true (.pends []))) h)
  (runD (buildSliceD T_sl_api_Pending 0 [] h.length) h fun t5 h =>
  runDM (appendD T_sl_api_Pending h t5 t0 h.length) (appendH T_sl_api_Pending h t5 t0) h fun t7 h =>
  K (.ret t7) h)
theorem slices_Equal_sl_int_int.eq (F : List (FuncId × Contract)) (S : List (FuncId × Con)) (t0 t1 : AV) (h : List AObj) (K : AOut → List AObj → Prop) : funW (ctx F S slices_Equal_sl_int_int.loops) Try.f78 [t0, t1] h K = slices_Equal_sl_int_int.H (ctx F S slices_Equal_sl_int_int.loops) t0 t1 h K := by kernel_rfl
theorem slices_ContainsFunc_sl_int_int.eq (F : List (FuncId × Contract)) (S : List (FuncId × Con)) (t0 t1 : AV) (h : List AObj) (K : AOut → List AObj → Prop) : funW (ctx F S slices_ContainsFunc_sl_int_int.loops) Try.f81 [t0, t1] h K = slices_ContainsFunc_sl_int_int.H (ctx F S slices_ContainsFunc_sl_int_int.loops) t0 t1 h K := by kernel_rfl
theorem slices_IndexFunc_sl_int_int.eq (F : List (FuncId × Contract)) (S : List (FuncId × Con)) (t0 t1 : AV) (h : List AObj) (K : AOut → List AObj → Prop) : funW (ctx F S slices_IndexFunc_sl_int_int.loops) Try.f90 [t0, t1] h K = slices_IndexFunc_sl_int_int.H (ctx F S slices_IndexFunc_sl_int_int.loops) t0 t1 h K := by kernel_rfl
theorem slices_Clone_sl_int_int.eq (F : List (FuncId × Contract)) (S : List (FuncId × Con)) (t0 : AV) (h : List AObj) (K : AOut → List AObj → Prop) : funW (ctx F S slices_Clone_sl_int_int.loops) Try.f92 [t0] h K = slices_Clone_sl_int_int.H (ctx F S slices_Clone_sl_int_int.loops) t0 h K := by kernel_rfl
theorem slices_Compact_sl_int_int.eq (F : List (FuncId × Contract)) (S : List (FuncId × Con)) (t0 : AV) (h : List AObj) (K : AOut → List AObj → Prop) : funW (ctx F S slices_Compact_sl_int_int.loops) Try.f93 [t0] h K = slices_Compact_sl_int_int.H (ctx F S slices_Compact_sl_int_int.loops) t0 h K := by kernel_rfl
theorem slices_ContainsFunc_sl_api_Micro_api_Micro.eq (F : List (FuncId × Contract)) (S : List (FuncId × Con)) (t0 t1 : AV) (h : List AObj) (K : AOut → List AObj → Prop) : funW (ctx F S slices_ContainsFunc_sl_api_Micro_api_Micro.loops) Try.f113 [t0, t1] h K = slices_ContainsFunc_sl_api_Micro_api_Micro.H (ctx F S slices_ContainsFunc_sl_api_Micro_api_Micro.loops) t0 t1 h K := by kernel_rfl
theorem slices_IndexFunc_sl_api_Micro_api_Micro.eq (F : List (FuncId × Contract)) (S : List (FuncId × Con)) (t0 t1 : AV) (h : List AObj) (K : AOut → List AObj → Prop) : funW (ctx F S slices_IndexFunc_sl_api_Micro_api_Micro.loops) Try.f131 [t0, t1] h K = slices_IndexFunc_sl_api_Micro_api_Micro.H (ctx F S slices_IndexFunc_sl_api_Micro_api_Micro.loops) t0 t1 h K := by kernel_rfl
theorem slices_Clip_sl_api_Pending_api_Pending.eq (F : List (FuncId × Contract)) (S : List (FuncId × Con)) (t0 : AV) (h : List AObj) (K : AOut → List AObj → Prop) : funW (ctx F S slices_Clip_sl_api_Pending_api_Pending.loops) Try.f146 [t0] h K = slices_Clip_sl_api_Pending_api_Pending.H (ctx F S slices_Clip_sl_api_Pending_api_Pending.loops) t0 h K := by kernel_rfl
theorem slices_Clone_sl_api_Pending_api_Pending.eq (F : List (FuncId × Contract)) (S : List (FuncId × Con)) (t0 : AV) (h : List AObj) (K : AOut → List AObj → Prop) : funW (ctx F S slices_Clone_sl_api_Pending_api_Pending.loops) Try.f148 [t0] h K = slices_Clone_sl_api_Pending_api_Pending.H (ctx F S slices_Clone_sl_api_Pending_api_Pending.loops) t0 h K := by kernel_rfl
theorem slices_Equal_sl_int_int.at : Try.prog.funcs[78]? = some Try.f78 := by kernel_rfl
theorem slices_Equal_sl_int_int.nm : (Try.f78.name == "runtime.NumGoroutine") = false := by kernel_rfl
theorem slices_Equal_sl_int_int.bd : Try.f78.body.isNone = false := by kernel_rfl
theorem slices_ContainsFunc_sl_int_int.at : Try.prog.funcs[81]? = some Try.f81 := by kernel_rfl
theorem slices_ContainsFunc_sl_int_int.nm : (Try.f81.name == "runtime.NumGoroutine") = false := by kernel_rfl
theorem slices_ContainsFunc_sl_int_int.bd : Try.f81.body.isNone = false := by kernel_rfl
theorem slices_IndexFunc_sl_int_int.at : Try.prog.funcs[90]? = some Try.f90 := by kernel_rfl
theorem slices_IndexFunc_sl_int_int.nm : (Try.f90.name == "runtime.NumGoroutine") = false := by kernel_rfl
theorem slices_IndexFunc_sl_int_int.bd : Try.f90.body.isNone = false := by kernel_rfl
theorem slices_Clone_sl_int_int.at : Try.prog.funcs[92]? = some Try.f92 := by kernel_rfl
theorem slices_Clone_sl_int_int.nm : (Try.f92.name == "runtime.NumGoroutine") = false := by kernel_rfl
theorem slices_Clone_sl_int_int.bd : Try.f92.body.isNone = false := by kernel_rfl
theorem slices_Compact_sl_int_int.at : Try.prog.funcs[93]? = some Try.f93 := by kernel_rfl
theorem slices_Compact_sl_int_int.nm : (Try.f93.name == "runtime.NumGoroutine") = false := by kernel_rfl
theorem slices_Compact_sl_int_int.bd : Try.f93.body.isNone = false := by kernel_rfl
theorem slices_ContainsFunc_sl_api_Micro_api_Micro.at : Try.prog.funcs[113]? = some Try.f113 := by kernel_rfl
theorem slices_ContainsFunc_sl_api_Micro_api_Micro.nm : (Try.f113.name == "runtime.NumGoroutine") = false := by kernel_rfl
theorem slices_ContainsFunc_sl_api_Micro_api_Micro.bd : Try.f113.body.isNone = false := by kernel_rfl
theorem slices_IndexFunc_sl_api_Micro_api_Micro.at : Try.prog.funcs[131]? = some Try.f131 := by kernel_rfl
theorem slices_IndexFunc_sl_api_Micro_api_Micro.nm : (Try.f131.name == "runtime.NumGoroutine") = false := by kernel_rfl
theorem slices_IndexFunc_sl_api_Micro_api_Micro.bd : Try.f131.body.isNone = false := by kernel_rfl
theorem slices_Clip_sl_api_Pending_api_Pending.at : Try.prog.funcs[146]? = some Try.f146 := by kernel_rfl
theorem slices_Clip_sl_api_Pending_api_Pending.nm : (Try.f146.name == "runtime.NumGoroutine") = false := by kernel_rfl
theorem slices_Clip_sl_api_Pending_api_Pending.bd : Try.f146.body.isNone = false := by kernel_rfl
theorem slices_Clone_sl_api_Pending_api_Pending.at : Try.prog.funcs[148]? = some Try.f148 := by kernel_rfl
theorem slices_Clone_sl_api_Pending_api_Pending.nm : (Try.f148.name == "runtime.NumGoroutine") = false := by kernel_rfl
theorem slices_Clone_sl_api_Pending_api_Pending.bd : Try.f148.body.isNone = false := by kernel_rfl
end Lam
namespace Lam
open Go Go.Proofs
set_option linter.unusedVariables false
set_option linter.unnecessarySimpa false
set_option linter.unusedSimpArgs false
def pmem_sized.C : Contract
  | [.int .i64 n] => some (false, pD True (.bool (szB n)))
  | _ => none
set_option maxRecDepth 20000 in
theorem pmem_sized.spec : FSpec Try.prog 123 pmem_sized.C := by
  refine FSpec.of (ctx_ok (F := []) (S := []) (by simp) (by simp) pmem_sized.loops) pmem_sized.at pmem_sized.nm pmem_sized.bd ?_
  intro vs b S v news e hS
  unfold pmem_sized.C at e
  split at e
  rotate_left
  · cases e
  cases e
  rw [pmem_sized.eq]
  unfold pmem_sized.H
  simp (maxSteps := 4000000) only [go_sem, Nat.reduceEqDiff, Nat.reduceLT, Nat.reduceAdd, Nat.reduceSub, Nat.reduceLeDiff, List.reduceReplicate, Int.reduceToNat]
  exact ⟨fun _ => by decide, post_val rfl rfl⟩

def slices_Clone_sl_int_int.C : Contract
  | [.sl _ (.ints .i64 l)] => some (true, some (roomy l.length, .sref false 0 0 0 l.length, [.row .own 0 (.ints .i64 l)]))
  | _ => none
set_option maxRecDepth 20000 in
theorem slices_Clone_sl_int_int.spec : FSpec Try.prog 92 slices_Clone_sl_int_int.C := by
  refine FSpec.of (ctx_ok (F := []) (S := []) (by simp) (by simp) slices_Clone_sl_int_int.loops) slices_Clone_sl_int_int.at slices_Clone_sl_int_int.nm slices_Clone_sl_int_int.bd ?_
  intro vs b S v news e hS
  unfold slices_Clone_sl_int_int.C at e
  split at e
  rotate_left
  · cases e
  cases e
  rw [slices_Clone_sl_int_int.eq]
  unfold slices_Clone_sl_int_int.H
  simp (maxSteps := 4000000) only [go_sem, Nat.reduceEqDiff, Nat.reduceLT, Nat.reduceAdd, Nat.reduceSub, Nat.reduceLeDiff, List.reduceReplicate, Int.reduceToNat]
  rename_i l
  intro b hb
  refine ⟨fun h => ?_, fun h => ⟨hS, post_row rfl (by simp)⟩⟩
  have : l = [] := List.eq_nil_of_length_eq_zero (hb h)
  subst this
  exact post_nil rfl
def slices_Clone_sl_api_Pending_api_Pending.C : Contract
  | [.sl _ (.pends l)] => some (true, some (roomy l.length, .sref false 0 0 0 l.length, [.row .own 0 (.pends l)]))
  | _ => none
set_option maxRecDepth 20000 in
theorem slices_Clone_sl_api_Pending_api_Pending.spec : FSpec Try.prog 148 slices_Clone_sl_api_Pending_api_Pending.C := by
  refine FSpec.of (ctx_ok (F := []) (S := []) (by simp) (by simp) slices_Clone_sl_api_Pending_api_Pending.loops) slices_Clone_sl_api_Pending_api_Pending.at slices_Clone_sl_api_Pending_api_Pending.nm slices_Clone_sl_api_Pending_api_Pending.bd ?_
  intro vs b S v news e hS
  unfold slices_Clone_sl_api_Pending_api_Pending.C at e
  split at e
  rotate_left
  · cases e
  cases e
  rw [slices_Clone_sl_api_Pending_api_Pending.eq]
  unfold slices_Clone_sl_api_Pending_api_Pending.H
  simp (maxSteps := 4000000) only [go_sem, Nat.reduceEqDiff, Nat.reduceLT, Nat.reduceAdd, Nat.reduceSub, Nat.reduceLeDiff, List.reduceReplicate, Int.reduceToNat]
  rename_i l
  intro b hb
  refine ⟨fun h => ?_, fun h => ⟨hS, post_row rfl (by simp)⟩⟩
  have : l = [] := List.eq_nil_of_length_eq_zero (hb h)
  subst this
  exact post_nil rfl
def slices_Clip_sl_api_Pending_api_Pending.C : Contract
  | [.sl _ (.pends l)] => some (false, pD True (.sl true (.pends l)))
  | _ => none
set_option maxRecDepth 20000 in
theorem slices_Clip_sl_api_Pending_api_Pending.spec : FSpec Try.prog 146 slices_Clip_sl_api_Pending_api_Pending.C := by
  refine FSpec.of (ctx_ok (F := []) (S := []) (by simp) (by simp) slices_Clip_sl_api_Pending_api_Pending.loops) slices_Clip_sl_api_Pending_api_Pending.at slices_Clip_sl_api_Pending_api_Pending.nm slices_Clip_sl_api_Pending_api_Pending.bd ?_
  intro vs b S v news e hS
  unfold slices_Clip_sl_api_Pending_api_Pending.C at e
  split at e
  rotate_left
  · cases e
  cases e
  rw [slices_Clip_sl_api_Pending_api_Pending.eq]
  unfold slices_Clip_sl_api_Pending_api_Pending.H
  simp (maxSteps := 4000000) only [go_sem, Nat.reduceEqDiff, Nat.reduceLT, Nat.reduceAdd, Nat.reduceSub, Nat.reduceLeDiff, List.reduceReplicate, Int.reduceToNat]
  exact ⟨by omega, post_same rfl⟩
def slices_Equal_sl_int_int.C : Contract
  | [.sl _ (.ints .i64 a), .sl _ (.ints .i64 b)] => some (false, pD (roomy a.length) (.bool (decide (a = b))))
  | _ => none
set_option maxRecDepth 20000 in
theorem slices_Equal_sl_int_int.spec : FSpec Try.prog 78 slices_Equal_sl_int_int.C := by
  refine FSpec.of (ctx_ok (F := []) (S := []) (by simp) (by simp) slices_Equal_sl_int_int.loops) slices_Equal_sl_int_int.at slices_Equal_sl_int_int.nm slices_Equal_sl_int_int.bd ?_
  intro vs b S v news e hS
  unfold slices_Equal_sl_int_int.C at e
  split at e
  rotate_left
  · cases e
  cases e
  rw [slices_Equal_sl_int_int.eq]
  unfold slices_Equal_sl_int_int.H
  simp (maxSteps := 4000000) only [go_sem, Nat.reduceEqDiff, Nat.reduceLT, Nat.reduceAdd, Nat.reduceSub, Nat.reduceLeDiff, List.reduceReplicate, Int.reduceToNat]
  rename_i a _ b
  unfold roomy at hS
  refine ⟨fun hne => ?_, fun heq => ?_⟩
  · have : decide (a = b) = false := by rw [decide_eq_false_iff_not]; rintro rfl; exact hne rfl
    rw [this]; exact post_val rfl rfl
  rw [joinW_eq]
  unfold slices_Equal_sl_int_int.L1
  have hlen : a.length = b.length := by omega
  refine ⟨fun m lv h' => ∃ k : Nat, k + m = a.length ∧ lv = [.int .i64 k] ∧ h' = [] ∧ ∀ i, i < k → a.getD i 0 = b.getD i 0, ⟨a.length, 0, by omega, rfl, rfl, fun i hi => by omega⟩, ?_⟩
  rintro m h' t8 ⟨k, hk, hlv, rfl, hall⟩
  simp only [List.cons.injEq, and_true] at hlv
  subst hlv
  simp only [go_sem, Nat.reduceEqDiff, Nat.reduceLT, Nat.reduceAdd, Nat.reduceSub, Nat.reduceLeDiff, List.reduceReplicate, Int.reduceToNat]
  refine ⟨fun hlt => ⟨by omega, by omega, fun h0 => ?_, fun h0 => ?_⟩, fun hge => ?_⟩
  · have : decide (a = b) = false := by rw [decide_eq_false_iff_not]; rintro rfl; exact h0 rfl
    rw [this]; exact post_val rfl rfl
  · refine ⟨m - 1, by omega, k + 1, by omega, by rw [w64 (by omega) (by omega)]; rfl, ?_⟩
    intro i hi
    by_cases e : i = k
    · subst e; exact h0
    · exact hall i (by omega)
  · have : a = b := by
      apply List.ext_getElem hlen
      intro i h1 h2
      have := hall i (by omega)
      rw [List.getD_eq_getElem?_getD, List.getD_eq_getElem?_getD, List.getElem?_eq_getElem h1, List.getElem?_eq_getElem h2] at this
      exact this
    rw [decide_eq_true this]; exact post_val rfl rfl

def pmem_Check.C : Contract
  | [.agg [.sl false (.ints .i64 vol), .sl false (.ints .i64 per), .sl false (.pends pend)]] => some (false, pD (smallM vol per pend) (.bool (checkB vol per pend)))
  | _ => none
set_option maxRecDepth 20000 in
theorem pmem_Check.spec : FSpec Try.prog 124 pmem_Check.C := by
  refine FSpec.of (ctx_ok (F := [(123, pmem_sized.C), (92, slices_Clone_sl_int_int.C), (78, slices_Equal_sl_int_int.C)]) (S := []) (by simpa using ⟨pmem_sized.spec, slices_Clone_sl_int_int.spec, slices_Equal_sl_int_int.spec⟩) (by simp) pmem_Check.loops) pmem_Check.at pmem_Check.nm pmem_Check.bd ?_
  intro vs b S v news e hS
  unfold pmem_Check.C at e
  split at e
  rotate_left
  · cases e
  cases e
  rw [pmem_Check.eq]
  unfold pmem_Check.H
  simp (maxSteps := 4000000) only [go_sem, Nat.reduceEqDiff, Nat.reduceLT, Nat.reduceAdd, Nat.reduceSub, Nat.reduceLeDiff, List.reduceReplicate, Int.reduceToNat, pmem_sized.C, slices_Clone_sl_int_int.C, slices_Equal_sl_int_int.C]
  rename_i vol per pend
  obtain ⟨r1, r2, r3⟩ := hS
  unfold roomy at r1 r2 r3
  refine ⟨fun hb => ?_, fun hb => ⟨r2, ?_⟩⟩
  · have : checkB vol per pend = false := by
      unfold checkB
      rw [Bool.or_eq_true] at hb
      rcases hb with hb | hb
      · have : ¬ vol.length = per.length := by
          intro h; rw [h] at hb; simp at hb
        simp [this]
      · have : szB vol.length = false := by simpa using hb
        simp [this]
    rw [this]; exact post_val rfl rfl
  rw [Bool.or_eq_false_iff] at hb
  have hlen : vol.length = per.length := by
    have := hb.1
    rw [Bool.not_eq_false', decide_eq_true_eq] at this
    omega
  have hsz : szB vol.length = true := by simpa using hb.2
  have hcheck : checkB vol per pend = decide (chk pend per (fun _ => false) = some vol) := by unfold checkB; rw [hsz, decide_eq_true hlen]; simp
  rw [hcheck, joinW_eq]
  unfold pmem_Check.L1
  refine ⟨fun m lv h' => ∃ (k : Nat) (l : List Int) (o : Int → Bool), k + m = pend.length ∧ lv = [.int .i64 k] ∧ l.length = per.length ∧ chk pend per (fun _ => false) = chk (pend.drop k) l o ∧
      h' = [.box (.agg [.sl false (.ints .i64 vol), .sl false (.ints .i64 per), .sl false (.pends pend)]), .row .own 0 (.ints .i64 l), .map (.ib o)],
    ⟨pend.length, 0, per, fun _ => false, by omega, rfl, rfl, rfl, rfl⟩, ?_⟩
  rintro m h' t28 ⟨k, l, o, hk, hlv, hll, hchk, rfl⟩
  simp only [List.cons.injEq, and_true] at hlv
  subst hlv
  simp only [go_sem, Nat.reduceEqDiff, Nat.reduceLT, Nat.reduceAdd, Nat.reduceSub, Nat.reduceLeDiff, List.reduceReplicate, Int.reduceToNat, hll, encPend]
  refine ⟨fun hlt => ⟨by omega, ?_⟩, fun hge => ?_⟩
  · have hkl : k < pend.length := by omega
    have hd : pend.drop k = pend.getD k ⟨0, 0, false⟩ :: pend.drop (k + 1) := by
      rw [List.getD_eq_getElem?_getD, List.getElem?_eq_getElem hkl, List.drop_eq_getElem_cons hkl]; rfl
    generalize pend.getD k ⟨0, 0, false⟩ = p at *
    have hch : chk (pend.drop k) l o = match badB p l.length o with
      | true => none
      | false => chk (pend.drop (k + 1)) (l.set p.at_.toNat p.val) (opens p o) := by rw [hd]; rfl
    rw [hll] at hch
    refine ⟨fun _ _ => by decide, fun hbad => ?_, fun hok => ?_⟩
    · have : badB p per.length o = true := hbad
      rw [this] at hch
      rw [hchk, hch]; exact post_val rfl rfl
    · have hb2 : badB p per.length o = false := hok
      rw [hb2] at hch
      simp only [badB, Bool.or_eq_false_iff, decide_eq_false_iff_not] at hb2
      refine ⟨by decide, by decide, by omega, by omega, m - 1, by omega, k + 1, _, opens p o, by omega, by rw [w64 (by omega) (by omega)]; rfl, ?_, by rw [hchk]; exact hch, rfl⟩
      rw [List.length_set]; exact hll
  · have : k = pend.length := by omega
    subst this
    rw [List.drop_length] at hchk
    have hl : l.take per.length = l := List.take_of_length_le (by omega)
    simp only [hl, go_sem, Nat.reduceEqDiff, Nat.reduceLT, Nat.reduceAdd, Nat.reduceSub, Nat.reduceLeDiff, List.reduceReplicate, Int.reduceToNat, slices_Equal_sl_int_int.C]
    refine ⟨by unfold roomy; omega, ?_⟩
    rw [hchk]
    have : decide (chk [] l o = some vol) = decide (l = vol) := by simp [chk]
    rw [this]; exact post_val rfl rfl
def pmem_place.C : Contract
  | [.agg [.sl false (.ints .i64 vol), .sl false (.ints .i64 per), .sl false (.pends pend)], .int .i64 at_] => some (false, pD (smallM vol per pend) (.bool (placeB vol per pend at_)))
  | _ => none
set_option maxRecDepth 20000 in
theorem pmem_place.spec : FSpec Try.prog 145 pmem_place.C := by
  refine FSpec.of (ctx_ok (F := [(124, pmem_Check.C)]) (S := []) (by simpa using pmem_Check.spec) (by simp) pmem_place.loops) pmem_place.at pmem_place.nm pmem_place.bd ?_
  intro vs b S v news e hS
  unfold pmem_place.C at e
  split at e
  rotate_left
  · cases e
  cases e
  rw [pmem_place.eq]
  unfold pmem_place.H
  simp (maxSteps := 4000000) only [go_sem, Nat.reduceEqDiff, Nat.reduceLT, Nat.reduceAdd, Nat.reduceSub, Nat.reduceLeDiff, List.reduceReplicate, Int.reduceToNat, pmem_Check.C]
  exact ⟨fun _ => hS, post_val rfl rfl⟩
def pmem_first.C : Contract
  | [.agg [.sl false (.ints .i64 vol), .sl false (.ints .i64 per), .sl false (.pends pend)], .int .i64 line] => some (false, pD (roomy vol.length) (.int .i64 (firstI vol line)))
  | _ => none
set_option maxRecDepth 20000 in
theorem pmem_first.spec : FSpec Try.prog 147 pmem_first.C := by
  refine FSpec.of (ctx_ok (F := []) (S := []) (by simp) (by simp) pmem_first.loops) pmem_first.at pmem_first.nm pmem_first.bd ?_
  intro vs b S v news e hS
  unfold pmem_first.C at e
  split at e
  rotate_left
  · cases e
  cases e
  rw [pmem_first.eq]
  unfold pmem_first.H
  simp (maxSteps := 4000000) only [go_sem, Nat.reduceEqDiff, Nat.reduceLT, Nat.reduceAdd, Nat.reduceSub, Nat.reduceLeDiff, List.reduceReplicate, Int.reduceToNat]
  rename_i vol per pend line
  unfold roomy at hS
  have e : IntKind.i64.wrap ((vol.length : Int).tdiv 8) = ((vol.length / 8 : Nat) : Int) := by rw [tdiv8]; exact w64 (by omega) (by omega)
  rw [e]
  refine ⟨fun _ => by decide, fun hb => ?_, fun hb => ?_⟩
  · unfold firstI; rw [if_pos hb]; exact post_val rfl rfl
  · have h2 := hb
    rw [Bool.or_eq_false_iff, decide_eq_false_iff_not, decide_eq_false_iff_not] at h2
    rw [w64 (by omega) (by omega)]
    unfold firstI; rw [hb]; exact post_val rfl rfl
def pmem_Put.C : Contract
  | [.agg [.sl false (.ints .i64 vol), .sl false (.ints .i64 per), .sl false (.pends pend)], .int .i64 at_, .int .i64 val] => some (false, pD (smallM vol per pend ∧ roomy (pend.length + 1)) (putM vol per pend at_ val))
  | _ => none
set_option maxRecDepth 20000 in
theorem pmem_Put.spec : FSpec Try.prog 142 pmem_Put.C := by
  refine FSpec.of (ctx_ok (F := [(145, pmem_place.C), (146, slices_Clip_sl_api_Pending_api_Pending.C)]) (S := []) (by simpa using ⟨pmem_place.spec, slices_Clip_sl_api_Pending_api_Pending.spec⟩) (by simp) pmem_Put.loops) pmem_Put.at pmem_Put.nm pmem_Put.bd ?_
  intro vs b S v news e hS
  unfold pmem_Put.C at e
  split at e
  rotate_left
  · cases e
  cases e
  rw [pmem_Put.eq]
  unfold pmem_Put.H
  simp (maxSteps := 4000000) only [go_sem, Nat.reduceEqDiff, Nat.reduceLT, Nat.reduceAdd, Nat.reduceSub, Nat.reduceLeDiff, List.reduceReplicate, Int.reduceToNat, pmem_place.C, slices_Clip_sl_api_Pending_api_Pending.C]
  rename_i vol per pend at_ val
  obtain ⟨hS, hr⟩ := hS
  refine ⟨hS, fun hb => ?_, fun hb => ?_⟩
  · unfold putM; rw [hb]; exact post_val rfl rfl
  · have hp : 0 ≤ at_ ∧ at_ < (vol.length : Int) := by
      simp only [placeB, Bool.and_eq_true, decide_eq_true_eq] at hb
      exact hb.1
    have e : vol ++ List.take (vol.length - min vol.length vol.length) (List.drop (min vol.length vol.length) (List.replicate vol.length 0)) = vol := by simp
    rw [e]
    have hl : (pend ++ [(⟨at_, val, false⟩ : Pend)]).length = pend.length + 1 := by simp
    rw [hl]
    refine ⟨⟨by omega, by omega, hS.1⟩, hp, by omega, hr, rfl, ?_⟩
    unfold putM
    simp only [hb, if_true]
    refine post_val ?_ rfl
    have t1 : (vol.set at_.toNat val).take vol.length = vol.set at_.toNat val := List.take_of_length_le (by simp)
    have t2 : (pend ++ [(⟨at_, val, false⟩ : Pend)]).take (pend.length + 1) = pend ++ [(⟨at_, val, false⟩ : Pend)] := List.take_of_length_le (by simp)
    simp only [go_sem, Nat.reduceEqDiff, Nat.reduceLT, Nat.reduceAdd, Nat.reduceSub, Nat.reduceLeDiff, List.reduceReplicate, Int.reduceToNat, memV, t1, t2]
def pmem_of_1.I : Con → Con := fun Y args h K => match args with
  | [.fn (.yield l) [] [], a0, a1] => pmem_of_1.H ((ctx [] [] pmem_of_1.loops).withY l Y) (.fn (.yield l) [] []) a0 a1 h K
  | _ => False
theorem pmem_of_1.spec : ISpec Try.prog 151 pmem_of_1.I := by
  refine ISpec.of (ctx_ok (F := []) (S := []) (by simp) (by simp) pmem_of_1.loops).toOkI pmem_of_1.at pmem_of_1.nm pmem_of_1.bd ?_
  intro Yc l cap h K hC
  unfold pmem_of_1.I at hC
  split at hC
  · rename_i e
    simp only [List.cons.injEq, AV.fn.injEq, Fn.yield.injEq, and_true, true_and] at e
    obtain ⟨rfl, rfl⟩ := e
    rw [pmem_of_1.eq]; exact hC
  · exact hC.elim
def pmem_of.K : Con := fun args h K => match args with
  | [a0, a1] => pmem_of.H (ctx [] [] pmem_of.loops) a0 a1 h K
  | _ => False
theorem pmem_of.spec : SSpec Try.prog 149 pmem_of.K := by
  refine SSpec.of (ctx_ok (F := []) (S := []) (by simp) (by simp) pmem_of.loops) pmem_of.at pmem_of.nm pmem_of.bd ?_
  intro args h K hC
  unfold pmem_of.K at hC
  split at hC
  · rw [pmem_of.eq]; exact hC
  · exact hC.elim
def pmem_Flush.C : Contract
  | [.agg [.sl false (.ints .i64 vol), .sl false (.ints .i64 per), .sl false (.pends pend)], .int .i64 line] => some (false, pD (smallM vol per pend) (flushM vol per pend line))
  | _ => none
set_option maxRecDepth 20000 in
theorem pmem_Flush.spec : FSpec Try.prog 143 pmem_Flush.C := by
  refine FSpec.of (ctxI_ok (F := [(145, pmem_place.C), (147, pmem_first.C), (148, slices_Clone_sl_api_Pending_api_Pending.C)]) (S := [(149, pmem_of.K)]) (Is := [(151, pmem_of_1.I)]) (by simpa using ⟨pmem_place.spec, pmem_first.spec, slices_Clone_sl_api_Pending_api_Pending.spec⟩) (by simpa using pmem_of.spec) (by simpa using pmem_of_1.spec) pmem_Flush.loops) pmem_Flush.at pmem_Flush.nm pmem_Flush.bd ?_
  intro vs b S v news e hS
  unfold pmem_Flush.C at e
  split at e
  rotate_left
  · cases e
  cases e
  rw [pmem_Flush.eq]
  unfold pmem_Flush.H
  simp (maxSteps := 4000000) only [go_sem, Nat.reduceEqDiff, Nat.reduceLT, Nat.reduceAdd, Nat.reduceSub, Nat.reduceLeDiff, List.reduceReplicate, Int.reduceToNat, pmem_place.C, pmem_first.C, slices_Clone_sl_api_Pending_api_Pending.C, pmem_of.K, pmem_of.H, pmem_of_1.I, pmem_of_1.H, joinW_eq]
  rename_i vol per pend line
  refine ⟨hS.1, hS, fun hb => ?_, fun hb => ⟨hS.2.2, ?_⟩⟩
  · unfold flushM; rw [hb]; exact post_val rfl rfl
  intro l r
  obtain ⟨s1, s2, s3⟩ := hS
  unfold roomy at s1 s2 s3
  unfold pmem_of_1.L1
  refine ⟨fun m lv h' => ∃ k : Nat, k + m = pend.length ∧ lv = [.int .i64 k] ∧ h' = [.box (.agg [.sl false (.ints .i64 vol), .sl false (.ints .i64 per), .sl false (.pends pend)]),
      .box (.agg [.sl false (.ints .i64 []), .sl false (.ints .i64 []), .sl false (.pends [])]), .row .own 0 (.pends (flushP line (pend.take k) ++ pend.drop k)), .box (.sref false 2 0 0 pend.length),
      .box (.agg [.sl false (.ints .i64 vol), .sl false (.ints .i64 per), .sl false (.pends pend)]), .box (.int .i64 line), .lp .ready none r],
    ⟨pend.length, 0, by omega, rfl, rfl⟩, ?_⟩
  rintro m h' t9 ⟨k, hk, hlv, rfl⟩
  simp only [List.cons.injEq, and_true] at hlv
  subst hlv
  have hlen : (flushP line (pend.take k) ++ pend.drop k).length = pend.length := by simp [flushP]; omega
  simp only [go_sem, Nat.reduceEqDiff, Nat.reduceLT, Nat.reduceAdd, Nat.reduceSub, Nat.reduceLeDiff, List.reduceReplicate, Int.reduceToNat, encPend, hlen]
  refine ⟨fun hlt => ?_, fun hge => ?_⟩
  · have hkl : k < pend.length := by omega
    have hget : (flushP line (pend.take k) ++ pend.drop k).getD k ⟨0, 0, false⟩ = pend.getD k ⟨0, 0, false⟩ := by
      rw [List.getD_eq_getElem?_getD, List.getElem?_append_right (by simp [flushP]; omega)]
      have e : k - (flushP line (pend.take k)).length = 0 := by simp [flushP]; omega
      rw [e, List.getElem?_drop, Nat.add_zero, List.getD_eq_getElem?_getD]
    have hdrop : pend.drop k = pend.getD k ⟨0, 0, false⟩ :: pend.drop (k + 1) := by
      rw [List.getD_eq_getElem?_getD, List.getElem?_eq_getElem hkl, List.drop_eq_getElem_cons hkl]; rfl
    have hset : ∀ q : Pend, (flushP line (pend.take k) ++ pend.drop k).set k q = flushP line (pend.take k) ++ q :: pend.drop (k + 1) := by
      intro q
      rw [hdrop, List.set_append_right _ _ (by simp [flushP]; omega)]
      have e : k - (flushP line (pend.take k)).length = 0 := by simp [flushP]; omega
      rw [e]; rfl
    have hnx : flushP line (pend.take (k + 1)) = flushP line (pend.take k) ++ [if lineOf (pend.getD k ⟨0, 0, false⟩).at_ = line then { pend.getD k ⟨0, 0, false⟩ with fl := true } else pend.getD k ⟨0, 0, false⟩] := by
      rw [take_next pend k ⟨0, 0, false⟩ hkl]
      simp [flushP]
    rw [joinW_eq]
    simp only [guardW_bool, hget, hset]
    refine ⟨by omega, by decide, fun hc => ?_, fun hc => ?_⟩
    · have hc : lineOf (pend.getD k ⟨0, 0, false⟩).at_ = line := by simpa [lineOf] using hc
      simp only [go_sem, Nat.reduceEqDiff, Nat.reduceLT, Nat.reduceAdd, Nat.reduceSub, Nat.reduceLeDiff, List.reduceReplicate, Int.reduceToNat]
      refine ⟨⟨by omega, by omega⟩, hkl, m - 1, by omega, k + 1, by omega, by rw [w64 (by omega) (by omega)]; rfl, ?_⟩
      rw [hnx, if_pos hc, List.append_assoc]; rfl
    · have hc : ¬ lineOf (pend.getD k ⟨0, 0, false⟩).at_ = line := by simpa [lineOf] using hc
      simp only [go_sem, Nat.reduceEqDiff, Nat.reduceLT, Nat.reduceAdd, Nat.reduceSub, Nat.reduceLeDiff, List.reduceReplicate, Int.reduceToNat]
      refine ⟨m - 1, by omega, k + 1, by omega, by rw [w64 (by omega) (by omega)]; rfl, ?_⟩
      rw [hnx, if_neg hc, List.append_assoc, hdrop]; rfl
  · have : k = pend.length := by omega
    subst this
    rw [List.take_length, List.drop_length, List.append_nil] at hlen
    have e : flushP line (pend.take pend.length) ++ pend.drop pend.length = flushP line pend := by rw [List.take_length, List.drop_length, List.append_nil]
    rw [e]
    unfold flushM
    simp only [hb, if_true]
    refine post_val ?_ rfl
    have t1 : (flushP line pend).take pend.length = flushP line pend := List.take_of_length_le (by omega)
    simp only [go_sem, Nat.reduceEqDiff, Nat.reduceLT, Nat.reduceAdd, Nat.reduceSub, Nat.reduceLeDiff, List.reduceReplicate, Int.reduceToNat, memV, t1]
def pmem_Fence_1.C : Contract
  | [.agg [.int .i64 a, .int .i64 v, .bool f]] => some (false, pD True (.bool f))
  | _ => none
set_option maxRecDepth 20000 in
theorem pmem_Fence_1.spec : FSpec Try.prog 150 pmem_Fence_1.C := by
  refine FSpec.of (ctx_ok (F := []) (S := []) (by simp) (by simp) pmem_Fence_1.loops) pmem_Fence_1.at pmem_Fence_1.nm pmem_Fence_1.bd ?_
  intro vs b S v news e hS
  unfold pmem_Fence_1.C at e
  split at e
  rotate_left
  · cases e
  cases e
  rw [pmem_Fence_1.eq]
  unfold pmem_Fence_1.H
  simp (maxSteps := 4000000) only [go_sem, Nat.reduceEqDiff, Nat.reduceLT, Nat.reduceAdd, Nat.reduceSub, Nat.reduceLeDiff, List.reduceReplicate, Int.reduceToNat]
  exact post_val rfl rfl
def pmem_Crash_1.K : Con := fun args h K => match args with
  | [a0, a1] => pmem_Crash_1.H (ctx [] [] pmem_Crash_1.loops) a0 a1 h K
  | _ => False
theorem pmem_Crash_1.spec : SSpec Try.prog 130 pmem_Crash_1.K := by
  refine SSpec.of (ctx_ok (F := []) (S := []) (by simp) (by simp) pmem_Crash_1.loops) pmem_Crash_1.at pmem_Crash_1.nm pmem_Crash_1.bd ?_
  intro args h K hC
  unfold pmem_Crash_1.K at hC
  split at hC
  · rw [pmem_Crash_1.eq]; exact hC
  · exact hC.elim
def pmem_keep.K : Con := fun args h K => match args with
  | [a0, a1] => pmem_keep.H (ctx [(92, slices_Clone_sl_int_int.C), (150, pmem_Fence_1.C)] [(130, pmem_Crash_1.K)] pmem_keep.loops) a0 a1 h K
  | _ => False
theorem pmem_keep.spec : SSpec Try.prog 129 pmem_keep.K := by
  refine SSpec.of (ctx_ok (F := [(92, slices_Clone_sl_int_int.C), (150, pmem_Fence_1.C)]) (S := [(130, pmem_Crash_1.K)]) (by simpa using ⟨slices_Clone_sl_int_int.spec, pmem_Fence_1.spec⟩) (by simpa using pmem_Crash_1.spec) pmem_keep.loops) pmem_keep.at pmem_keep.nm pmem_keep.bd ?_
  intro args h K hC
  unfold pmem_keep.K at hC
  split at hC
  · rw [pmem_keep.eq]; exact hC
  · exact hC.elim

def pmem_Fence.C : Contract
  | [.agg [.sl false (.ints .i64 vol), .sl false (.ints .i64 per), .sl false (.pends pend)]] => some (false, pD (smallM vol per pend) (fenceM fFl (checkB vol per pend) vol per pend))
  | _ => none
set_option maxRecDepth 20000 in
theorem pmem_Fence.spec : FSpec Try.prog 144 pmem_Fence.C := by
  refine FSpec.of (ctx_ok (F := [(124, pmem_Check.C)]) (S := [(129, pmem_keep.K)]) (by simpa using pmem_Check.spec) (by simpa using pmem_keep.spec) pmem_Fence.loops) pmem_Fence.at pmem_Fence.nm pmem_Fence.bd ?_
  intro vs b S v news e hS
  unfold pmem_Fence.C at e
  split at e
  rotate_left
  · cases e
  cases e
  rw [pmem_Fence.eq]
  unfold pmem_Fence.H
  simp (maxSteps := 4000000) only [go_sem, Nat.reduceEqDiff, Nat.reduceLT, Nat.reduceAdd, Nat.reduceSub, Nat.reduceLeDiff, List.reduceReplicate, Int.reduceToNat, pmem_Check.C, pmem_keep.K, pmem_keep.H, slices_Clone_sl_int_int.C]
  rename_i vol per pend
  refine ⟨hS, fun hb => ?_, fun hb => ⟨hS.2.1, ?_⟩⟩
  · unfold fenceM; rw [hb]; exact post_val rfl rfl
  obtain ⟨s1, s2, s3⟩ := hS
  unfold roomy at s1 s2 s3
  have hrange := check_range hb
  rw [joinW_eq]
  unfold pmem_keep.L1
  refine ⟨fun m lv h' => ∃ k v : Nat, k + m = pend.length ∧ lv = [.int .i64 k] ∧ h' = [.box (.agg [.sl false (.ints .i64 vol), .sl false (.ints .i64 per), .sl false (.pends pend)]), .box (.agg [.sl false (.ints .i64 []), .sl false (.ints .i64 []), .sl false (.pends [])]), .box (.agg [.sl false (.ints .i64 vol), .sl false (.ints .i64 per), .sl false (.pends pend)]), .box (.agg [.sl false (.ints .i64 []), .sl false (.ints .i64 []), .sl false (.pends [])]), .row .own 0 (.ints .i64 (keepW fFl (pend.take k) per)), .box (.agg [.sl false (.ints .i64 vol), .sref false 4 0 0 per.length, .sref false 6 v 0 (keepP fFl (pend.take k)).length]), .row .own v (.pends (keepP fFl (pend.take k)))],
    ⟨pend.length, 0, 0, by omega, rfl, rfl⟩, ?_⟩
  rintro m h' t17 ⟨k, v, hk, hlv, rfl⟩
  simp only [List.cons.injEq, and_true] at hlv
  subst hlv
  have hwl : (keepW fFl (pend.take k) per).length = per.length := keepW_len _ _ _
  have hpl : (keepP fFl (pend.take k)).length ≤ k := Nat.le_trans (List.length_filter_le _ _) (by simp; omega)
  simp only [go_sem, Nat.reduceEqDiff, Nat.reduceLT, Nat.reduceAdd, Nat.reduceSub, Nat.reduceLeDiff, List.reduceReplicate, Int.reduceToNat, encPend, hwl, pmem_Fence_1.C]
  refine ⟨fun hlt => ?_, fun hge => ?_⟩
  · have hkl : k < pend.length := by omega
    have hr := hrange _ (getD_mem pend k ⟨0, 0, false⟩ hkl)
    have hW := keepW_snoc fFl (pend.getD k ⟨0, 0, false⟩) (pend.take k) per
    have hP := keepP_snoc fFl (pend.getD k ⟨0, 0, false⟩) (pend.take k)
    rw [← take_next pend k ⟨0, 0, false⟩ hkl] at hW hP
    generalize pend.getD k ⟨0, 0, false⟩ = p at *
    try rw [joinW_eq]
    refine ⟨by omega, fun hc => ?_, fun hc => ?_⟩
    · have hc : fFl p = true := hc
      rw [hc] at hW hP
      simp only [go_sem, Nat.reduceEqDiff, Nat.reduceLT, Nat.reduceAdd, Nat.reduceSub, Nat.reduceLeDiff, List.reduceReplicate, Int.reduceToNat]
      refine ⟨hr, by omega, m - 1, by omega, k + 1, v, by omega, by rw [w64 (by omega) (by omega)]; rfl, ?_⟩
      rw [hW, hP]
    · have hc : fFl p = false := hc
      rw [hc] at hW hP
      simp only [go_sem, Nat.reduceEqDiff, Nat.reduceLT, Nat.reduceAdd, Nat.reduceSub, Nat.reduceLeDiff, List.reduceReplicate, Int.reduceToNat]
      refine ⟨by unfold roomy; simp; omega, m - 1, by omega, k + 1, v + 1, by omega, by rw [w64 (by omega) (by omega)]; rfl, ?_⟩
      rw [hW, hP]
  · have : k = pend.length := by omega
    subst this
    rw [List.take_length] at hwl hpl ⊢
    have t1 : (keepW fFl pend per).take per.length = keepW fFl pend per := List.take_of_length_le (by omega)
    have t2 : (keepP fFl pend).take (keepP fFl pend).length = keepP fFl pend := List.take_length
    unfold fenceM
    simp only [hb, if_true, go_sem, Nat.reduceEqDiff, Nat.reduceLT, Nat.reduceAdd, Nat.reduceSub, Nat.reduceLeDiff, List.reduceReplicate, Int.reduceToNat]
    refine post_val ?_ rfl
    simp only [go_sem, Nat.reduceEqDiff, Nat.reduceLT, Nat.reduceAdd, Nat.reduceSub, Nat.reduceLeDiff, List.reduceReplicate, Int.reduceToNat, memV, t1, t2]

end Lam
namespace Lam
open Go Go.Proofs
set_option linter.unusedVariables false
set_option linter.unnecessarySimpa false
set_option linter.unusedSimpArgs false
def pmem_New.C : Contract
  | [.sl _ (.ints .i64 l)] => some (false, pD (roomy l.length) (newM l))
  | _ => none
set_option maxRecDepth 20000 in
theorem pmem_New.spec : FSpec Try.prog 103 pmem_New.C := by
  refine FSpec.of (ctx_ok (F := [(123, pmem_sized.C), (92, slices_Clone_sl_int_int.C)]) (S := []) (by simpa using ⟨pmem_sized.spec, slices_Clone_sl_int_int.spec⟩) (by simp) pmem_New.loops) pmem_New.at pmem_New.nm pmem_New.bd ?_
  intro vs b S v news e hS
  unfold pmem_New.C at e
  split at e
  rotate_left
  · cases e
  cases e
  rw [pmem_New.eq]
  unfold pmem_New.H
  simp (maxSteps := 4000000) only [go_sem, Nat.reduceEqDiff, Nat.reduceLT, Nat.reduceAdd, Nat.reduceSub, Nat.reduceLeDiff, List.reduceReplicate, Int.reduceToNat, pmem_sized.C, slices_Clone_sl_int_int.C]
  rename_i l
  unfold roomy at hS
  refine ⟨fun hb => ?_, fun hb => ?_⟩
  · unfold newM; rw [hb]; exact post_val rfl rfl
  · refine ⟨hS, hS, ?_⟩
    unfold newM; simp only [hb, if_true]
    refine post_val ?_ rfl
    simp only [go_sem, Nat.reduceEqDiff, Nat.reduceLT, Nat.reduceAdd, Nat.reduceSub, Nat.reduceLeDiff, List.reduceReplicate, Int.reduceToNat, memV, List.take_length]
def pmem_Crash.C : Contract
  | [.agg [.sl false (.ints .i64 vol), .sl false (.ints .i64 per), .sl false (.pends pend)], .sl _ (.ints .i64 keep)] => some (false, pD (smallM vol per pend ∧ roomy keep.length ∧ i64s keep) (crashM (checkB vol per pend) keep per pend))
  | _ => none
set_option maxRecDepth 20000 in
theorem pmem_Crash.spec : FSpec Try.prog 111 pmem_Crash.C := by
  refine FSpec.of (ctx_ok (F := [(124, pmem_Check.C)]) (S := [(129, pmem_keep.K)]) (by simpa using pmem_Check.spec) (by simpa using pmem_keep.spec) pmem_Crash.loops) pmem_Crash.at pmem_Crash.nm pmem_Crash.bd ?_
  intro vs b S v news e hS
  unfold pmem_Crash.C at e
  split at e
  rotate_left
  · cases e
  cases e
  rw [pmem_Crash.eq]
  unfold pmem_Crash.H
  simp (maxSteps := 4000000) only [go_sem, Nat.reduceEqDiff, Nat.reduceLT, Nat.reduceAdd, Nat.reduceSub, Nat.reduceLeDiff, List.reduceReplicate, Int.reduceToNat, pmem_Check.C]
  rename_i vol per pend _ keep
  obtain ⟨hS, hr, hw64⟩ := hS
  refine ⟨hS, fun hb => ?_, fun hb => ?_⟩
  · unfold crashM; rw [hb]; exact post_val rfl rfl
  obtain ⟨s1, s2, s3⟩ := hS
  unfold roomy at s1 s2 s3 hr
  have hrange := check_range hb
  rw [joinW_eq]
  unfold pmem_Crash.L1
  refine loop1 (σ := Nat) (fun k => .int .i64 k) (fun k => [AObj.box (memV vol per pend), AObj.map (MapC.ii (leftF (keep.take k))), AObj.box (AV.map 1)]) (fun k => keep.length - k) (fun k => k ≤ keep.length) 0 rfl ?_ (Nat.zero_le _) ?_
  · simp [memV, Lam.normO]
    exact leftF_nil.symm
  intro I back k hk
  simp only [go_sem, Nat.reduceEqDiff, Nat.reduceLT, Nat.reduceAdd, Nat.reduceSub, Nat.reduceLeDiff, List.reduceReplicate, Int.reduceToNat]
  refine ⟨fun hlt => ⟨by omega, back (k + 1) (by omega) (by rw [wnext (by omega)]) ?_ (by omega)⟩, fun hge => ?_⟩
  · rw [leftF_next keep (by omega)]; rfl
  obtain rfl : k = keep.length := by omega
  simp only [List.take_length, pmem_keep.K, pmem_keep.H, slices_Clone_sl_int_int.C, go_sem, Nat.reduceEqDiff, Nat.reduceLT, Nat.reduceAdd, Nat.reduceSub, Nat.reduceLeDiff, List.reduceReplicate, Int.reduceToNat]
  refine ⟨s2, ?_⟩
  rw [joinW_eq]
  unfold pmem_keep.L1
  refine loop1 (σ := Nat × Nat × List Int × List Pend × (Int → Int)) (fun s => .int .i64 s.1) (fun s => [.box (memV vol per pend), .map (.ii s.2.2.2.2), .box (.map 1), .box (memV vol per pend), .box (memV [] [] []), .row .own 0 (.ints .i64 s.2.2.1),
      .box (.agg [.sl false (.ints .i64 vol), .sref false 5 0 0 per.length, .sref false 7 s.2.1 0 s.2.2.2.1.length]), .row .own s.2.1 (.pends s.2.2.2.1)]) (fun s => pend.length - s.1)
    (fun s => s.1 ≤ pend.length ∧ s.2.2.1.length = per.length ∧ s.2.2.2.1.length ≤ s.1 ∧ (∀ j, s.2.2.2.2 j < 9223372036854775808) ∧ app (crashK (pend.drop s.1) s.2.2.2.2) s.2.2.1 = crashW keep per pend) (0, 0, per, [], leftF keep) rfl rfl ⟨Nat.zero_le _, rfl, Nat.le_refl _, leftF_lt hw64, rfl⟩ ?_
  rintro I back ⟨k, v, w, q, left⟩ ⟨hk, hw, hq, hlf, hA⟩
  simp only [] at hk hw hq hA hlf ⊢
  simp only [go_sem, Nat.reduceEqDiff, Nat.reduceLT, Nat.reduceAdd, Nat.reduceSub, Nat.reduceLeDiff, List.reduceReplicate, Int.reduceToNat, hw]
  refine ⟨fun hlt => ⟨by omega, ?_⟩, fun hge => ?_⟩
  · have hkl : k < pend.length := by omega
    rw [drop_cons pend k ⟨0, 0, false⟩ hkl] at hA
    have hr := hrange _ (getD_mem pend k ⟨0, 0, false⟩ hkl)
    generalize pend.getD k ⟨0, 0, false⟩ = p at *
    simp only [crashK] at hA
    try rw [joinW_eq]
    simp only [pmem_Crash_1.K, pmem_Crash_1.H, go_sem, Nat.reduceEqDiff, Nat.reduceLT, Nat.reduceAdd, Nat.reduceSub, Nat.reduceLeDiff, List.reduceReplicate, Int.reduceToNat]
    have hle : (fun j => if j = IntKind.i64.wrap (p.at_.tdiv 8) then IntKind.i64.wrap ((if 1 > left (IntKind.i64.wrap (p.at_.tdiv 8)) then 1 else left (IntKind.i64.wrap (p.at_.tdiv 8))) - 1) else left j) = lessL p left := by
      funext j
      have h1 := hlf (lineOf p.at_)
      show (if j = lineOf p.at_ then IntKind.i64.wrap ((if 1 > left (lineOf p.at_) then 1 else left (lineOf p.at_)) - 1) else left j) = _
      unfold lessL
      split
      · rw [w64 (by split <;> omega) (by split <;> omega)]
        split <;> split <;> omega
      · rfl
    rw [hle]
    have hlf' : ∀ j, lessL p left j < 9223372036854775808 := fun j => by
      have h1 := hlf (lineOf p.at_); have h2 := hlf j
      unfold lessL; split <;> (try split) <;> omega
    refine ⟨by decide, by decide, fun hc => ?_, fun hc => ?_⟩
    · have hc : 0 < left (lineOf p.at_) := hc
      rw [decide_eq_true hc] at hA
      refine ⟨hr, by omega, back (k + 1, v, _, q, lessL p left) (by show _ - (k + 1) < _ - k; omega) (by rw [wnext (by omega)]) rfl ⟨by show k + 1 ≤ _; omega, by show (w.set _ _).length = _; rw [List.length_set]; exact hw, by show q.length ≤ k + 1; omega, hlf', hA⟩⟩
    · have hc : ¬ 0 < left (lineOf p.at_) := hc
      rw [decide_eq_false hc] at hA
      have hl : (q ++ [(⟨p.at_, p.val, p.fl⟩ : Pend)]).length = q.length + 1 := by simp
      refine ⟨by unfold roomy; omega, back (k + 1, v + 1, w, _, lessL p left) (by show _ - (k + 1) < _ - k; omega) (by rw [wnext (by omega)]) rfl ⟨by show k + 1 ≤ _; omega, hw, by show (q ++ _).length ≤ k + 1; omega, hlf', hA⟩⟩
  · obtain rfl : k = pend.length := by omega
    rw [List.drop_length] at hA
    have hA : w = crashW keep per pend := hA
    unfold crashM
    simp only [hb, if_true]
    refine post_val ?_ rfl
    simp only [go_sem, Nat.reduceEqDiff, Nat.reduceLT, Nat.reduceAdd, Nat.reduceSub, Nat.reduceLeDiff, List.reduceReplicate, Int.reduceToNat]
    rw [hA, take_len _ (by rw [crashW_len]; exact Nat.le_refl _)]
end Lam
namespace Lam
open Go Go.Proofs
set_option linter.unusedVariables false
def micro_Run.loops : Nat → LInfo
  | _ => ⟨[], [], [], [], []⟩
def micro_Run.H (c : Ctx) (t0 : AV) (t1 : AV) (h : List AObj) (K : AOut → List AObj → Prop) : Prop :=
  boxW T_api_Mem t0 h fun t2 h =>
  allocW T_api_Mem h fun t4 h =>
  runD (fitD T_api_Mem (loadD h t2)) h fun t6 h =>
  callW false c (.fn (.func 104) [] []) [t6, t1] h (fun t8 h =>
  runD (unD .not t8) h fun t9 h =>
  condW t9
  (runD (fitD T_api_Mem (loadD h t2)) h fun t10 h =>
    runH (storeH T_api_Mem h t4 t10) h fun _ h =>
    loadRes (fitD T_api_Mem (loadD h t4)) fun r0 => K (.ret (.tup [r0, (.int .i64 40)])) h)
  (runD (fitD T_api_Mem (loadD h t2)) h fun t11 h =>
  runD (lenD T_sl_api_Micro h t1) h fun t14 h =>
  callW false c (.fn (.func 105) [] []) [t11, t1, t14] h (fun t15 h =>
  runH (storeH T_api_Mem h t4 t15) h fun _ h =>
  loadRes (fitD T_api_Mem (loadD h t4)) fun r0 => K (.ret (.tup [r0, (.int .i64 0)])) h)
  (fun v h => K (.pan v) h)))
  (fun v h => K (.pan v) h)
def micro_Do.loops : Nat → LInfo
  | _ => ⟨[], [], [], [], []⟩
def micro_Do.H (c : Ctx) (t0 : AV) (t1 : AV) (h : List AObj) (K : AOut → List AObj → Prop) : Prop :=
  boxW T_api_Mem t0 h fun t2 h =>
  boxW T_api_Micro t1 h fun t3 h =>
  allocW T_api_Mem h fun t4 h =>
  runD (fitD T_api_Mem (loadD h t2)) h fun t6 h =>
  runD (fitD T_api_Micro (loadD h t3)) h fun t7 h =>
  runD (buildSliceD T_sl_api_Micro 1 [(0, t7)] h.length) h fun t8 h =>
  callW false c (.fn (.func 63) [] []) [t6, t8] h (fun t9 h =>
  runD (extractD t9 0) h fun t10 h =>
  runD (extractD t9 1) h fun t11 h =>
  runH (storeH T_api_Mem h t4 t10) h fun _ h =>
  loadRes (fitD T_api_Mem (loadD h t4)) fun r0 => K (.ret (.tup [r0, t11])) h)
  (fun v h => K (.pan v) h)
def micro_Crash.loops : Nat → LInfo
  | _ => ⟨[], [], [], [], []⟩
def micro_Crash.H (c : Ctx) (t0 : AV) (t1 : AV) (t2 : AV) (t3 : AV) (h : List AObj) (K : AOut → List AObj → Prop) : Prop :=
  boxW T_api_Mem t0 h fun t4 h =>
  runD (fitD T_api_Mem (loadD h t4)) h fun t10 h =>
  callW false c (.fn (.func 104) [] []) [t10, t1] h (fun t12 h =>
  runD (unD .not t12) h fun t13 h =>
  condW t13
  (K (.ret (.tup [(.sl true (.ints .i64 [])), (.int .i64 40)])) h)
  (runD (fitD T_api_Mem (loadD h t4)) h fun t14 h =>
  runD (lenD T_sl_api_Micro h t1) h fun t18 h =>
  runD (minD t2 t18) h fun t19 h =>
  runD (maxD (.int .i64 0) t19) h fun t20 h =>
  callW false c (.fn (.func 105) [] []) [t14, t1, t20] h (fun t21 h =>
  callW false c (.fn (.func 111) [] []) [t21, t3] h (fun t23 h =>
  runD (extractD t23 0) h fun t24 h =>
  runD (extractD t23 1) h fun t25 h =>
  K (.ret (.tup [t24, t25])) h)
  (fun v h => K (.pan v) h))
  (fun v h => K (.pan v) h)))
  (fun v h => K (.pan v) h)
def micro_Check.loops : Nat → LInfo
  | 1 => ⟨[], [], [], [(3, none), (2, some [8, 10]), (2, none), (3, some [12, 15])], []⟩
  | 2 => ⟨[], [], [], [(2, none), (4, some [18, 22])], []⟩
  | _ => ⟨[], [], [], [], []⟩
def micro_Check.H (c : Ctx) (t0 : AV) (t1 : AV) (h : List AObj) (K : AOut → List AObj → Prop) : Prop :=
  boxW T_int t1 h fun t3 h =>
  runD (fitD T_int (loadD h t3)) h fun t6 h =>
  runD (binD T_int .geq t6 (.int .i64 0)) h fun t7 h =>
  joinW (fun (J1 : AV → AV → List AObj → Prop) =>
  guardW t7 true
  (runD (fitD T_int (loadD h t3)) h fun t9 h =>
    runD (binD T_int .leq t9 (.int .i64 4096)) h fun t10 h =>
    J1 (.bool true) t10 h)
  (J1 (.bool false) .und h))
  (fun t8 t10 h => runD (pickD t8 t10 (.bool false)) h fun t11 h =>
  joinW (fun (J2 : AV → AV → List AObj → Prop) =>
  guardW t11 true
  (runD (fitD T_int (loadD h t3)) h fun t13 h =>
    runD (binD T_int .rem t13 (.int .i64 8)) h fun t14 h =>
    runD (binD T_int .eql t14 (.int .i64 0)) h fun t15 h =>
    J2 (.bool true) t15 h)
  (J2 (.bool false) .und h))
  (fun t12 t15 h => runD (pickD t12 t15 (.bool false)) h fun t16 h =>
  joinW (fun (J3 : AV → AV → List AObj → Prop) =>
  guardW t16 true
  (callW false c (.fn (.func 113) [] []) [t0, (.fn (.func 114) [] [t3])] h (fun t21 h =>
    runD (unD .not t21) h fun t22 h =>
    J3 (.bool true) t22 h)
    (fun v h => K (.pan v) h))
  (J3 (.bool false) .und h))
  (fun t18 t22 h => runD (pickD t18 t22 (.bool false)) h fun t23 h =>
  K (.ret t23) h)))
def micro_sound.loops : Nat → LInfo
  | 1 => ⟨[], [], [], [(3, none), (5, some [7, 12])], []⟩
  | _ => ⟨[], [], [], [], []⟩
def micro_sound.H (c : Ctx) (t0 : AV) (t1 : AV) (h : List AObj) (K : AOut → List AObj → Prop) : Prop :=
  boxW T_api_Mem t0 h fun t2 h =>
  runD (fitD T_api_Mem (loadD h t2)) h fun t5 h =>
  callW false c (.fn (.func 124) [] []) [t5] h (fun t6 h =>
  joinW (fun (J1 : AV → AV → List AObj → Prop) =>
  guardW t6 true
  (runD (fieldAddrD T_api_Mem t2 0) h fun t9 h =>
    runD (fitD T_sl_int (loadD h t9)) h fun t10 h =>
    runD (lenD T_sl_int h t10) h fun t11 h =>
    callW false c (.fn (.func 70) [] []) [t1, t11] h (fun t12 h =>
    J1 (.bool true) t12 h)
    (fun v h => K (.pan v) h))
  (J1 (.bool false) .und h))
  (fun t7 t12 h => runD (pickD t7 t12 (.bool false)) h fun t13 h =>
  K (.ret t13) h))
  (fun v h => K (.pan v) h)
def micro_first.loops : Nat → LInfo
  | 4 => ⟨[15], [false], [1, 6, 7, 8, 14], [], []⟩
  | _ => ⟨[], [], [], [], []⟩
def micro_first.L1 (c : Ctx) (J1 : AV → AV → List AObj → Prop) (K : AOut → List AObj → Prop) (lv : List AV) (h0 : List AObj) (n0 : Nat) (c1 : AV) (c6 : AV) (c7 : AV) (c8 : AV) (c14 : AV) : Prop :=
  ∃ I : Nat → List AV → List AObj → Prop, (∃ n, I n lv h0) ∧ ∀ n h, ∀ t15, I n [t15] h →
    runD (binD T_int .lss t15 c14) h fun t16 h =>
    condW t16
    (runD (indexAddrD T_sl_api_Micro h c1 t15) h fun t21 h =>
    runD (fieldAddrD T_api_Micro t21 0) h fun t22 h =>
    runD (fitD T_int (loadD h t22)) h fun t23 h =>
    runD (lookupD T_map_int_func_p_micro_doer_api_Micro h c8 t23) h fun t24 h =>
    runD (indexAddrD T_sl_api_Micro h c1 t15) h fun t28 h =>
    runD (fitD T_api_Micro (loadD h t28)) h fun t29 h =>
    callW false c t24 [c7, t29] h (fun t30 h =>
    runD (binD T_int .add t15 (.int .i64 1)) h fun t31 h =>
    (∃ m, m < n ∧ I m (AV.norms n0 h [t31]) (normH n0 h)) ∧ AV.norms n0 h [c1, c6, c7, c8, c14] = [c1, c6, c7, c8, c14])
    (fun v h => K (.pan v) h))
    (J1 c6 c7 h)
def micro_first.H (c : Ctx) (t0 : AV) (t1 : AV) (t2 : AV) (h : List AObj) (K : AOut → List AObj → Prop) : Prop :=
  boxW T_api_Mem t0 h fun t3 h =>
  allocW T_api_Mem h fun t6 h =>
  runD (fitD T_api_Mem (loadD h t3)) h fun t10 h =>
  runD (buildD T_micro_doer [(0, t10)]) h fun t11 h =>
  boxW T_micro_doer t11 h fun t12 h =>
  callW false c (.fn (.func 125) [] []) [] h (fun t13 h =>
  joinW (fun (J1 : AV → AV → List AObj → Prop) =>
  promV [false] [(.int .i64 0)] h fun lv h => micro_first.L1 c J1 K (AV.norms h.length h lv) (normH h.length h) h.length (AV.norm h.length h t1) (AV.norm h.length h t6) (AV.norm h.length h t12) (AV.norm h.length h t13) (AV.norm h.length h t2))
  (fun t6 t7 h => runD (nilCheckD t7) h fun t33 h =>
  runD (fieldAddrD T_micro_doer t33 0) h fun t34 h =>
  runD (fitD T_api_Mem (loadD h t34)) h fun t35 h =>
  runH (storeH T_api_Mem h t6 t35) h fun _ h =>
  loadRes (fitD T_api_Mem (loadD h t6)) fun r0 => K (.ret r0) h))
  (fun v h => K (.pan v) h)
def micro_Check_1.loops : Nat → LInfo
  | _ => ⟨[], [], [], [], []⟩
def micro_Check_1.H (c : Ctx) (t0 : AV) (t1 : AV) (h : List AObj) (K : AOut → List AObj → Prop) : Prop :=
  boxW T_api_Micro t0 h fun t2 h =>
  runD (fitD T_api_Micro (loadD h t2)) h fun t4 h =>
  runD (fitD T_int (loadD h t1)) h fun t5 h =>
  callW false c (.fn (.func 115) [] []) [t4, t5] h (fun t6 h =>
  runD (unD .not t6) h fun t7 h =>
  K (.ret t7) h)
  (fun v h => K (.pan v) h)
def micro_may.loops : Nat → LInfo
  | 2 => ⟨[], [], [], [(4, none), (7, some [14, 21]), (2, none), (8, some [23, 31])], []⟩
  | _ => ⟨[], [], [], [], []⟩
def micro_may.H (c : Ctx) (t0 : AV) (t1 : AV) (h : List AObj) (K : AOut → List AObj → Prop) : Prop :=
  boxW T_api_Micro t0 h fun t2 h =>
  runD (makeMapD T_map_int_int h.length) h fun t6 h =>
  runH (mapSetH T_map_int_int h t6 (.int .i64 1) t1) h fun _ h =>
  runD (binD T_int .quo t1 (.int .i64 8)) h fun t9 h =>
  runH (mapSetH T_map_int_int h t6 (.int .i64 2) t9) h fun _ h =>
  runD (fieldAddrD T_api_Micro t2 1) h fun t11 h =>
  runD (fitD T_int (loadD h t11)) h fun t12 h =>
  runD (binD T_int .geq t12 (.int .i64 0)) h fun t13 h =>
  joinW (fun (J1 : AV → AV → List AObj → Prop) =>
  guardW t13 true
  (runD (fieldAddrD T_api_Micro t2 1) h fun t15 h =>
    runD (fitD T_int (loadD h t15)) h fun t16 h =>
    runD (fieldAddrD T_api_Micro t2 0) h fun t18 h =>
    runD (fitD T_int (loadD h t18)) h fun t19 h =>
    runD (lookupD T_map_int_int h t6 t19) h fun t20 h =>
    runD (binD T_int .lss t16 t20) h fun t21 h =>
    J1 (.bool true) t21 h)
  (J1 (.bool false) .und h))
  (fun t14 t21 h => runD (pickD t14 t21 (.bool false)) h fun t22 h =>
  joinW (fun (J2 : AV → AV → List AObj → Prop) =>
  guardW t22 true
  (runD (fieldAddrD T_api_Micro t2 0) h fun t24 h =>
    runD (fitD T_int (loadD h t24)) h fun t25 h =>
    runD (binD T_int .eql t25 (.int .i64 1)) h fun t26 h =>
    joinW (fun (J3 : AV → AV → List AObj → Prop) =>
    guardW t26 false
    (runD (fieldAddrD T_api_Micro t2 2) h fun t28 h =>
      runD (fitD T_int (loadD h t28)) h fun t29 h =>
      runD (binD T_int .eql t29 (.int .i64 0)) h fun t30 h =>
      J3 (.bool false) t30 h)
    (J3 (.bool true) .und h))
    (fun t27 t30 h => runD (pickD t27 (.bool true) t30) h fun t31 h =>
    J2 (.bool true) t31 h))
  (J2 (.bool false) .und h))
  (fun t23 t31 h => runD (pickD t23 t31 (.bool false)) h fun t32 h =>
  K (.ret t32) h))
def micro_kinds.loops : Nat → LInfo
  | _ => ⟨[], [], [], [], []⟩
def micro_kinds.H (c : Ctx) (h : List AObj) (K : AOut → List AObj → Prop) : Prop :=
  runD (makeMapD T_map_int_func_p_micro_doer_api_Micro h.length) h fun t1 h =>
  runH (mapSetH T_map_int_func_p_micro_doer_api_Micro h t1 (.int .i64 1) (.fn (.func 136) [] [])) h fun _ h =>
  runH (mapSetH T_map_int_func_p_micro_doer_api_Micro h t1 (.int .i64 2) (.fn (.func 137) [] [])) h fun _ h =>
  K (.ret t1) h
def micro_doer_store.loops : Nat → LInfo
  | _ => ⟨[], [], [], [], []⟩
def micro_doer_store.H (c : Ctx) (t0 : AV) (t1 : AV) (h : List AObj) (K : AOut → List AObj → Prop) : Prop :=
  boxW T_api_Micro t1 h fun t3 h =>
  runD (nilCheckD t0) h fun t7 h =>
  runD (fieldAddrD T_micro_doer t7 0) h fun t8 h =>
  runD (fitD T_api_Mem (loadD h t8)) h fun t9 h =>
  runD (fieldAddrD T_api_Micro t3 1) h fun t10 h =>
  runD (fitD T_int (loadD h t10)) h fun t11 h =>
  runD (fieldAddrD T_api_Micro t3 2) h fun t12 h =>
  runD (fitD T_int (loadD h t12)) h fun t13 h =>
  callW false c.noS (.fn (.func 142) [] []) [t9, t11, t13] h (fun t14 h =>
  runD (extractD t14 0) h fun t15 h =>
  runD (extractD t14 1) h fun t16 h =>
  runD (nilCheckD t0) h fun t17 h =>
  runD (fieldAddrD T_micro_doer t17 0) h fun t18 h =>
  runH (storeH T_api_Mem h t18 t15) h fun _ h =>
  K (.ret (.tup [])) h)
  (fun _ _ => False)
def micro_doer_persist.loops : Nat → LInfo
  | _ => ⟨[], [], [], [], []⟩
def micro_doer_persist.H (c : Ctx) (t0 : AV) (t1 : AV) (h : List AObj) (K : AOut → List AObj → Prop) : Prop :=
  boxW T_api_Micro t1 h fun t3 h =>
  runD (nilCheckD t0) h fun t7 h =>
  runD (fieldAddrD T_micro_doer t7 0) h fun t8 h =>
  runD (fitD T_api_Mem (loadD h t8)) h fun t9 h =>
  runD (fieldAddrD T_api_Micro t3 1) h fun t10 h =>
  runD (fitD T_int (loadD h t10)) h fun t11 h =>
  callW false c.noS (.fn (.func 143) [] []) [t9, t11] h (fun t12 h =>
  runD (extractD t12 0) h fun t13 h =>
  runD (extractD t12 1) h fun t14 h =>
  runD (nilCheckD t0) h fun t15 h =>
  runD (fieldAddrD T_micro_doer t15 0) h fun t16 h =>
  runH (storeH T_api_Mem h t16 t13) h fun _ h =>
  runD (nilCheckD t0) h fun t20 h =>
  runD (fieldAddrD T_micro_doer t20 0) h fun t21 h =>
  runD (fitD T_api_Mem (loadD h t21)) h fun t22 h =>
  callW false c (.fn (.func 144) [] []) [t22] h (fun t23 h =>
  runD (extractD t23 0) h fun t24 h =>
  runD (extractD t23 1) h fun t25 h =>
  runD (nilCheckD t0) h fun t26 h =>
  runD (fieldAddrD T_micro_doer t26 0) h fun t27 h =>
  runH (storeH T_api_Mem h t27 t24) h fun _ h =>
  K (.ret (.tup [])) h)
  (fun v h => K (.pan v) h))
  (fun _ _ => False)
theorem micro_Run.eq (F : List (FuncId × Contract)) (S : List (FuncId × Con)) (t0 t1 : AV) (h : List AObj) (K : AOut → List AObj → Prop) : funW (ctx F S micro_Run.loops) Try.f63 [t0, t1] h K = micro_Run.H (ctx F S micro_Run.loops) t0 t1 h K := by kernel_rfl
theorem micro_Do.eq (F : List (FuncId × Contract)) (S : List (FuncId × Con)) (t0 t1 : AV) (h : List AObj) (K : AOut → List AObj → Prop) : funW (ctx F S micro_Do.loops) Try.f65 [t0, t1] h K = micro_Do.H (ctx F S micro_Do.loops) t0 t1 h K := by kernel_rfl
theorem micro_Crash.eq (F : List (FuncId × Contract)) (S : List (FuncId × Con)) (t0 t1 t2 t3 : AV) (h : List AObj) (K : AOut → List AObj → Prop) : funW (ctx F S micro_Crash.loops) Try.f67 [t0, t1, t2, t3] h K = micro_Crash.H (ctx F S micro_Crash.loops) t0 t1 t2 t3 h K := by kernel_rfl
theorem micro_Check.eq (F : List (FuncId × Contract)) (S : List (FuncId × Con)) (t0 t1 : AV) (h : List AObj) (K : AOut → List AObj → Prop) : funW (ctx F S micro_Check.loops) Try.f70 [t0, t1] h K = micro_Check.H (ctx F S micro_Check.loops) t0 t1 h K := by kernel_rfl
theorem micro_sound.eq (F : List (FuncId × Contract)) (S : List (FuncId × Con)) (t0 t1 : AV) (h : List AObj) (K : AOut → List AObj → Prop) : funW (ctx F S micro_sound.loops) Try.f104 [t0, t1] h K = micro_sound.H (ctx F S micro_sound.loops) t0 t1 h K := by kernel_rfl
theorem micro_first.eq (F : List (FuncId × Contract)) (S : List (FuncId × Con)) (t0 t1 t2 : AV) (h : List AObj) (K : AOut → List AObj → Prop) : funW (ctx F S micro_first.loops) Try.f105 [t0, t1, t2] h K = micro_first.H (ctx F S micro_first.loops) t0 t1 t2 h K := by kernel_rfl
theorem micro_Check_1.eq (F : List (FuncId × Contract)) (S : List (FuncId × Con)) (t0 t1 : AV) (h : List AObj) (K : AOut → List AObj → Prop) : funW (ctx F S micro_Check_1.loops) Try.f114 [t0, t1] h K = micro_Check_1.H (ctx F S micro_Check_1.loops) t0 t1 h K := by kernel_rfl
theorem micro_may.eq (F : List (FuncId × Contract)) (S : List (FuncId × Con)) (t0 t1 : AV) (h : List AObj) (K : AOut → List AObj → Prop) : funW (ctx F S micro_may.loops) Try.f115 [t0, t1] h K = micro_may.H (ctx F S micro_may.loops) t0 t1 h K := by kernel_rfl
theorem micro_kinds.eq (F : List (FuncId × Contract)) (S : List (FuncId × Con)) (h : List AObj) (K : AOut → List AObj → Prop) : funW (ctx F S micro_kinds.loops) Try.f125 [] h K = micro_kinds.H (ctx F S micro_kinds.loops)  h K := by kernel_rfl
theorem micro_doer_store.eq (F : List (FuncId × Contract)) (S : List (FuncId × Con)) (t0 t1 : AV) (h : List AObj) (K : AOut → List AObj → Prop) : funW (ctx F S micro_doer_store.loops) Try.f136 [t0, t1] h K = micro_doer_store.H (ctx F S micro_doer_store.loops) t0 t1 h K := by kernel_rfl
theorem micro_doer_persist.eq (F : List (FuncId × Contract)) (S : List (FuncId × Con)) (t0 t1 : AV) (h : List AObj) (K : AOut → List AObj → Prop) : funW (ctx F S micro_doer_persist.loops) Try.f137 [t0, t1] h K = micro_doer_persist.H (ctx F S micro_doer_persist.loops) t0 t1 h K := by kernel_rfl
theorem micro_Run.at : Try.prog.funcs[63]? = some Try.f63 := by kernel_rfl
theorem micro_Run.nm : (Try.f63.name == "runtime.NumGoroutine") = false := by kernel_rfl
theorem micro_Run.bd : Try.f63.body.isNone = false := by kernel_rfl
theorem micro_Do.at : Try.prog.funcs[65]? = some Try.f65 := by kernel_rfl
theorem micro_Do.nm : (Try.f65.name == "runtime.NumGoroutine") = false := by kernel_rfl
theorem micro_Do.bd : Try.f65.body.isNone = false := by kernel_rfl
theorem micro_Crash.at : Try.prog.funcs[67]? = some Try.f67 := by kernel_rfl
theorem micro_Crash.nm : (Try.f67.name == "runtime.NumGoroutine") = false := by kernel_rfl
theorem micro_Crash.bd : Try.f67.body.isNone = false := by kernel_rfl
theorem micro_Check.at : Try.prog.funcs[70]? = some Try.f70 := by kernel_rfl
theorem micro_Check.nm : (Try.f70.name == "runtime.NumGoroutine") = false := by kernel_rfl
theorem micro_Check.bd : Try.f70.body.isNone = false := by kernel_rfl
theorem micro_sound.at : Try.prog.funcs[104]? = some Try.f104 := by kernel_rfl
theorem micro_sound.nm : (Try.f104.name == "runtime.NumGoroutine") = false := by kernel_rfl
theorem micro_sound.bd : Try.f104.body.isNone = false := by kernel_rfl
theorem micro_first.at : Try.prog.funcs[105]? = some Try.f105 := by kernel_rfl
theorem micro_first.nm : (Try.f105.name == "runtime.NumGoroutine") = false := by kernel_rfl
theorem micro_first.bd : Try.f105.body.isNone = false := by kernel_rfl
theorem micro_Check_1.at : Try.prog.funcs[114]? = some Try.f114 := by kernel_rfl
theorem micro_Check_1.nm : (Try.f114.name == "runtime.NumGoroutine") = false := by kernel_rfl
theorem micro_Check_1.bd : Try.f114.body.isNone = false := by kernel_rfl
theorem micro_may.at : Try.prog.funcs[115]? = some Try.f115 := by kernel_rfl
theorem micro_may.nm : (Try.f115.name == "runtime.NumGoroutine") = false := by kernel_rfl
theorem micro_may.bd : Try.f115.body.isNone = false := by kernel_rfl
theorem micro_kinds.at : Try.prog.funcs[125]? = some Try.f125 := by kernel_rfl
theorem micro_kinds.nm : (Try.f125.name == "runtime.NumGoroutine") = false := by kernel_rfl
theorem micro_kinds.bd : Try.f125.body.isNone = false := by kernel_rfl
theorem micro_doer_store.at : Try.prog.funcs[136]? = some Try.f136 := by kernel_rfl
theorem micro_doer_store.nm : (Try.f136.name == "runtime.NumGoroutine") = false := by kernel_rfl
theorem micro_doer_store.bd : Try.f136.body.isNone = false := by kernel_rfl
theorem micro_doer_persist.at : Try.prog.funcs[137]? = some Try.f137 := by kernel_rfl
theorem micro_doer_persist.nm : (Try.f137.name == "runtime.NumGoroutine") = false := by kernel_rfl
theorem micro_doer_persist.bd : Try.f137.body.isNone = false := by kernel_rfl
end Lam
namespace Lam
open Go Go.Proofs
set_option linter.unusedVariables false
set_option linter.unnecessarySimpa false
set_option linter.unusedSimpArgs false
def micro_may.C : Contract
  | [.agg [.int .i64 k, .int .i64 a, .int .i64 w], .int .i64 n] => some (false, pD True (.bool (mmay ⟨k, a, w⟩ n)))
  | _ => none
set_option maxRecDepth 20000 in
theorem micro_may.spec : FSpec Try.prog 115 micro_may.C := by
  refine FSpec.of (ctx_ok (F := []) (S := []) (by simp) (by simp) micro_may.loops) micro_may.at micro_may.nm micro_may.bd ?_
  intro vs b S v news e hS
  unfold micro_may.C at e
  split at e
  rotate_left
  · cases e
  cases e
  rw [micro_may.eq]
  unfold micro_may.H
  simp (maxSteps := 4000000) only [go_sem, Nat.reduceEqDiff, Nat.reduceLT, Nat.reduceAdd, Nat.reduceSub, Nat.reduceLeDiff, List.reduceReplicate, Int.reduceToNat]
  refine ⟨by decide, ?_⟩
  exact post_val rfl rfl
def micro_Check_1.K : Con := fun args h K => match args with
  | [a0, a1] => micro_Check_1.H (ctx [(115, micro_may.C)] [] micro_Check_1.loops) a0 a1 h K
  | _ => False
theorem micro_Check_1.spec : SSpec Try.prog 114 micro_Check_1.K := by
  refine SSpec.of (ctx_ok (F := [(115, micro_may.C)]) (S := []) (by simpa using micro_may.spec) (by simp) micro_Check_1.loops) micro_Check_1.at micro_Check_1.nm micro_Check_1.bd ?_
  intro args h K hC
  unfold micro_Check_1.K at hC
  split at hC
  · rw [micro_Check_1.eq]; exact hC
  · exact hC.elim
def slices_IndexFunc_sl_api_Micro_api_Micro.K : Con := fun args h K => match args with
  | [a0, a1] => slices_IndexFunc_sl_api_Micro_api_Micro.H (ctx [] [(114, micro_Check_1.K)] slices_IndexFunc_sl_api_Micro_api_Micro.loops) a0 a1 h K
  | _ => False
theorem slices_IndexFunc_sl_api_Micro_api_Micro.spec : SSpec Try.prog 131 slices_IndexFunc_sl_api_Micro_api_Micro.K := by
  refine SSpec.of (ctx_ok (F := []) (S := [(114, micro_Check_1.K)]) (by simp) (by simpa using micro_Check_1.spec) slices_IndexFunc_sl_api_Micro_api_Micro.loops) slices_IndexFunc_sl_api_Micro_api_Micro.at slices_IndexFunc_sl_api_Micro_api_Micro.nm slices_IndexFunc_sl_api_Micro_api_Micro.bd ?_
  intro args h K hC
  unfold slices_IndexFunc_sl_api_Micro_api_Micro.K at hC
  split at hC
  · rw [slices_IndexFunc_sl_api_Micro_api_Micro.eq]; exact hC
  · exact hC.elim
def slices_ContainsFunc_sl_api_Micro_api_Micro.K : Con := fun args h K => match args with
  | [a0, a1] => slices_ContainsFunc_sl_api_Micro_api_Micro.H (ctx [] [(131, slices_IndexFunc_sl_api_Micro_api_Micro.K)] slices_ContainsFunc_sl_api_Micro_api_Micro.loops) a0 a1 h K
  | _ => False
theorem slices_ContainsFunc_sl_api_Micro_api_Micro.spec : SSpec Try.prog 113 slices_ContainsFunc_sl_api_Micro_api_Micro.K := by
  refine SSpec.of (ctx_ok (F := []) (S := [(131, slices_IndexFunc_sl_api_Micro_api_Micro.K)]) (by simp) (by simpa using slices_IndexFunc_sl_api_Micro_api_Micro.spec) slices_ContainsFunc_sl_api_Micro_api_Micro.loops) slices_ContainsFunc_sl_api_Micro_api_Micro.at slices_ContainsFunc_sl_api_Micro_api_Micro.nm slices_ContainsFunc_sl_api_Micro_api_Micro.bd ?_
  intro args h K hC
  unfold slices_ContainsFunc_sl_api_Micro_api_Micro.K at hC
  split at hC
  · rw [slices_ContainsFunc_sl_api_Micro_api_Micro.eq]; exact hC
  · exact hC.elim

theorem micro_Check_1_vc (x : Mic) (n : Int) (h : List AObj) (K : AOut → List AObj → Prop) (id : Nat) (hid : h[id]? = some (.box (.int .i64 n)))
    (hK : K (.ret (.bool (!mmay x n))) (h ++ [.box (encMic x)])) : micro_Check_1.K [.agg [.int .i64 x.kind, .int .i64 x.at_, .int .i64 x.val], .ptr id []] h K := by
  have hlt : id < h.length := (List.getElem?_eq_some_iff.1 hid).1
  have hid' : ∀ r, (h ++ r)[id]? = some (.box (.int .i64 n)) := fun r => by rw [List.getElem?_append_left hlt]; exact hid
  have hlen : ∀ o r, (h ++ o :: r)[h.length]? = some o := fun o r => by simp
  unfold micro_Check_1.K
  simp only
  unfold micro_Check_1.H
  simp only [go_sem, Nat.reduceEqDiff, Nat.reduceLT, Nat.reduceAdd, Nat.reduceSub, Nat.reduceLeDiff, List.reduceReplicate, Int.reduceToNat, hid', hlen, micro_may.C]
  exact hK

theorem index_vc (l : List Mic) (n : Int) (K : AOut → List AObj → Prop) (x : Bool) (hr : roomy l.length) (h : List AObj) (hh : h = [.box (.int .i64 n)])
    (hK : ∀ r h', (r = -1 ∧ (∀ y ∈ l, mmay y n = true)) ∨ (0 ≤ r ∧ ∃ y ∈ l, mmay y n = false) → K (.ret (.int .i64 r)) h') :
    slices_IndexFunc_sl_api_Micro_api_Micro.K [.sl x (.mics l), .fn (.func 114) [] [.ptr 0 []]] h K := by
  unfold roomy at hr
  unfold slices_IndexFunc_sl_api_Micro_api_Micro.K
  simp only
  unfold slices_IndexFunc_sl_api_Micro_api_Micro.H
  subst hh
  simp only [go_sem, Nat.reduceEqDiff, Nat.reduceLT, Nat.reduceAdd, Nat.reduceSub, Nat.reduceLeDiff, List.reduceReplicate, Int.reduceToNat, joinW_eq]
  unfold slices_IndexFunc_sl_api_Micro_api_Micro.L1
  refine ⟨fun m lv h' => ∃ k : Nat, k + m = l.length ∧ lv = [.int .i64 k] ∧ h' = [.box (.int .i64 n)] ∧ ∀ y ∈ l.take k, mmay y n = true, ⟨l.length, 0, by omega, rfl, rfl, by simp⟩, ?_⟩
  rintro m h' t8 ⟨k, hk, hlv, rfl, hall⟩
  simp only [List.cons.injEq, and_true] at hlv
  subst hlv
  simp only [go_sem, Nat.reduceEqDiff, Nat.reduceLT, Nat.reduceAdd, Nat.reduceSub, Nat.reduceLeDiff, List.reduceReplicate, Int.reduceToNat]
  refine ⟨fun hlt => ⟨by omega, ?_⟩, fun hge => ?_⟩
  · have hkl : k < l.length := by omega
    apply micro_Check_1_vc _ n _ _ 0 rfl
    simp only [go_sem, Nat.reduceEqDiff, Nat.reduceLT, Nat.reduceAdd, Nat.reduceSub, Nat.reduceLeDiff, List.reduceReplicate, Int.reduceToNat]
    refine ⟨fun h => hK _ _ (.inr ⟨by omega, _, getD_mem l k _ hkl, by simpa using h⟩), fun h => ?_⟩
    refine ⟨m - 1, by omega, k + 1, by omega, by rw [w64 (by omega) (by omega)]; rfl, ?_⟩
    intro y hy
    rw [take_next l k ⟨0, 0, 0⟩ hkl] at hy
    rcases List.mem_append.1 hy with hy | hy
    · exact hall y hy
    · rw [List.mem_singleton.1 hy]; simpa using h
  · have : k = l.length := by omega
    subst this
    rw [List.take_length] at hall
    exact hK _ _ (.inl ⟨rfl, hall⟩)

theorem contains_vc (l : List Mic) (n : Int) (K : AOut → List AObj → Prop) (x : Bool) (hr : roomy l.length) (h : List AObj) (hh : h = [.box (.int .i64 n)])
    (hK : ∀ h', K (.ret (.bool (!l.all (mmay · n)))) h') :
    slices_ContainsFunc_sl_api_Micro_api_Micro.K [.sl x (.mics l), .fn (.func 114) [] [.ptr 0 []]] h K := by
  unfold slices_ContainsFunc_sl_api_Micro_api_Micro.K
  simp only
  unfold slices_ContainsFunc_sl_api_Micro_api_Micro.H
  subst hh
  simp only [go_sem, Nat.reduceEqDiff, Nat.reduceLT, Nat.reduceAdd, Nat.reduceSub, Nat.reduceLeDiff, List.reduceReplicate, Int.reduceToNat]
  apply index_vc l n _ x hr _ rfl
  intro r h' hcase
  simp only [go_sem, Nat.reduceEqDiff, Nat.reduceLT, Nat.reduceAdd, Nat.reduceSub, Nat.reduceLeDiff, List.reduceReplicate, Int.reduceToNat]
  have : decide (0 ≤ r) = !l.all (mmay · n) := by
    rcases hcase with ⟨rfl, h⟩ | ⟨h0, y, hy, h⟩
    · have : l.all (mmay · n) = true := List.all_eq_true.2 h
      rw [this]; rfl
    · have : l.all (mmay · n) = false := by
        rw [List.all_eq_false]; exact ⟨y, hy, by simp [h]⟩
      rw [this]; simpa using h0
  rw [this]; exact hK h'

def micro_Check.C : Contract
  | [.sl _ (.mics l), .int .i64 n] => some (false, pD (roomy l.length) (.bool (sizedB n && l.all (mmay · n))))
  | _ => none
set_option maxRecDepth 20000 in
theorem micro_Check.spec : FSpec Try.prog 70 micro_Check.C := by
  refine FSpec.of (ctx_ok (F := []) (S := [(113, slices_ContainsFunc_sl_api_Micro_api_Micro.K)]) (by simp) (by simpa using slices_ContainsFunc_sl_api_Micro_api_Micro.spec) micro_Check.loops) micro_Check.at micro_Check.nm micro_Check.bd ?_
  intro vs b S v news e hS
  unfold micro_Check.C at e
  split at e
  rotate_left
  · cases e
  cases e
  rw [micro_Check.eq]
  unfold micro_Check.H
  simp (maxSteps := 4000000) only [go_sem, Nat.reduceEqDiff, Nat.reduceLT, Nat.reduceAdd, Nat.reduceSub, Nat.reduceLeDiff, List.reduceReplicate, Int.reduceToNat]
  refine ⟨by simp, ?_⟩
  rw [joinW_eq]
  simp only [guardW_bool]
  refine ⟨fun hs => ?_, fun hs => ?_⟩
  · apply contains_vc _ _ _ _ hS _ rfl
    intro h'
    simp only [go_sem, Nat.reduceEqDiff, Nat.reduceLT, Nat.reduceAdd, Nat.reduceSub, Nat.reduceLeDiff, List.reduceReplicate, Int.reduceToNat, Bool.not_not]
    exact post_val (by rw [show sizedB _ = true from hs, Bool.true_and]; rfl) rfl
  · simp only [go_sem, Nat.reduceEqDiff, Nat.reduceLT, Nat.reduceAdd, Nat.reduceSub, Nat.reduceLeDiff, List.reduceReplicate, Int.reduceToNat]
    exact post_val (by rw [show sizedB _ = false from hs, Bool.false_and]; rfl) rfl


def micro_doer_store.K : Con := fun args h K => match args with
  | [a0, a1] => micro_doer_store.H (ctx [(142, pmem_Put.C)] [] micro_doer_store.loops) a0 a1 h K
  | _ => False
theorem micro_doer_store.spec : SSpec Try.prog 136 micro_doer_store.K := by
  refine SSpec.of (ctx_ok (F := [(142, pmem_Put.C)]) (S := []) (by simpa using pmem_Put.spec) (by simp) micro_doer_store.loops) micro_doer_store.at micro_doer_store.nm micro_doer_store.bd ?_
  intro args h K hC
  unfold micro_doer_store.K at hC
  split at hC
  · rw [micro_doer_store.eq]; exact hC
  · exact hC.elim
def micro_doer_persist.K : Con := fun args h K => match args with
  | [a0, a1] => micro_doer_persist.H (ctx [(143, pmem_Flush.C), (144, pmem_Fence.C)] [] micro_doer_persist.loops) a0 a1 h K
  | _ => False
theorem micro_doer_persist.spec : SSpec Try.prog 137 micro_doer_persist.K := by
  refine SSpec.of (ctx_ok (F := [(143, pmem_Flush.C), (144, pmem_Fence.C)]) (S := []) (by simpa using ⟨pmem_Flush.spec, pmem_Fence.spec⟩) (by simp) micro_doer_persist.loops) micro_doer_persist.at micro_doer_persist.nm micro_doer_persist.bd ?_
  intro args h K hC
  unfold micro_doer_persist.K at hC
  split at hC
  · rw [micro_doer_persist.eq]; exact hC
  · exact hC.elim
def micro_kinds.K : Con := fun args h K => match args with
  | [] => micro_kinds.H (ctx [] [] micro_kinds.loops)  h K
  | _ => False
theorem micro_kinds.spec : SSpec Try.prog 125 micro_kinds.K := by
  refine SSpec.of (ctx_ok (F := []) (S := []) (by simp) (by simp) micro_kinds.loops) micro_kinds.at micro_kinds.nm micro_kinds.bd ?_
  intro args h K hC
  unfold micro_kinds.K at hC
  split at hC
  · rw [micro_kinds.eq]; exact hC
  · exact hC.elim
def micro_first.C : Contract
  | [.agg [.sl false (.ints .i64 vol), .sl false (.ints .i64 per), .sl false (.pends pend)], .sl _ (.mics l), .int .i64 n] => some (false, pD (Mm.ok ⟨vol, per, pend⟩ ∧ (∀ x ∈ l, MayN x vol.length) ∧ pend.length + l.length ≤ 1000000 ∧ 0 ≤ n ∧ n ≤ (l.length : Int)) (runS ⟨vol, per, pend⟩ (l.take n.toNat)).V)
  | _ => none
set_option maxRecDepth 20000 in
theorem micro_first.spec : FSpec Try.prog 105 micro_first.C := by
  refine FSpec.of (ctx_ok (F := []) (S := [(125, micro_kinds.K), (136, micro_doer_store.K), (137, micro_doer_persist.K)]) (by simp) (by simpa using ⟨micro_kinds.spec, micro_doer_store.spec, micro_doer_persist.spec⟩) micro_first.loops) micro_first.at micro_first.nm micro_first.bd ?_
  intro vs b S v news e hS
  unfold micro_first.C at e
  split at e
  rotate_left
  · cases e
  cases e
  rw [micro_first.eq]
  unfold micro_first.H
  simp (maxSteps := 4000000) only [go_sem, Nat.reduceEqDiff, Nat.reduceLT, Nat.reduceAdd, Nat.reduceSub, Nat.reduceLeDiff, List.reduceReplicate, Int.reduceToNat, micro_kinds.K, micro_kinds.H]
  rename_i vol per pend _ l n
  obtain ⟨ok, hl, hsz, hn0, hn1⟩ := hS
  rw [joinW_eq]
  unfold micro_first.L1
  refine loop1 (σ := Nat) (fun k => .int .i64 k) (fun k => [.box (memV vol per pend), .box (memV [] [] []), .box (.agg [(runS ⟨vol, per, pend⟩ (l.take k)).V]), .map (.ifn fun j => if j = 2 then some 137 else if j = 1 then some 136 else none)]) (fun k => n.toNat - k) (fun k => k ≤ n.toNat) 0 rfl rfl (Nat.zero_le _) ?_
  intro I back k hk
  have okk := runS_ok (l.take k) ok fun x hx => hl x ((List.take_sublist _ _).subset hx)
  have lenk := runS_len (l.take k) ⟨vol, per, pend⟩
  have pendk := runS_pend_le (l.take k) ⟨vol, per, pend⟩
  rw [List.length_take] at pendk
  simp only [] at lenk pendk
  simp only [go_sem, Nat.reduceEqDiff, Nat.reduceLT, Nat.reduceAdd, Nat.reduceSub, Nat.reduceLeDiff, List.reduceReplicate, Int.reduceToNat]
  refine ⟨fun hlt => ?_, fun hge => ?_⟩
  · have hkl : k < l.length := by omega
    have hnx : runS ⟨vol, per, pend⟩ (l.take (k + 1)) = stepM (runS ⟨vol, per, pend⟩ (l.take k)) (l.getD k ⟨0, 0, 0⟩) := by
      rw [take_next l k ⟨0, 0, 0⟩ hkl, runS_append]; rfl
    have hx := hl _ (getD_mem l k ⟨0, 0, 0⟩ hkl)
    generalize l.getD k ⟨0, 0, 0⟩ = x at *
    generalize runS ⟨vol, per, pend⟩ (l.take k) = m at *
    have hsm : smallM m.vol m.per m.pend := OkM.small okk (by omega)
    refine ⟨by omega, ?_⟩
    rcases hx with ⟨hkd, h0, h1⟩ | ⟨hkd, h0, h1, _⟩
    · have hp : placeB m.vol m.per m.pend x.at_ = true := place_iff.2 ⟨⟨h0, by omega⟩, okk⟩
      have hst : stepM m x = store m x.at_ x.val := by unfold stepM; rw [if_pos hkd]
      have e : (if x.kind = 2 then some 137 else if x.kind = 1 then some 136 else none : Option Nat) = some 136 := by rw [if_neg (by omega), if_pos hkd]
      simp only [e, micro_doer_store.K, micro_doer_store.H, pmem_Put.C, putM_ok hp, go_sem, Nat.reduceEqDiff, Nat.reduceLT, Nat.reduceAdd, Nat.reduceSub, Nat.reduceLeDiff, List.reduceReplicate, Int.reduceToNat]
      refine ⟨by omega, ⟨hsm, by unfold roomy; omega⟩, back (k + 1) (by omega) (by rw [wnext (by omega)]) ?_ (by omega)⟩
      rw [hnx, hst]; rfl
    · have hp : placeB m.vol m.per m.pend (firstI m.vol x.at_) = true := (OkM.first okk h0 (by omega)).2
      have hst : stepM m x = persist m x.at_ := by unfold stepM; rw [if_neg (by omega)]
      have e : (if x.kind = 2 then some 137 else if x.kind = 1 then some 136 else none : Option Nat) = some 137 := by rw [if_pos hkd]
      have okf := okk.flush x.at_
      simp only [e, micro_doer_persist.K, micro_doer_persist.H, pmem_Flush.C, flushM_ok hp, fenceM_ok, check_iff.2 okf, pmem_Fence.C, go_sem, Nat.reduceEqDiff, Nat.reduceLT, Nat.reduceAdd, Nat.reduceSub, Nat.reduceLeDiff, List.reduceReplicate, Int.reduceToNat]
      refine ⟨by omega, hsm, OkM.small okf (by rw [flushP_len]; omega), back (k + 1) (by omega) (by rw [wnext (by omega)]) ?_ (by omega)⟩
      rw [hnx, hst]; rfl
  · have : k = n.toNat := by omega
    subst this
    refine post_val ?_ rfl
    simp only [go_sem, Nat.reduceEqDiff, Nat.reduceLT, Nat.reduceAdd, Nat.reduceSub, Nat.reduceLeDiff, List.reduceReplicate, Int.reduceToNat]

def soundB (m : Mm) (l : List Mic) : Bool := m.okB && stepsB l m.vol.length
def micro_sound.C : Contract
  | [.agg [.sl false (.ints .i64 vol), .sl false (.ints .i64 per), .sl false (.pends pend)], .sl _ (.mics l)] => some (false, pD (smallM vol per pend ∧ roomy l.length) (.bool (soundB ⟨vol, per, pend⟩ l)))
  | _ => none
set_option maxRecDepth 20000 in
theorem micro_sound.spec : FSpec Try.prog 104 micro_sound.C := by
  refine FSpec.of (ctx_ok (F := [(124, pmem_Check.C), (70, micro_Check.C)]) (S := []) (by simpa using ⟨pmem_Check.spec, micro_Check.spec⟩) (by simp) micro_sound.loops) micro_sound.at micro_sound.nm micro_sound.bd ?_
  intro vs b S v news e hS
  unfold micro_sound.C at e
  split at e
  rotate_left
  · cases e
  cases e
  rw [micro_sound.eq]
  unfold micro_sound.H
  simp (maxSteps := 4000000) only [go_sem, Nat.reduceEqDiff, Nat.reduceLT, Nat.reduceAdd, Nat.reduceSub, Nat.reduceLeDiff, List.reduceReplicate, Int.reduceToNat, pmem_Check.C, micro_Check.C]
  exact ⟨hS.1, fun _ => hS.2, post_val rfl rfl⟩
/-- steps that may be, on a memory that may be -/
theorem sound_iff {m : Mm} {l : List Mic} : soundB m l = true ↔ m.ok ∧ ∀ x ∈ l, MayN x m.vol.length := by
  unfold soundB stepsB
  rw [Bool.and_eq_true, Bool.and_eq_true, Mm.ok_iff, List.all_eq_true]
  constructor
  · rintro ⟨h1, _, h2⟩
    exact ⟨h1, fun x hx => (mmay_iff h1.sz).1 (h2 x hx)⟩
  · rintro ⟨h1, h2⟩
    have hmd := h1.md
    have hsz := h1.sz
    refine ⟨h1, ?_, fun x hx => (mmay_iff h1.sz).2 (h2 x hx)⟩
    unfold sizedB
    simp only [Bool.and_eq_true, decide_eq_true_eq]
    refine ⟨⟨by omega, by omega⟩, ?_⟩
    rw [Int.tmod_eq_emod_of_nonneg (by omega)]; omega
def runV (m : Mm) (l : List Mic) : AV := if soundB m l = true then .tup [(runS m l).V, .int .i64 0] else .tup [m.V, .int .i64 40]
theorem runV_ok {m : Mm} {l : List Mic} (h : soundB m l = true) : runV m l = .tup [(runS m l).V, .int .i64 0] := by unfold runV; simp only [h, if_true]
theorem runV_no {m : Mm} {l : List Mic} (h : soundB m l = false) : runV m l = .tup [m.V, .int .i64 40] := by unfold runV; rw [h]; rfl
theorem runV_ex (m : Mm) (l : List Mic) : ∃ (A : Mm) (e : Int), runV m l = .tup [A.V, .int .i64 e] ∧ A.vol.length = m.vol.length ∧ A.per.length = m.per.length ∧ A.pend.length ≤ m.pend.length + l.length := by
  cases h : soundB m l with
  | true => exact ⟨_, _, runV_ok h, runS_len _ _, runS_per _ _, runS_pend_le _ _⟩
  | false => exact ⟨_, _, runV_no h, rfl, rfl, Nat.le_add_right _ _⟩
def micro_Run.C : Contract
  | [.agg [.sl false (.ints .i64 vol), .sl false (.ints .i64 per), .sl false (.pends pend)], .sl _ (.mics l)] => some (false, pD (smallM vol per pend ∧ pend.length + l.length ≤ 1000000) (runV ⟨vol, per, pend⟩ l))
  | _ => none
set_option maxRecDepth 20000 in
theorem micro_Run.spec : FSpec Try.prog 63 micro_Run.C := by
  refine FSpec.of (ctx_ok (F := [(104, micro_sound.C), (105, micro_first.C)]) (S := []) (by simpa using ⟨micro_sound.spec, micro_first.spec⟩) (by simp) micro_Run.loops) micro_Run.at micro_Run.nm micro_Run.bd ?_
  intro vs b S v news e hS
  unfold micro_Run.C at e
  split at e
  rotate_left
  · cases e
  cases e
  rw [micro_Run.eq]
  unfold micro_Run.H
  simp (maxSteps := 4000000) only [go_sem, Nat.reduceEqDiff, Nat.reduceLT, Nat.reduceAdd, Nat.reduceSub, Nat.reduceLeDiff, List.reduceReplicate, Int.reduceToNat, micro_sound.C, micro_first.C]
  rename_i vol per pend _ l
  obtain ⟨hs, hz⟩ := hS
  refine ⟨⟨hs, by unfold roomy; omega⟩, fun h => ?_, fun h => ?_⟩
  · unfold runV; rw [h]; exact post_val rfl rfl
  · obtain ⟨ok, hl⟩ := sound_iff.1 h
    refine ⟨⟨ok, hl, hz, by omega, by omega⟩, ?_⟩
    unfold runV; simp only [h, if_true]
    refine post_val ?_ rfl
    simp only [go_sem, Nat.reduceEqDiff, Nat.reduceLT, Nat.reduceAdd, Nat.reduceSub, Nat.reduceLeDiff, List.reduceReplicate, Int.reduceToNat, Int.toNat_natCast, List.take_length]
def micro_Do.C : Contract
  | [.agg [.sl false (.ints .i64 vol), .sl false (.ints .i64 per), .sl false (.pends pend)], .agg [.int .i64 a, .int .i64 b, .int .i64 c]] => some (false, pD (smallM vol per pend ∧ pend.length + 1 ≤ 1000000) (runV ⟨vol, per, pend⟩ [⟨a, b, c⟩]))
  | _ => none
set_option maxRecDepth 20000 in
theorem micro_Do.spec : FSpec Try.prog 65 micro_Do.C := by
  refine FSpec.of (ctx_ok (F := [(63, micro_Run.C)]) (S := []) (by simpa using micro_Run.spec) (by simp) micro_Do.loops) micro_Do.at micro_Do.nm micro_Do.bd ?_
  intro vs b S v news e hS
  unfold micro_Do.C at e
  split at e
  rotate_left
  · cases e
  cases e
  rw [micro_Do.eq]
  unfold micro_Do.H
  simp (maxSteps := 4000000) only [go_sem, Nat.reduceEqDiff, Nat.reduceLT, Nat.reduceAdd, Nat.reduceSub, Nat.reduceLeDiff, List.reduceReplicate, Int.reduceToNat, micro_Run.C]
  rename_i vol per pend a b c
  unfold runV
  cases h : soundB ⟨vol, per, pend⟩ [⟨a, b, c⟩]
  · simp only [joinW_eq, guard_tt, guard_tf, guard_ft, guard_ff, Int.reduceEq, Int.reduceLT, Int.reduceLE, decide_false, decide_true, Bool.not_false, Bool.not_true, Bool.not_not, not_true_eq_false, not_false_eq_true, true_implies, false_implies, implies_true, and_true, true_and, reduceCtorEq, Bool.and_self, Bool.or_self, Bool.and_true, Bool.true_and, Bool.false_eq_true, if_true, if_false, go_sem, Nat.reduceEqDiff, Nat.reduceLT, Nat.reduceAdd, Nat.reduceSub, Nat.reduceLeDiff, List.reduceReplicate, Int.reduceToNat]
    exact ⟨⟨hS.1, by omega⟩, post_val rfl rfl⟩
  · simp only [joinW_eq, guard_tt, guard_tf, guard_ft, guard_ff, Int.reduceEq, Int.reduceLT, Int.reduceLE, decide_false, decide_true, Bool.not_false, Bool.not_true, Bool.not_not, not_true_eq_false, not_false_eq_true, true_implies, false_implies, implies_true, and_true, true_and, reduceCtorEq, Bool.and_self, Bool.or_self, Bool.and_true, Bool.true_and, Bool.false_eq_true, if_true, if_false, go_sem, Nat.reduceEqDiff, Nat.reduceLT, Nat.reduceAdd, Nat.reduceSub, Nat.reduceLeDiff, List.reduceReplicate, Int.reduceToNat]
    exact ⟨⟨hS.1, by omega⟩, post_val rfl rfl⟩
def cutI (n : Int) (len : Nat) : Int := if (if (len : Int) < n then (len : Int) else n) > 0 then (if (len : Int) < n then (len : Int) else n) else 0
theorem cutI_range (n : Int) (len : Nat) : 0 ≤ cutI n len ∧ cutI n len ≤ (len : Int) := by unfold cutI; split <;> (try split) <;> omega
theorem cutI_nat {n len : Nat} (h : n ≤ len) : (cutI n len).toNat = n := by unfold cutI; split <;> (try split) <;> omega
def mcrashV (m : Mm) (l : List Mic) (n : Int) (keep : List Int) : AV := if soundB m l = true then .tup [.sl false (.ints .i64 (crashW keep (runS m (l.take (cutI n l.length).toNat)).per (runS m (l.take (cutI n l.length).toNat)).pend)), .int .i64 0] else .tup [.sl false (.ints .i64 []), .int .i64 40]
theorem mcrash_ok {m : Mm} {l : List Mic} {n : Int} {keep : List Int} (h : soundB m l = true) : mcrashV m l n keep = .tup [.sl false (.ints .i64 (crashW keep (runS m (l.take (cutI n l.length).toNat)).per (runS m (l.take (cutI n l.length).toNat)).pend)), .int .i64 0] := by unfold mcrashV; simp only [h, if_true]
theorem mcrash_no {m : Mm} {l : List Mic} {n : Int} {keep : List Int} (h : soundB m l = false) : mcrashV m l n keep = .tup [.sl false (.ints .i64 []), .int .i64 40] := by unfold mcrashV; rw [h]; rfl
theorem mcrash_ex (m : Mm) (l : List Mic) (n : Int) (keep : List Int) : ∃ (w : List Int) (e : Int), mcrashV m l n keep = .tup [.sl false (.ints .i64 w), .int .i64 e] ∧ w.length ≤ m.per.length := by
  cases h : soundB m l with
  | true => exact ⟨_, _, mcrash_ok h, by rw [crashW_len, runS_per]; exact Nat.le_refl _⟩
  | false => exact ⟨_, _, mcrash_no h, Nat.zero_le _⟩
def micro_Crash.C : Contract
  | [.agg [.sl false (.ints .i64 vol), .sl false (.ints .i64 per), .sl false (.pends pend)], .sl _ (.mics l), .int .i64 n, .sl _ (.ints .i64 keep)] => some (false, pD (smallM vol per pend ∧ pend.length + l.length ≤ 1000000 ∧ roomy keep.length ∧ i64s keep) (mcrashV ⟨vol, per, pend⟩ l n keep))
  | _ => none
set_option maxRecDepth 20000 in
theorem micro_Crash.spec : FSpec Try.prog 67 micro_Crash.C := by
  refine FSpec.of (ctx_ok (F := [(104, micro_sound.C), (105, micro_first.C), (111, pmem_Crash.C)]) (S := []) (by simpa using ⟨micro_sound.spec, micro_first.spec, pmem_Crash.spec⟩) (by simp) micro_Crash.loops) micro_Crash.at micro_Crash.nm micro_Crash.bd ?_
  intro vs b S v news e hS
  unfold micro_Crash.C at e
  split at e
  rotate_left
  · cases e
  cases e
  rw [micro_Crash.eq]
  unfold micro_Crash.H
  simp (maxSteps := 4000000) only [go_sem, Nat.reduceEqDiff, Nat.reduceLT, Nat.reduceAdd, Nat.reduceSub, Nat.reduceLeDiff, List.reduceReplicate, Int.reduceToNat, micro_sound.C, micro_first.C, pmem_Crash.C]
  rename_i vol per pend _ l n _ keep
  obtain ⟨hs, hz, hk1, hk2⟩ := hS
  have hfold : (if (if (l.length : Int) < n then (l.length : Int) else n) > 0 then (if (l.length : Int) < n then (l.length : Int) else n) else 0) = cutI n l.length := rfl
  rw [hfold]
  have hc := cutI_range n l.length
  refine ⟨⟨hs, by unfold roomy; omega⟩, fun h => ?_, fun h => ?_⟩
  · unfold mcrashV; rw [h]; exact post_val rfl rfl
  · obtain ⟨ok, hl⟩ := sound_iff.1 h
    unfold mcrashV; simp only [h, if_true]
    have okk := runS_ok (l.take (cutI n l.length).toNat) ok fun x hx => hl x ((List.take_sublist _ _).subset hx)
    have pendk := runS_pend_le (l.take (cutI n l.length).toNat) ⟨vol, per, pend⟩
    rw [List.length_take] at pendk
    simp only [] at pendk
    generalize runS ⟨vol, per, pend⟩ (l.take (cutI n l.length).toNat) = m at *
    have hsm : smallM m.vol m.per m.pend := OkM.small okk (by omega)
    have hck : checkB m.vol m.per m.pend = true := check_iff.2 okk
    simp only [hck, crashM_ok, go_sem, Nat.reduceEqDiff, Nat.reduceLT, Nat.reduceAdd, Nat.reduceSub, Nat.reduceLeDiff, List.reduceReplicate, Int.reduceToNat]
    exact ⟨⟨ok, hl, hz, hc⟩, ⟨hsm, hk1, hk2⟩, post_val rfl rfl⟩
end Lam
namespace Lam
open Go Go.Proofs
set_option linter.unusedVariables false
def lamplighterref04_Few.loops : Nat → LInfo
  | 1 => ⟨[], [], [], [(5, none), (4, some [7, 11]), (2, none), (4, some [13, 17])], []⟩
  | _ => ⟨[], [], [], [], []⟩
def lamplighterref04_Few.H (c : Ctx) (t0 : AV) (h : List AObj) (K : AOut → List AObj → Prop) : Prop :=
  boxW T_api_Mem t0 h fun t1 h =>
  runD (fieldAddrD T_api_Mem t1 0) h fun t3 h =>
  runD (fitD T_sl_int (loadD h t3)) h fun t4 h =>
  runD (lenD T_sl_int h t4) h fun t5 h =>
  runD (binD T_int .leq t5 (.int .i64 300)) h fun t6 h =>
  joinW (fun (J1 : AV → AV → List AObj → Prop) =>
  guardW t6 true
  (runD (fieldAddrD T_api_Mem t1 1) h fun t8 h =>
    runD (fitD T_sl_int (loadD h t8)) h fun t9 h =>
    runD (lenD T_sl_int h t9) h fun t10 h =>
    runD (binD T_int .leq t10 (.int .i64 300)) h fun t11 h =>
    J1 (.bool true) t11 h)
  (J1 (.bool false) .und h))
  (fun t7 t11 h => runD (pickD t7 t11 (.bool false)) h fun t12 h =>
  joinW (fun (J2 : AV → AV → List AObj → Prop) =>
  guardW t12 true
  (runD (fieldAddrD T_api_Mem t1 2) h fun t14 h =>
    runD (fitD T_sl_api_Pending (loadD h t14)) h fun t15 h =>
    runD (lenD T_sl_api_Pending h t15) h fun t16 h =>
    runD (binD T_int .leq t16 (.int .i64 100)) h fun t17 h =>
    J2 (.bool true) t17 h)
  (J2 (.bool false) .und h))
  (fun t13 t17 h => runD (pickD t13 t17 (.bool false)) h fun t18 h =>
  K (.ret t18) h))
def lamplighterref04_Same.loops : Nat → LInfo
  | 3 => ⟨[], [], [], [(3, none), (2, some [20, 22]), (2, none), (7, some [24, 31])], []⟩
  | 6 => ⟨[7], [false], [2, 3], [], []⟩
  | _ => ⟨[], [], [], [], []⟩
def lamplighterref04_Same.L1 (c : Ctx) (J3 : List AObj → Prop) (K : AOut → List AObj → Prop) (lv : List AV) (h0 : List AObj) (n0 : Nat) (c2 : AV) (c3 : AV) : Prop :=
  ∃ I : Nat → List AV → List AObj → Prop, (∃ n, I n lv h0) ∧ ∀ n h, ∀ t7, I n [t7] h →
    runD (fieldAddrD T_api_Mem c2 2) h fun t34 h =>
    runD (fitD T_sl_api_Pending (loadD h t34)) h fun t35 h =>
    runD (lenD T_sl_api_Pending h t35) h fun t36 h =>
    runD (binD T_int .lss t7 t36) h fun t37 h =>
    condW t37
    (runD (fieldAddrD T_api_Mem c2 2) h fun t40 h =>
    runD (fitD T_sl_api_Pending (loadD h t40)) h fun t41 h =>
    runD (indexAddrD T_sl_api_Pending h t41 t7) h fun t43 h =>
    runD (fitD T_api_Pending (loadD h t43)) h fun t44 h =>
    runD (fieldAddrD T_api_Mem c3 2) h fun t45 h =>
    runD (fitD T_sl_api_Pending (loadD h t45)) h fun t46 h =>
    runD (indexAddrD T_sl_api_Pending h t46 t7) h fun t48 h =>
    runD (fitD T_api_Pending (loadD h t48)) h fun t49 h =>
    runD (binD T_api_Pending .neq t44 t49) h fun t50 h =>
    condW t50
    (K (.ret (.bool false)) h)
    (runD (binD T_int .add t7 (.int .i64 1)) h fun t39 h =>
    (∃ m, m < n ∧ I m (AV.norms n0 h [t39]) (normH n0 h)) ∧ AV.norms n0 h [c2, c3] = [c2, c3]))
    (J3 h)
def lamplighterref04_Same.H (c : Ctx) (t0 : AV) (t1 : AV) (h : List AObj) (K : AOut → List AObj → Prop) : Prop :=
  boxW T_api_Mem t0 h fun t2 h =>
  boxW T_api_Mem t1 h fun t3 h =>
  runD (fieldAddrD T_api_Mem t2 0) h fun t8 h =>
  runD (fitD T_sl_int (loadD h t8)) h fun t9 h =>
  runD (fieldAddrD T_api_Mem t3 0) h fun t10 h =>
  runD (fitD T_sl_int (loadD h t10)) h fun t11 h =>
  callW false c (.fn (.func 22) [] []) [t9, t11] h (fun t12 h =>
  runD (fieldAddrD T_api_Mem t2 1) h fun t13 h =>
  runD (fitD T_sl_int (loadD h t13)) h fun t14 h =>
  runD (fieldAddrD T_api_Mem t3 1) h fun t15 h =>
  runD (fitD T_sl_int (loadD h t15)) h fun t16 h =>
  callW false c (.fn (.func 22) [] []) [t14, t16] h (fun t17 h =>
  runD (unD .not t12) h fun t19 h =>
  joinW (fun (J1 : AV → AV → List AObj → Prop) =>
  guardW t19 false
  (runD (unD .not t17) h fun t22 h =>
    J1 (.bool false) t22 h)
  (J1 (.bool true) .und h))
  (fun t20 t22 h => runD (pickD t20 (.bool true) t22) h fun t23 h =>
  joinW (fun (J2 : AV → AV → List AObj → Prop) =>
  guardW t23 false
  (runD (fieldAddrD T_api_Mem t2 2) h fun t25 h =>
    runD (fitD T_sl_api_Pending (loadD h t25)) h fun t26 h =>
    runD (lenD T_sl_api_Pending h t26) h fun t27 h =>
    runD (fieldAddrD T_api_Mem t3 2) h fun t28 h =>
    runD (fitD T_sl_api_Pending (loadD h t28)) h fun t29 h =>
    runD (lenD T_sl_api_Pending h t29) h fun t30 h =>
    runD (binD T_int .neq t27 t30) h fun t31 h =>
    J2 (.bool false) t31 h)
  (J2 (.bool true) .und h))
  (fun t24 t31 h => runD (pickD t24 (.bool true) t31) h fun t32 h =>
  condW t32
  (K (.ret (.bool false)) h)
  (joinW (fun (J3 : List AObj → Prop) =>
  promV [false] [(.int .i64 0)] h fun lv h => lamplighterref04_Same.L1 c J3 K (AV.norms h.length h lv) (normH h.length h) h.length (AV.norm h.length h t2) (AV.norm h.length h t3))
  (fun h => K (.ret (.bool true)) h)))))
  (fun v h => K (.pan v) h))
  (fun v h => K (.pan v) h)
def lamplighterref04_Check.loops : Nat → LInfo
  | 2 => ⟨[], [], [], [(6, none), (2, some [16, 18]), (2, none), (3, some [20, 23])], []⟩
  | 6 => ⟨[5], [false], [1, 3, 4], [], []⟩
  | 9 => ⟨[], [], [], [(4, none), (4, some [44, 48])], []⟩
  | 12 => ⟨[7], [false], [1, 3, 4, 5, 6], [(4, none), (2, some [53, 55])], []⟩
  | _ => ⟨[], [], [], [], []⟩
def lamplighterref04_Check.L2 (c : Ctx) (J6 : AV → AV → AV → AV → AV → List AObj → Prop) (K : AOut → List AObj → Prop) (lv : List AV) (h0 : List AObj) (n0 : Nat) (c1 : AV) (c3 : AV) (c4 : AV) (c5 : AV) (c6 : AV) : Prop :=
  ∃ I : Nat → List AV → List AObj → Prop, (∃ n, I n lv h0) ∧ ∀ n h, ∀ t7, I n [t7] h →
    runD (binD T_int .lss t7 c5) h fun t52 h =>
    joinW (fun (J7 : AV → AV → List AObj → Prop) =>
    guardW t52 true
    (runD (fieldAddrD T_api_Pending c6 2) h fun t54 h =>
      runD (fitD T_bool (loadD h t54)) h fun t55 h =>
      J7 (.bool true) t55 h)
    (J7 (.bool false) .und h))
    (fun t53 t55 h => runD (pickD t53 t55 (.bool false)) h fun t56 h =>
    condW t56
    (runD (fieldAddrD T_api_Mem c1 2) h fun t59 h =>
    runD (fitD T_sl_api_Pending (loadD h t59)) h fun t60 h =>
    runD (indexAddrD T_sl_api_Pending h t60 t7) h fun t62 h =>
    runD (fieldAddrD T_api_Pending t62 0) h fun t63 h =>
    runD (fitD T_int (loadD h t63)) h fun t64 h =>
    runD (binD T_int .quo t64 (.int .i64 8)) h fun t65 h =>
    runD (fieldAddrD T_api_Pending c6 0) h fun t66 h =>
    runD (fitD T_int (loadD h t66)) h fun t67 h =>
    runD (binD T_int .quo t67 (.int .i64 8)) h fun t68 h =>
    runD (binD T_int .eql t65 t68) h fun t69 h =>
    joinW (fun (J8 : AV → AV → List AObj → Prop) =>
    guardW t69 true
    (runD (fieldAddrD T_api_Mem c1 2) h fun t71 h =>
      runD (fitD T_sl_api_Pending (loadD h t71)) h fun t72 h =>
      runD (indexAddrD T_sl_api_Pending h t72 t7) h fun t74 h =>
      runD (fieldAddrD T_api_Pending t74 2) h fun t75 h =>
      runD (fitD T_bool (loadD h t75)) h fun t76 h =>
      runD (unD .not t76) h fun t77 h =>
      J8 (.bool true) t77 h)
    (J8 (.bool false) .und h))
    (fun t70 t77 h => runD (pickD t70 t77 (.bool false)) h fun t78 h =>
    condW t78
    (K (.ret (.bool false)) h)
    (runD (binD T_int .add t7 (.int .i64 1)) h fun t58 h =>
    (∃ m, m < n ∧ I m (AV.norms n0 h [t58]) (normH n0 h)) ∧ AV.norms n0 h [c1, c3, c4, c5, c6] = [c1, c3, c4, c5, c6])))
    (J6 c1 c3 c4 c5 c6 h))
def lamplighterref04_Check.L1 (c : Ctx) (J3 : AV → AV → List AObj → Prop) (K : AOut → List AObj → Prop) (lv : List AV) (h0 : List AObj) (n0 : Nat) (c1 : AV) (c3 : AV) (c4 : AV) : Prop :=
  ∃ I : Nat → List AV → List AObj → Prop, (∃ n, I n lv h0) ∧ ∀ n h, ∀ t5, I n [t5] h →
    runD (fieldAddrD T_api_Mem c1 2) h fun t30 h =>
    runD (fitD T_sl_api_Pending (loadD h t30)) h fun t31 h =>
    runD (lenD T_sl_api_Pending h t31) h fun t32 h =>
    runD (binD T_int .lss t5 t32) h fun t33 h =>
    condW t33
    (joinW (fun (J4 : AV → AV → AV → AV → List AObj → Prop) =>
    runD (fieldAddrD T_api_Mem c1 2) h fun t36 h =>
    runD (fitD T_sl_api_Pending (loadD h t36)) h fun t37 h =>
    runD (indexAddrD T_sl_api_Pending h t37 t5) h fun t39 h =>
    runD (fitD T_api_Pending (loadD h t39)) h fun t40 h =>
    allocW T_api_Pending h fun t6 h =>
    runH (storeH T_api_Pending h t6 t40) h fun _ h =>
    runD (fieldAddrD T_api_Pending t6 0) h fun t41 h =>
    runD (fitD T_int (loadD h t41)) h fun t42 h =>
    runD (binD T_int .lss t42 (.int .i64 0)) h fun t43 h =>
    joinW (fun (J5 : AV → AV → List AObj → Prop) =>
    guardW t43 false
    (runD (fieldAddrD T_api_Pending t6 0) h fun t45 h =>
      runD (fitD T_int (loadD h t45)) h fun t46 h =>
      runD (binD T_int .geq t46 c3) h fun t48 h =>
      J5 (.bool false) t48 h)
    (J5 (.bool true) .und h))
    (fun t44 t48 h => runD (pickD t44 (.bool true) t48) h fun t49 h =>
    condW t49
    (K (.ret (.bool false)) h)
    (joinW (fun (J6 : AV → AV → AV → AV → AV → List AObj → Prop) =>
    promV [false] [(.int .i64 0)] h fun lv h => lamplighterref04_Check.L2 c J6 K (AV.norms h.length h lv) (normH h.length h) h.length (AV.norm h.length h c1) (AV.norm h.length h c3) (AV.norm h.length h c4) (AV.norm h.length h t5) (AV.norm h.length h t6))
    (fun t1 t3 t4 t5 t6 h => runD (fieldAddrD T_api_Pending t6 0) h fun t80 h =>
    runD (fitD T_int (loadD h t80)) h fun t81 h =>
    runD (fieldAddrD T_api_Pending t6 1) h fun t82 h =>
    runD (fitD T_int (loadD h t82)) h fun t83 h =>
    runD (indexAddrD T_sl_int h t4 t81) h fun t84 h =>
    runH (storeH T_int h t84 t83) h fun _ h =>
    J4 t1 t3 t4 t5 h))))
    (fun t1 t3 t4 t5 h => runD (binD T_int .add t5 (.int .i64 1)) h fun t35 h =>
    (∃ m, m < n ∧ I m (AV.norms n0 h [t35]) (normH n0 h)) ∧ AV.norms n0 h [t1, t3, t4] = [c1, c3, c4]))
    (J3 c1 c4 h)
def lamplighterref04_Check.H (c : Ctx) (t0 : AV) (h : List AObj) (K : AOut → List AObj → Prop) : Prop :=
  boxW T_api_Mem t0 h fun t1 h =>
  runD (fieldAddrD T_api_Mem t1 0) h fun t8 h =>
  runD (fitD T_sl_int (loadD h t8)) h fun t9 h =>
  runD (lenD T_sl_int h t9) h fun t10 h =>
  runD (fieldAddrD T_api_Mem t1 1) h fun t12 h =>
  runD (fitD T_sl_int (loadD h t12)) h fun t13 h =>
  runD (lenD T_sl_int h t13) h fun t14 h =>
  runD (binD T_int .neq t10 t14) h fun t15 h =>
  joinW (fun (J1 : AV → AV → List AObj → Prop) =>
  guardW t15 false
  (runD (binD T_int .gtr t10 (.int .i64 4096)) h fun t18 h =>
    J1 (.bool false) t18 h)
  (J1 (.bool true) .und h))
  (fun t16 t18 h => runD (pickD t16 (.bool true) t18) h fun t19 h =>
  joinW (fun (J2 : AV → AV → List AObj → Prop) =>
  guardW t19 false
  (runD (binD T_int .rem t10 (.int .i64 8)) h fun t22 h =>
    runD (binD T_int .neq t22 (.int .i64 0)) h fun t23 h =>
    J2 (.bool false) t23 h)
  (J2 (.bool true) .und h))
  (fun t20 t23 h => runD (pickD t20 (.bool true) t23) h fun t24 h =>
  condW t24
  (K (.ret (.bool false)) h)
  (runD (buildSliceD T_sl_int 0 [] h.length) h fun t25 h =>
  runD (fieldAddrD T_api_Mem t1 1) h fun t26 h =>
  runD (fitD T_sl_int (loadD h t26)) h fun t27 h =>
  runDM (appendD T_sl_int h t25 t27 h.length) (appendH T_sl_int h t25 t27) h fun t28 h =>
  joinW (fun (J3 : AV → AV → List AObj → Prop) =>
  promV [false] [(.int .i64 0)] h fun lv h => lamplighterref04_Check.L1 c J3 K (AV.norms h.length h lv) (normH h.length h) h.length (AV.norm h.length h t1) (AV.norm h.length h t10) (AV.norm h.length h t28))
  (fun t1 t4 h => runD (fieldAddrD T_api_Mem t1 0) h fun t86 h =>
  runD (fitD T_sl_int (loadD h t86)) h fun t87 h =>
  callW false c (.fn (.func 22) [] []) [t4, t87] h (fun t88 h =>
  K (.ret t88) h)
  (fun v h => K (.pan v) h)))))
def lamplighterref04_Put.loops : Nat → LInfo
  | 2 => ⟨[], [], [], [(3, none), (2, some [13, 15]), (2, none), (5, some [17, 22])], []⟩
  | _ => ⟨[], [], [], [], []⟩
def lamplighterref04_Put.H (c : Ctx) (t0 : AV) (t1 : AV) (t2 : AV) (h : List AObj) (K : AOut → List AObj → Prop) : Prop :=
  boxW T_api_Mem t0 h fun t3 h =>
  allocW T_api_Mem h fun t6 h =>
  runD (fitD T_api_Mem (loadD h t3)) h fun t9 h =>
  callW false c (.fn (.func 106) [] []) [t9] h (fun t10 h =>
  runD (unD .not t10) h fun t12 h =>
  joinW (fun (J1 : AV → AV → List AObj → Prop) =>
  guardW t12 false
  (runD (binD T_int .lss t1 (.int .i64 0)) h fun t15 h =>
    J1 (.bool false) t15 h)
  (J1 (.bool true) .und h))
  (fun t13 t15 h => runD (pickD t13 (.bool true) t15) h fun t16 h =>
  joinW (fun (J2 : AV → AV → List AObj → Prop) =>
  guardW t16 false
  (runD (fieldAddrD T_api_Mem t3 0) h fun t19 h =>
    runD (fitD T_sl_int (loadD h t19)) h fun t20 h =>
    runD (lenD T_sl_int h t20) h fun t21 h =>
    runD (binD T_int .geq t1 t21) h fun t22 h =>
    J2 (.bool false) t22 h)
  (J2 (.bool true) .und h))
  (fun t17 t22 h => runD (pickD t17 (.bool true) t22) h fun t23 h =>
  condW t23
  (runD (fitD T_api_Mem (loadD h t3)) h fun t24 h =>
    runH (storeH T_api_Mem h t6 t24) h fun _ h =>
    loadRes (fitD T_api_Mem (loadD h t6)) fun r0 => K (.ret (.tup [r0, (.int .i64 40)])) h)
  (runD (fieldAddrD T_api_Mem t3 0) h fun t25 h =>
  runD (fitD T_sl_int (loadD h t25)) h fun t26 h =>
  callW false c.noS (.fn (.func 126) [] []) [t26, t1, t2] h (fun t29 h =>
  runD (fieldAddrD T_api_Mem t3 1) h fun t30 h =>
  runD (fitD T_sl_int (loadD h t30)) h fun t31 h =>
  runD (buildSliceD T_sl_api_Pending 0 [] h.length) h fun t32 h =>
  runD (fieldAddrD T_api_Mem t3 2) h fun t33 h =>
  runD (fitD T_sl_api_Pending (loadD h t33)) h fun t34 h =>
  runDM (appendD T_sl_api_Pending h t32 t34 h.length) (appendH T_sl_api_Pending h t32 t34) h fun t35 h =>
  runD (buildD T_api_Pending [(0, t1), (1, t2)]) h fun t38 h =>
  runD (buildSliceD T_sl_api_Pending 1 [(0, t38)] h.length) h fun t39 h =>
  runDM (appendD T_sl_api_Pending h t35 t39 h.length) (appendH T_sl_api_Pending h t35 t39) h fun t40 h =>
  runD (buildD T_api_Mem [(0, t29), (1, t31), (2, t40)]) h fun t41 h =>
  runH (storeH T_api_Mem h t6 t41) h fun _ h =>
  sepB t32 [t30] = true ∧ sepB t35 [t30] = true ∧ loadRes (fitD T_api_Mem (loadD h t6)) fun r0 => K (.ret (.tup [r0, (.int .i64 0)])) h)
  (fun _ _ => False)))))
  (fun v h => K (.pan v) h)
def lamplighterref04_Flush.loops : Nat → LInfo
  | 2 => ⟨[], [], [], [(3, none), (4, some [14, 18])], []⟩
  | 6 => ⟨[8], [false], [1, 2, 4, 7], [], [7]⟩
  | 9 => ⟨[], [], [], [(9, none), (5, some [46, 51])], []⟩
  | _ => ⟨[], [], [], [], []⟩
def lamplighterref04_Flush.L1 (c : Ctx) (J2 : AV → AV → List AObj → Prop) (K : AOut → List AObj → Prop) (lv : List AV) (h0 : List AObj) (n0 : Nat) (c1 : AV) (c2 : AV) (c4 : AV) (c7 : AV) : Prop :=
  ∃ I : Nat → List AV → List AObj → Prop, (∃ n, I n lv h0) ∧ ∀ n h, ∀ t8, I n [t8] h →
    runD (fieldAddrD T_api_Mem c2 2) h fun t27 h =>
    runD (fitD T_sl_api_Pending (loadD h t27)) h fun t28 h =>
    runD (lenD T_sl_api_Pending h t28) h fun t29 h =>
    runD (binD T_int .lss t8 t29) h fun t30 h =>
    condW t30
    (runD (fieldAddrD T_api_Mem c2 2) h fun t33 h =>
    runD (fitD T_sl_api_Pending (loadD h t33)) h fun t34 h =>
    runD (indexAddrD T_sl_api_Pending h t34 t8) h fun t36 h =>
    runD (fitD T_api_Pending (loadD h t36)) h fun t37 h =>
    allocW T_api_Pending h fun t9 h =>
    runH (storeH T_api_Pending h t9 t37) h fun _ h =>
    runD (fieldAddrD T_api_Mem c7 2) h fun t38 h =>
    runD (fitD T_sl_api_Pending (loadD h t38)) h fun t39 h =>
    runD (fieldAddrD T_api_Pending t9 0) h fun t40 h =>
    runD (fitD T_int (loadD h t40)) h fun t41 h =>
    runD (fieldAddrD T_api_Pending t9 1) h fun t42 h =>
    runD (fitD T_int (loadD h t42)) h fun t43 h =>
    runD (fieldAddrD T_api_Pending t9 2) h fun t44 h =>
    runD (fitD T_bool (loadD h t44)) h fun t45 h =>
    joinW (fun (J3 : AV → AV → List AObj → Prop) =>
    guardW t45 false
    (runD (fieldAddrD T_api_Pending t9 0) h fun t47 h =>
      runD (fitD T_int (loadD h t47)) h fun t48 h =>
      runD (binD T_int .quo t48 (.int .i64 8)) h fun t49 h =>
      runD (binD T_int .eql t49 c1) h fun t51 h =>
      J3 (.bool false) t51 h)
    (J3 (.bool true) .und h))
    (fun t46 t51 h => runD (pickD t46 (.bool true) t51) h fun t52 h =>
    runD (buildD T_api_Pending [(0, t41), (1, t43), (2, t52)]) h fun t53 h =>
    runD (buildSliceD T_sl_api_Pending 1 [(0, t53)] h.length) h fun t54 h =>
    runDM (appendD T_sl_api_Pending h t39 t54 h.length) (appendH T_sl_api_Pending h t39 t54) h fun t55 h =>
    runD (fieldAddrD T_api_Mem c7 2) h fun t56 h =>
    runH (storeH T_sl_api_Pending h t56 t55) h fun _ h =>
    runD (binD T_int .add t8 (.int .i64 1)) h fun t32 h =>
    (∃ m, m < n ∧ I m (AV.norms n0 h [t32]) (normH n0 h)) ∧ AV.norms n0 h [c1, c2, c4, c7] = [c1, c2, c4, c7]))
    (J2 c4 c7 h)
def lamplighterref04_Flush.H (c : Ctx) (t0 : AV) (t1 : AV) (h : List AObj) (K : AOut → List AObj → Prop) : Prop :=
  boxW T_api_Mem t0 h fun t2 h =>
  allocW T_api_Mem h fun t4 h =>
  runD (fitD T_api_Mem (loadD h t2)) h fun t10 h =>
  callW false c (.fn (.func 106) [] []) [t10] h (fun t11 h =>
  runD (unD .not t11) h fun t13 h =>
  joinW (fun (J1 : AV → AV → List AObj → Prop) =>
  guardW t13 false
  (runD (fitD T_api_Mem (loadD h t2)) h fun t15 h =>
    callW false c (.fn (.func 127) [] []) [t15, t1] h (fun t17 h =>
    runD (unD .not t17) h fun t18 h =>
    J1 (.bool false) t18 h)
    (fun v h => K (.pan v) h))
  (J1 (.bool true) .und h))
  (fun t14 t18 h => runD (pickD t14 (.bool true) t18) h fun t19 h =>
  condW t19
  (runD (fitD T_api_Mem (loadD h t2)) h fun t20 h =>
    runH (storeH T_api_Mem h t4 t20) h fun _ h =>
    loadRes (fitD T_api_Mem (loadD h t4)) fun r0 => K (.ret (.tup [r0, (.int .i64 40)])) h)
  (runD (fieldAddrD T_api_Mem t2 0) h fun t21 h =>
  runD (fitD T_sl_int (loadD h t21)) h fun t22 h =>
  runD (fieldAddrD T_api_Mem t2 1) h fun t23 h =>
  runD (fitD T_sl_int (loadD h t23)) h fun t24 h =>
  runD (buildD T_api_Mem [(0, t22), (1, t24)]) h fun t25 h =>
  allocW T_api_Mem h fun t7 h =>
  runH (storeH T_api_Mem h t7 t25) h fun _ h =>
  joinW (fun (J2 : AV → AV → List AObj → Prop) =>
  promV [false] [(.int .i64 0)] (boxH [t7] h) fun lv h => lamplighterref04_Flush.L1 c J2 K (AV.norms h.length h lv) (normH h.length h) h.length (AV.norm h.length h t1) (AV.norm h.length h t2) (AV.norm h.length h t4) (AV.norm h.length h t7))
  (fun t4 t7 h => runD (fitD T_api_Mem (loadD h t7)) h fun t57 h =>
  runH (storeH T_api_Mem h t4 t57) h fun _ h =>
  loadRes (fitD T_api_Mem (loadD h t4)) fun r0 => K (.ret (.tup [r0, (.int .i64 0)])) h))))
  (fun v h => K (.pan v) h)
def lamplighterref04_Fence.loops : Nat → LInfo
  | 6 => ⟨[5, 6], [true, false], [1, 2], [], []⟩
  | _ => ⟨[], [], [], [], []⟩
def lamplighterref04_Fence.L1 (c : Ctx) (J1 : AV → AV → AV → List AObj → Prop) (K : AOut → List AObj → Prop) (lv : List AV) (h0 : List AObj) (n0 : Nat) (c1 : AV) (c2 : AV) : Prop :=
  ∃ I : Nat → List AV → List AObj → Prop, (∃ n, I n lv h0) ∧ ∀ n h, ∀ t5, ∀ t6, I n [t5, t6] h →
    runD (fieldAddrD T_api_Mem c1 2) h fun t13 h =>
    runD (fitD T_sl_api_Pending (loadD h t13)) h fun t14 h =>
    runD (lenD T_sl_api_Pending h t14) h fun t15 h =>
    runD (binD T_int .lss t6 t15) h fun t16 h =>
    condW t16
    (runD (fieldAddrD T_api_Mem c1 2) h fun t20 h =>
    runD (fitD T_sl_api_Pending (loadD h t20)) h fun t21 h =>
    runD (indexAddrD T_sl_api_Pending h t21 t6) h fun t23 h =>
    runD (fieldAddrD T_api_Pending t23 2) h fun t24 h =>
    runD (fitD T_bool (loadD h t24)) h fun t25 h =>
    runD (buildSliceD T_sl_bool 1 [(0, t25)] h.length) h fun t26 h =>
    runDM (appendD T_sl_bool h t5 t26 h.length) (appendH T_sl_bool h t5 t26) h fun t27 h =>
    runD (binD T_int .add t6 (.int .i64 1)) h fun t18 h =>
    (∃ m, m < n ∧ I m (AV.norms n0 h [t27, t18]) (normH n0 h)) ∧ AV.norms n0 h [c1, c2] = [c1, c2])
    (J1 c1 c2 t5 h)
def lamplighterref04_Fence.H (c : Ctx) (t0 : AV) (h : List AObj) (K : AOut → List AObj → Prop) : Prop :=
  boxW T_api_Mem t0 h fun t1 h =>
  allocW T_api_Mem h fun t2 h =>
  runD (fitD T_api_Mem (loadD h t1)) h fun t7 h =>
  callW false c (.fn (.func 106) [] []) [t7] h (fun t8 h =>
  runD (unD .not t8) h fun t10 h =>
  condW t10
  (runD (fitD T_api_Mem (loadD h t1)) h fun t11 h =>
    runH (storeH T_api_Mem h t2 t11) h fun _ h =>
    loadRes (fitD T_api_Mem (loadD h t2)) fun r0 => K (.ret (.tup [r0, (.int .i64 40)])) h)
  (joinW (fun (J1 : AV → AV → AV → List AObj → Prop) =>
  promV [true, false] [(.sl true (.bools [])), (.int .i64 0)] h fun lv h => lamplighterref04_Fence.L1 c J1 K (AV.norms h.length h lv) (normH h.length h) h.length (AV.norm h.length h t1) (AV.norm h.length h t2))
  (fun t1 t2 t5 h => runD (fitD T_api_Mem (loadD h t1)) h fun t28 h =>
  callW false c (.fn (.func 128) [] []) [t28, t5] h (fun t30 h =>
  runH (storeH T_api_Mem h t2 t30) h fun _ h =>
  loadRes (fitD T_api_Mem (loadD h t2)) fun r0 => K (.ret (.tup [r0, (.int .i64 0)])) h)
  (fun v h => K (.pan v) h))))
  (fun v h => K (.pan v) h)
def lamplighterref04_Crash.loops : Nat → LInfo
  | 6 => ⟨[7, 8], [true, false], [1, 2], [], []⟩
  | 11 => ⟨[10, 11], [false, false], [1, 2, 7, 8, 9], [], []⟩
  | 15 => ⟨[], [], [], [(6, none), (10, some [51, 61])], []⟩
  | _ => ⟨[], [], [], [], []⟩
def lamplighterref04_Crash.L2 (c : Ctx) (J3 : AV → AV → AV → AV → AV → AV → List AObj → Prop) (K : AOut → List AObj → Prop) (lv : List AV) (h0 : List AObj) (n0 : Nat) (c1 : AV) (c2 : AV) (c7 : AV) (c8 : AV) (c9 : AV) : Prop :=
  ∃ I : Nat → List AV → List AObj → Prop, (∃ n, I n lv h0) ∧ ∀ n h, ∀ t10, ∀ t11, I n [t10, t11] h →
    runD (binD T_int .lss t11 c8) h fun t32 h =>
    condW t32
    (runD (fieldAddrD T_api_Mem c2 2) h fun t35 h =>
    runD (fitD T_sl_api_Pending (loadD h t35)) h fun t36 h =>
    runD (indexAddrD T_sl_api_Pending h t36 t11) h fun t38 h =>
    runD (fieldAddrD T_api_Pending t38 0) h fun t39 h =>
    runD (fitD T_int (loadD h t39)) h fun t40 h =>
    runD (binD T_int .quo t40 (.int .i64 8)) h fun t41 h =>
    runD (binD T_int .eql t41 c9) h fun t43 h =>
    joinW (fun (J4 : AV → List AObj → Prop) =>
    condW t43
    (runD (binD T_int .add t10 (.int .i64 1)) h fun t45 h =>
      J4 t45 h)
    (J4 t10 h))
    (fun t10 h => runD (binD T_int .add t11 (.int .i64 1)) h fun t34 h =>
    (∃ m, m < n ∧ I m (AV.norms n0 h [t10, t34]) (normH n0 h)) ∧ AV.norms n0 h [c1, c2, c7, c8, c9] = [c1, c2, c7, c8, c9]))
    (J3 c1 c2 c7 c8 c9 t10 h)
def lamplighterref04_Crash.L1 (c : Ctx) (J1 : AV → AV → List AObj → Prop) (K : AOut → List AObj → Prop) (lv : List AV) (h0 : List AObj) (n0 : Nat) (c1 : AV) (c2 : AV) : Prop :=
  ∃ I : Nat → List AV → List AObj → Prop, (∃ n, I n lv h0) ∧ ∀ n h, ∀ t7, ∀ t8, I n [t7, t8] h →
    runD (fieldAddrD T_api_Mem c2 2) h fun t17 h =>
    runD (fitD T_sl_api_Pending (loadD h t17)) h fun t18 h =>
    runD (lenD T_sl_api_Pending h t18) h fun t19 h =>
    runD (binD T_int .lss t8 t19) h fun t20 h =>
    condW t20
    (joinW (fun (J2 : AV → AV → AV → AV → List AObj → Prop) =>
    runD (fieldAddrD T_api_Mem c2 2) h fun t23 h =>
    runD (fitD T_sl_api_Pending (loadD h t23)) h fun t24 h =>
    runD (indexAddrD T_sl_api_Pending h t24 t8) h fun t26 h =>
    runD (fieldAddrD T_api_Pending t26 0) h fun t27 h =>
    runD (fitD T_int (loadD h t27)) h fun t28 h =>
    runD (binD T_int .quo t28 (.int .i64 8)) h fun t29 h =>
    joinW (fun (J3 : AV → AV → AV → AV → AV → AV → List AObj → Prop) =>
    promV [false, false] [(.int .i64 0), (.int .i64 0)] h fun lv h => lamplighterref04_Crash.L2 c J3 K (AV.norms h.length h lv) (normH h.length h) h.length (AV.norm h.length h c1) (AV.norm h.length h c2) (AV.norm h.length h t7) (AV.norm h.length h t8) (AV.norm h.length h t29))
    (fun t1 t2 t7 t8 t9 t10 h => runD (lenD T_sl_int h t1) h fun t49 h =>
    runD (binD T_int .lss t9 t49) h fun t50 h =>
    joinW (fun (J5 : AV → AV → List AObj → Prop) =>
    guardW t50 true
    (runD (lenD T_sl_int h t1) h fun t56 h =>
      runD (binD T_int .sub t56 (.int .i64 1)) h fun t57 h =>
      runD (minD t9 t57) h fun t58 h =>
      runD (indexAddrD T_sl_int h t1 t58) h fun t59 h =>
      runD (fitD T_int (loadD h t59)) h fun t60 h =>
      runD (binD T_int .lss t10 t60) h fun t61 h =>
      J5 (.bool true) t61 h)
    (J5 (.bool false) .und h))
    (fun t51 t61 h => runD (pickD t51 t61 (.bool false)) h fun t62 h =>
    runD (buildSliceD T_sl_bool 1 [(0, t62)] h.length) h fun t63 h =>
    runDM (appendD T_sl_bool h t7 t63 h.length) (appendH T_sl_bool h t7 t63) h fun t64 h =>
    J2 t1 t2 t64 t8 h)))
    (fun t1 t2 t7 t8 h => runD (binD T_int .add t8 (.int .i64 1)) h fun t22 h =>
    (∃ m, m < n ∧ I m (AV.norms n0 h [t7, t22]) (normH n0 h)) ∧ AV.norms n0 h [t1, t2] = [c1, c2]))
    (J1 c2 t7 h)
def lamplighterref04_Crash.H (c : Ctx) (t0 : AV) (t1 : AV) (h : List AObj) (K : AOut → List AObj → Prop) : Prop :=
  boxW T_api_Mem t0 h fun t2 h =>
  runD (fitD T_api_Mem (loadD h t2)) h fun t12 h =>
  callW false c (.fn (.func 106) [] []) [t12] h (fun t13 h =>
  runD (unD .not t13) h fun t15 h =>
  condW t15
  (K (.ret (.tup [(.sl true (.ints .i64 [])), (.int .i64 40)])) h)
  (joinW (fun (J1 : AV → AV → List AObj → Prop) =>
  promV [true, false] [(.sl true (.bools [])), (.int .i64 0)] h fun lv h => lamplighterref04_Crash.L1 c J1 K (AV.norms h.length h lv) (normH h.length h) h.length (AV.norm h.length h t1) (AV.norm h.length h t2))
  (fun t2 t7 h => runD (fitD T_api_Mem (loadD h t2)) h fun t65 h =>
  callW false c (.fn (.func 128) [] []) [t65, t7] h (fun t67 h =>
  runD (fieldD T_api_Mem t67 1) h fun t68 h =>
  K (.ret (.tup [t68, (.int .i64 0)])) h)
  (fun v h => K (.pan v) h))))
  (fun v h => K (.pan v) h)
def lamplighterref04_set.loops : Nat → LInfo
  | _ => ⟨[], [], [], [], []⟩
def lamplighterref04_set.H (c : Ctx) (t0 : AV) (t1 : AV) (t2 : AV) (h : List AObj) (K : AOut → List AObj → Prop) : Prop :=
  runD (buildSliceD T_sl_int 0 [] h.length) h fun t8 h =>
  runDM (appendD T_sl_int h t8 t0 h.length) (appendH T_sl_int h t8 t0) h fun t10 h =>
  runD (indexAddrD T_sl_int h t10 t1) h fun t14 h =>
  runH (storeH T_int h t14 t2) h fun _ h =>
  K (.ret t10) h
def lamplighterref04_line.loops : Nat → LInfo
  | 1 => ⟨[], [], [], [(3, none), (6, some [7, 13])], []⟩
  | _ => ⟨[], [], [], [], []⟩
def lamplighterref04_line.H (c : Ctx) (t0 : AV) (t1 : AV) (h : List AObj) (K : AOut → List AObj → Prop) : Prop :=
  boxW T_api_Mem t0 h fun t2 h =>
  runD (binD T_int .geq t1 (.int .i64 0)) h fun t6 h =>
  joinW (fun (J1 : AV → AV → List AObj → Prop) =>
  guardW t6 true
  (runD (fieldAddrD T_api_Mem t2 0) h fun t9 h =>
    runD (fitD T_sl_int (loadD h t9)) h fun t10 h =>
    runD (lenD T_sl_int h t10) h fun t11 h =>
    runD (binD T_int .quo t11 (.int .i64 8)) h fun t12 h =>
    runD (binD T_int .lss t1 t12) h fun t13 h =>
    J1 (.bool true) t13 h)
  (J1 (.bool false) .und h))
  (fun t7 t13 h => runD (pickD t7 t13 (.bool false)) h fun t14 h =>
  K (.ret t14) h)
def lamplighterref04_keep.loops : Nat → LInfo
  | 3 => ⟨[6], [false], [1, 2, 4, 5], [], [5]⟩
  | _ => ⟨[], [], [], [], []⟩
def lamplighterref04_keep.L1 (c : Ctx) (J1 : AV → AV → List AObj → Prop) (K : AOut → List AObj → Prop) (lv : List AV) (h0 : List AObj) (n0 : Nat) (c1 : AV) (c2 : AV) (c4 : AV) (c5 : AV) : Prop :=
  ∃ I : Nat → List AV → List AObj → Prop, (∃ n, I n lv h0) ∧ ∀ n h, ∀ t6, I n [t6] h →
    runD (fieldAddrD T_api_Mem c2 2) h fun t13 h =>
    runD (fitD T_sl_api_Pending (loadD h t13)) h fun t14 h =>
    runD (lenD T_sl_api_Pending h t14) h fun t15 h =>
    runD (binD T_int .lss t6 t15) h fun t16 h =>
    condW t16
    (runD (indexAddrD T_sl_bool h c1 t6) h fun t21 h =>
    runD (fitD T_bool (loadD h t21)) h fun t22 h =>
    joinW (fun (J2 : List AObj → Prop) =>
    condW t22
    (runD (fieldAddrD T_api_Mem c5 1) h fun t23 h =>
      runD (fitD T_sl_int (loadD h t23)) h fun t24 h =>
      runD (fieldAddrD T_api_Mem c2 2) h fun t25 h =>
      runD (fitD T_sl_api_Pending (loadD h t25)) h fun t26 h =>
      runD (indexAddrD T_sl_api_Pending h t26 t6) h fun t28 h =>
      runD (fieldAddrD T_api_Pending t28 0) h fun t29 h =>
      runD (fitD T_int (loadD h t29)) h fun t30 h =>
      runD (fieldAddrD T_api_Mem c2 2) h fun t31 h =>
      runD (fitD T_sl_api_Pending (loadD h t31)) h fun t32 h =>
      runD (indexAddrD T_sl_api_Pending h t32 t6) h fun t34 h =>
      runD (fieldAddrD T_api_Pending t34 1) h fun t35 h =>
      runD (fitD T_int (loadD h t35)) h fun t36 h =>
      callW false c.noS (.fn (.func 126) [] []) [t24, t30, t36] h (fun t37 h =>
      runD (fieldAddrD T_api_Mem c5 1) h fun t38 h =>
      runH (storeH T_sl_int h t38 t37) h fun _ h =>
      J2 h)
      (fun _ _ => False))
    (runD (fieldAddrD T_api_Mem c5 2) h fun t39 h =>
      runD (fitD T_sl_api_Pending (loadD h t39)) h fun t40 h =>
      runD (fieldAddrD T_api_Mem c2 2) h fun t41 h =>
      runD (fitD T_sl_api_Pending (loadD h t41)) h fun t42 h =>
      runD (indexAddrD T_sl_api_Pending h t42 t6) h fun t44 h =>
      runD (fitD T_api_Pending (loadD h t44)) h fun t45 h =>
      runD (buildSliceD T_sl_api_Pending 1 [(0, t45)] h.length) h fun t46 h =>
      runDM (appendD T_sl_api_Pending h t40 t46 h.length) (appendH T_sl_api_Pending h t40 t46) h fun t47 h =>
      runD (fieldAddrD T_api_Mem c5 2) h fun t48 h =>
      runH (storeH T_sl_api_Pending h t48 t47) h fun _ h =>
      J2 h))
    (fun h => runD (binD T_int .add t6 (.int .i64 1)) h fun t18 h =>
    (∃ m, m < n ∧ I m (AV.norms n0 h [t18]) (normH n0 h)) ∧ AV.norms n0 h [c1, c2, c4, c5] = [c1, c2, c4, c5]))
    (J1 c4 c5 h)
def lamplighterref04_keep.H (c : Ctx) (t0 : AV) (t1 : AV) (h : List AObj) (K : AOut → List AObj → Prop) : Prop :=
  boxW T_api_Mem t0 h fun t2 h =>
  allocW T_api_Mem h fun t4 h =>
  runD (fieldAddrD T_api_Mem t2 0) h fun t7 h =>
  runD (fitD T_sl_int (loadD h t7)) h fun t8 h =>
  runD (fieldAddrD T_api_Mem t2 1) h fun t9 h =>
  runD (fitD T_sl_int (loadD h t9)) h fun t10 h =>
  runD (buildD T_api_Mem [(0, t8), (1, t10)]) h fun t11 h =>
  allocW T_api_Mem h fun t5 h =>
  runH (storeH T_api_Mem h t5 t11) h fun _ h =>
  joinW (fun (J1 : AV → AV → List AObj → Prop) =>
  promV [false] [(.int .i64 0)] (boxH [t5] h) fun lv h => lamplighterref04_keep.L1 c J1 K (AV.norms h.length h lv) (normH h.length h) h.length (AV.norm h.length h t1) (AV.norm h.length h t2) (AV.norm h.length h t4) (AV.norm h.length h t5))
  (fun t4 t5 h => runD (fitD T_api_Mem (loadD h t5)) h fun t49 h =>
  runH (storeH T_api_Mem h t4 t49) h fun _ h =>
  loadRes (fitD T_api_Mem (loadD h t4)) fun r0 => K (.ret r0) h)
theorem lamplighterref04_Few.eq (F : List (FuncId × Contract)) (S : List (FuncId × Con)) (t0 : AV) (h : List AObj) (K : AOut → List AObj → Prop) : funW (ctx F S lamplighterref04_Few.loops) Try.f62 [t0] h K = lamplighterref04_Few.H (ctx F S lamplighterref04_Few.loops) t0 h K := by kernel_rfl
theorem lamplighterref04_Same.eq (F : List (FuncId × Contract)) (S : List (FuncId × Con)) (t0 t1 : AV) (h : List AObj) (K : AOut → List AObj → Prop) : funW (ctx F S lamplighterref04_Same.loops) Try.f69 [t0, t1] h K = lamplighterref04_Same.H (ctx F S lamplighterref04_Same.loops) t0 t1 h K := by kernel_rfl
theorem lamplighterref04_Check.eq (F : List (FuncId × Contract)) (S : List (FuncId × Con)) (t0 : AV) (h : List AObj) (K : AOut → List AObj → Prop) : funW (ctx F S lamplighterref04_Check.loops) Try.f106 [t0] h K = lamplighterref04_Check.H (ctx F S lamplighterref04_Check.loops) t0 h K := by kernel_rfl
theorem lamplighterref04_Put.eq (F : List (FuncId × Contract)) (S : List (FuncId × Con)) (t0 t1 t2 : AV) (h : List AObj) (K : AOut → List AObj → Prop) : funW (ctx F S lamplighterref04_Put.loops) Try.f108 [t0, t1, t2] h K = lamplighterref04_Put.H (ctx F S lamplighterref04_Put.loops) t0 t1 t2 h K := by kernel_rfl
theorem lamplighterref04_Flush.eq (F : List (FuncId × Contract)) (S : List (FuncId × Con)) (t0 t1 : AV) (h : List AObj) (K : AOut → List AObj → Prop) : funW (ctx F S lamplighterref04_Flush.loops) Try.f109 [t0, t1] h K = lamplighterref04_Flush.H (ctx F S lamplighterref04_Flush.loops) t0 t1 h K := by kernel_rfl
theorem lamplighterref04_Fence.eq (F : List (FuncId × Contract)) (S : List (FuncId × Con)) (t0 : AV) (h : List AObj) (K : AOut → List AObj → Prop) : funW (ctx F S lamplighterref04_Fence.loops) Try.f110 [t0] h K = lamplighterref04_Fence.H (ctx F S lamplighterref04_Fence.loops) t0 h K := by kernel_rfl
theorem lamplighterref04_Crash.eq (F : List (FuncId × Contract)) (S : List (FuncId × Con)) (t0 t1 : AV) (h : List AObj) (K : AOut → List AObj → Prop) : funW (ctx F S lamplighterref04_Crash.loops) Try.f112 [t0, t1] h K = lamplighterref04_Crash.H (ctx F S lamplighterref04_Crash.loops) t0 t1 h K := by kernel_rfl
theorem lamplighterref04_set.eq (F : List (FuncId × Contract)) (S : List (FuncId × Con)) (t0 t1 t2 : AV) (h : List AObj) (K : AOut → List AObj → Prop) : funW (ctx F S lamplighterref04_set.loops) Try.f126 [t0, t1, t2] h K = lamplighterref04_set.H (ctx F S lamplighterref04_set.loops) t0 t1 t2 h K := by kernel_rfl
theorem lamplighterref04_line.eq (F : List (FuncId × Contract)) (S : List (FuncId × Con)) (t0 t1 : AV) (h : List AObj) (K : AOut → List AObj → Prop) : funW (ctx F S lamplighterref04_line.loops) Try.f127 [t0, t1] h K = lamplighterref04_line.H (ctx F S lamplighterref04_line.loops) t0 t1 h K := by kernel_rfl
theorem lamplighterref04_keep.eq (F : List (FuncId × Contract)) (S : List (FuncId × Con)) (t0 t1 : AV) (h : List AObj) (K : AOut → List AObj → Prop) : funW (ctx F S lamplighterref04_keep.loops) Try.f128 [t0, t1] h K = lamplighterref04_keep.H (ctx F S lamplighterref04_keep.loops) t0 t1 h K := by kernel_rfl
theorem lamplighterref04_Few.at : Try.prog.funcs[62]? = some Try.f62 := by kernel_rfl
theorem lamplighterref04_Few.nm : (Try.f62.name == "runtime.NumGoroutine") = false := by kernel_rfl
theorem lamplighterref04_Few.bd : Try.f62.body.isNone = false := by kernel_rfl
theorem lamplighterref04_Same.at : Try.prog.funcs[69]? = some Try.f69 := by kernel_rfl
theorem lamplighterref04_Same.nm : (Try.f69.name == "runtime.NumGoroutine") = false := by kernel_rfl
theorem lamplighterref04_Same.bd : Try.f69.body.isNone = false := by kernel_rfl
theorem lamplighterref04_Check.at : Try.prog.funcs[106]? = some Try.f106 := by kernel_rfl
theorem lamplighterref04_Check.nm : (Try.f106.name == "runtime.NumGoroutine") = false := by kernel_rfl
theorem lamplighterref04_Check.bd : Try.f106.body.isNone = false := by kernel_rfl
theorem lamplighterref04_Put.at : Try.prog.funcs[108]? = some Try.f108 := by kernel_rfl
theorem lamplighterref04_Put.nm : (Try.f108.name == "runtime.NumGoroutine") = false := by kernel_rfl
theorem lamplighterref04_Put.bd : Try.f108.body.isNone = false := by kernel_rfl
theorem lamplighterref04_Flush.at : Try.prog.funcs[109]? = some Try.f109 := by kernel_rfl
theorem lamplighterref04_Flush.nm : (Try.f109.name == "runtime.NumGoroutine") = false := by kernel_rfl
theorem lamplighterref04_Flush.bd : Try.f109.body.isNone = false := by kernel_rfl
theorem lamplighterref04_Fence.at : Try.prog.funcs[110]? = some Try.f110 := by kernel_rfl
theorem lamplighterref04_Fence.nm : (Try.f110.name == "runtime.NumGoroutine") = false := by kernel_rfl
theorem lamplighterref04_Fence.bd : Try.f110.body.isNone = false := by kernel_rfl
theorem lamplighterref04_Crash.at : Try.prog.funcs[112]? = some Try.f112 := by kernel_rfl
theorem lamplighterref04_Crash.nm : (Try.f112.name == "runtime.NumGoroutine") = false := by kernel_rfl
theorem lamplighterref04_Crash.bd : Try.f112.body.isNone = false := by kernel_rfl
theorem lamplighterref04_set.at : Try.prog.funcs[126]? = some Try.f126 := by kernel_rfl
theorem lamplighterref04_set.nm : (Try.f126.name == "runtime.NumGoroutine") = false := by kernel_rfl
theorem lamplighterref04_set.bd : Try.f126.body.isNone = false := by kernel_rfl
theorem lamplighterref04_line.at : Try.prog.funcs[127]? = some Try.f127 := by kernel_rfl
theorem lamplighterref04_line.nm : (Try.f127.name == "runtime.NumGoroutine") = false := by kernel_rfl
theorem lamplighterref04_line.bd : Try.f127.body.isNone = false := by kernel_rfl
theorem lamplighterref04_keep.at : Try.prog.funcs[128]? = some Try.f128 := by kernel_rfl
theorem lamplighterref04_keep.nm : (Try.f128.name == "runtime.NumGoroutine") = false := by kernel_rfl
theorem lamplighterref04_keep.bd : Try.f128.body.isNone = false := by kernel_rfl
end Lam
namespace Lam
open Go Go.Proofs
set_option linter.unusedVariables false
set_option linter.unnecessarySimpa false
set_option linter.unusedSimpArgs false
def lamplighterref04_Few.C : Contract
  | [.agg [.sl false (.ints .i64 vol), .sl false (.ints .i64 per), .sl false (.pends pend)]] => some (false, pD True (.bool (fewB vol per pend)))
  | _ => none
set_option maxRecDepth 20000 in
theorem lamplighterref04_Few.spec : FSpec Try.prog 62 lamplighterref04_Few.C := by
  refine FSpec.of (ctx_ok (F := []) (S := []) (by simp) (by simp) lamplighterref04_Few.loops) lamplighterref04_Few.at lamplighterref04_Few.nm lamplighterref04_Few.bd ?_
  intro vs b S v news e hS
  unfold lamplighterref04_Few.C at e
  split at e
  rotate_left
  · cases e
  cases e
  rw [lamplighterref04_Few.eq]
  unfold lamplighterref04_Few.H
  simp (maxSteps := 4000000) only [go_sem, Nat.reduceEqDiff, Nat.reduceLT, Nat.reduceAdd, Nat.reduceSub, Nat.reduceLeDiff, List.reduceReplicate, Int.reduceToNat]
  rename_i vol per pend
  have e1 : decide ((vol.length : Int) ≤ 300) = decide (vol.length ≤ 300) := decide_eq_decide.2 (by omega)
  have e2 : decide ((per.length : Int) ≤ 300) = decide (per.length ≤ 300) := decide_eq_decide.2 (by omega)
  have e3 : decide ((pend.length : Int) ≤ 100) = decide (pend.length ≤ 100) := decide_eq_decide.2 (by omega)
  rw [e1, e2, e3]
  exact post_val rfl rfl
def sameB (vol per : List Int) (pend : List Pend) (vol' per' : List Int) (pend' : List Pend) : Bool := decide (vol = vol') && decide (per = per') && decide (pend = pend')
theorem sameB_self (v p : List Int) (q : List Pend) : sameB v p q v p q = true := by simp [sameB]
def lamplighterref04_Same.C : Contract
  | [.agg [.sl false (.ints .i64 vol), .sl false (.ints .i64 per), .sl false (.pends pend)], .agg [.sl false (.ints .i64 vol'), .sl false (.ints .i64 per'), .sl false (.pends pend')]] => some (false, pD (smallM vol per pend) (.bool (sameB vol per pend vol' per' pend')))
  | _ => none
set_option maxRecDepth 20000 in
theorem lamplighterref04_Same.spec : FSpec Try.prog 69 lamplighterref04_Same.C := by
  refine FSpec.of (ctx_ok (F := [(22, lamplighterref02_Numbers.C)]) (S := []) (by simpa using lamplighterref02_Numbers.spec) (by simp) lamplighterref04_Same.loops) lamplighterref04_Same.at lamplighterref04_Same.nm lamplighterref04_Same.bd ?_
  intro vs b S v news e hS
  unfold lamplighterref04_Same.C at e
  split at e
  rotate_left
  · cases e
  cases e
  rw [lamplighterref04_Same.eq]
  unfold lamplighterref04_Same.H
  simp (maxSteps := 4000000) only [go_sem, Nat.reduceEqDiff, Nat.reduceLT, Nat.reduceAdd, Nat.reduceSub, Nat.reduceLeDiff, List.reduceReplicate, Int.reduceToNat, lamplighterref02_Numbers.C]
  rename_i vol per pend vol' per' pend'
  obtain ⟨s1, s2, s3⟩ := hS
  unfold roomy at s1 s2 s3
  refine ⟨s1, s2, fun hne => ?_, fun heq => ?_⟩
  · have : sameB vol per pend vol' per' pend' = false := by
      simp only [Bool.or_eq_true, Bool.not_eq_true', decide_eq_false_iff_not] at hne
      unfold sameB
      rcases hne with (h | h) | h
      · simp [h]
      · simp [h]
      · have : pend ≠ pend' := by rintro rfl; exact h rfl
        simp [this]
    rw [this]; exact post_val rfl rfl
  simp only [Bool.or_eq_false_iff, Bool.not_eq_false', decide_eq_true_eq] at heq
  obtain ⟨⟨h1, h2⟩, h3⟩ := heq
  have hlen : pend.length = pend'.length := by omega
  rw [joinW_eq]
  unfold lamplighterref04_Same.L1
  refine loop1 (fun k : Nat => .int .i64 k) (fun _ => [.box (memV vol per pend), .box (memV vol' per' pend')]) (fun k => pend.length - k) (fun k => k ≤ pend.length ∧ ∀ i, i < k → pend.getD i ⟨0, 0, false⟩ = pend'.getD i ⟨0, 0, false⟩) 0 rfl rfl ⟨Nat.zero_le _, fun i hi => absurd hi (Nat.not_lt_zero i)⟩ ?_
  rintro I back k ⟨hk, hall⟩
  simp only [go_sem, Nat.reduceEqDiff, Nat.reduceLT, Nat.reduceAdd, Nat.reduceSub, Nat.reduceLeDiff, List.reduceReplicate, Int.reduceToNat]
  have hd : ∀ a b : Pend, (decide (a.at_ = b.at_) && (decide (a.val = b.val) && a.fl == b.fl)) = decide (a = b) := fun a b => by
    cases a; cases b; rw [Bool.eq_iff_iff]; simp only [Bool.and_eq_true, Bool.or_eq_true, Bool.not_eq_true', Bool.not_eq_false', Bool.not_eq_true, decide_eq_true_eq, decide_eq_false_iff_not, Bool.or_eq_false_iff, Bool.and_eq_false_iff, beq_iff_eq]; simp
  rw [hd]
  refine ⟨fun hlt => ⟨by omega, by omega, fun h0 => ?_, fun h0 => ?_⟩, fun hge => ?_⟩
  · rw [decide_eq_false_iff_not] at h0
    have : pend ≠ pend' := by rintro rfl; exact h0 rfl
    have : sameB vol per pend vol' per' pend' = false := by unfold sameB; simp [this]
    rw [this]; exact post_val rfl rfl
  · rw [decide_eq_true_eq] at h0
    refine back (k + 1) (by omega) (by rw [wnext (by omega)]) rfl ⟨by omega, fun i hi => ?_⟩
    by_cases e : i = k
    · subst e; exact h0
    · exact hall i (by omega)
  · have h4 : pend = pend' := ext_d _ hlen fun i hi => hall i (by omega)
    have : sameB vol per pend vol' per' pend' = true := by unfold sameB; simp [h1, h2, h4]
    rw [this]; exact post_val rfl rfl
def lamplighterref04_set.C : Contract
  | [.sl _ (.ints .i64 l), .int .i64 at_, .int .i64 val] => some (false, pD (0 ≤ at_ ∧ at_ < (l.length : Int) ∧ roomy l.length) (.sl false (.ints .i64 (l.set at_.toNat val))))
  | _ => none
set_option maxRecDepth 20000 in
theorem lamplighterref04_set.spec : FSpec Try.prog 126 lamplighterref04_set.C := by
  refine FSpec.of (ctx_ok (F := []) (S := []) (by simp) (by simp) lamplighterref04_set.loops) lamplighterref04_set.at lamplighterref04_set.nm lamplighterref04_set.bd ?_
  intro vs b S v news e hS
  unfold lamplighterref04_set.C at e
  split at e
  rotate_left
  · cases e
  cases e
  rw [lamplighterref04_set.eq]
  unfold lamplighterref04_set.H
  simp (maxSteps := 4000000) only [go_sem, Nat.reduceEqDiff, Nat.reduceLT, Nat.reduceAdd, Nat.reduceSub, Nat.reduceLeDiff, List.reduceReplicate, Int.reduceToNat]
  rename_i l at_ val
  obtain ⟨h0, h1, hr⟩ := hS
  refine ⟨hr, ⟨h0, h1⟩, by omega, post_val ?_ rfl⟩
  simp only [go_sem, Nat.reduceEqDiff, Nat.reduceLT, Nat.reduceAdd, Nat.reduceSub, Nat.reduceLeDiff, List.reduceReplicate, Int.reduceToNat, take_len _ (Nat.le_of_eq List.length_set)]
def lamplighterref04_line.C : Contract
  | [.agg [.sl false (.ints .i64 vol), .sl false (.ints .i64 per), .sl false (.pends pend)], .int .i64 n] => some (false, pD (roomy vol.length) (.bool (decide (0 ≤ n) && decide (n < ((vol.length / 8 : Nat) : Int)))))
  | _ => none
set_option maxRecDepth 20000 in
theorem lamplighterref04_line.spec : FSpec Try.prog 127 lamplighterref04_line.C := by
  refine FSpec.of (ctx_ok (F := []) (S := []) (by simp) (by simp) lamplighterref04_line.loops) lamplighterref04_line.at lamplighterref04_line.nm lamplighterref04_line.bd ?_
  intro vs b S v news e hS
  unfold lamplighterref04_line.C at e
  split at e
  rotate_left
  · cases e
  cases e
  rw [lamplighterref04_line.eq]
  unfold lamplighterref04_line.H
  simp (maxSteps := 4000000) only [go_sem, Nat.reduceEqDiff, Nat.reduceLT, Nat.reduceAdd, Nat.reduceSub, Nat.reduceLeDiff, List.reduceReplicate, Int.reduceToNat]
  rename_i vol per pend n
  unfold roomy at hS
  rw [wdiv8 (by omega)]
  exact ⟨fun _ => by decide, post_val rfl rfl⟩
def lamplighterref04_Check.C : Contract
  | [.agg [.sl false (.ints .i64 vol), .sl false (.ints .i64 per), .sl false (.pends pend)]] => some (false, pD (smallM vol per pend) (.bool (checkB vol per pend)))
  | _ => none
set_option maxRecDepth 20000 in
theorem lamplighterref04_Check.spec : FSpec Try.prog 106 lamplighterref04_Check.C := by
  refine FSpec.of (ctx_ok (F := [(22, lamplighterref02_Numbers.C)]) (S := []) (by simpa using lamplighterref02_Numbers.spec) (by simp) lamplighterref04_Check.loops) lamplighterref04_Check.at lamplighterref04_Check.nm lamplighterref04_Check.bd ?_
  intro vs b S v news e hS
  unfold lamplighterref04_Check.C at e
  split at e
  rotate_left
  · cases e
  cases e
  rw [lamplighterref04_Check.eq]
  unfold lamplighterref04_Check.H
  simp (maxSteps := 4000000) only [go_sem, Nat.reduceEqDiff, Nat.reduceLT, Nat.reduceAdd, Nat.reduceSub, Nat.reduceLeDiff, List.reduceReplicate, Int.reduceToNat, lamplighterref02_Numbers.C]
  rename_i vol per pend
  obtain ⟨s1, s2, s3⟩ := hS
  unfold roomy at s1 s2 s3
  refine ⟨fun _ => by decide, fun h => ?_, fun h => ⟨s2, ?_⟩⟩
  · have : checkB vol per pend = false := by
      cases e : checkB vol per pend with
      | false => rfl
      | true =>
        have := check_iff.1 e
        have h1 := this.len
        have h2 := this.sz
        have h3 := this.md
        simp only [Bool.or_eq_true, Bool.not_eq_true', decide_eq_true_eq, decide_eq_false_iff_not] at h
        rw [Int.tmod_eq_emod_of_nonneg (by omega)] at h
        omega
    rw [this]; exact post_val rfl rfl
  simp only [Bool.or_eq_false_iff, Bool.not_eq_false', decide_eq_true_eq, decide_eq_false_iff_not] at h
  have hlen : vol.length = per.length := by omega
  have hmd : vol.length % 8 = 0 := by
    have := h.2
    rw [Int.tmod_eq_emod_of_nonneg (by omega)] at this
    omega
  rw [joinW_eq]
  unfold lamplighterref04_Check.L1
  refine loop1 (σ := Nat) (fun k => .int .i64 k) (fun k => [.box (memV vol per pend), .row .own 0 (.ints .i64 []), .row .own 0 (.ints .i64 (app (pend.take k) per))]) (fun k => pend.length - k)
    (fun k => k ≤ pend.length ∧ (∀ p ∈ pend.take k, 0 ≤ p.at_ ∧ p.at_ < (vol.length : Int)) ∧ LineWise (fun p => p.fl) (pend.take k)) 0 rfl rfl ⟨Nat.zero_le _, by simp, by simp [LineWise]⟩ ?_
  rintro I back k ⟨hk, hrg, hlw⟩
  simp only [go_sem, Nat.reduceEqDiff, Nat.reduceLT, Nat.reduceAdd, Nat.reduceSub, Nat.reduceLeDiff, List.reduceReplicate, Int.reduceToNat, app_len]
  refine ⟨fun hlt => ⟨by omega, ?_⟩, fun hge => ?_⟩
  · have hkl : k < pend.length := by omega
    have hmem := getD_mem pend k ⟨0, 0, false⟩ hkl
    have htk := take_next pend k ⟨0, 0, false⟩ hkl
    generalize pend.getD k ⟨0, 0, false⟩ = p at *
    refine ⟨fun hb => ?_, fun hb => ?_⟩
    · have : checkB vol per pend = false := by
        cases e : checkB vol per pend with
        | false => rfl
        | true =>
          have := (check_iff.1 e).rng p hmem
          simp only [Bool.or_eq_true, decide_eq_true_eq] at hb
          omega
      rw [this]; exact post_val rfl rfl
    rw [Bool.or_eq_false_iff, decide_eq_false_iff_not, decide_eq_false_iff_not] at hb
    rw [joinW_eq]
    unfold lamplighterref04_Check.L2
    refine loop1 (σ := Nat) (fun j => .int .i64 j) (fun _ => [.box (memV vol per pend), .row .own 0 (.ints .i64 []), .row .own 0 (.ints .i64 (app (pend.take k) per)), .box (.agg [.int .i64 p.at_, .int .i64 p.val, .bool p.fl])]) (fun j => k - j)
      (fun j => j ≤ k ∧ ∀ q ∈ pend.take j, lineOf q.at_ = lineOf p.at_ → p.fl = true → q.fl = true) 0 rfl rfl ⟨Nat.zero_le _, by simp⟩ ?_
    rintro I2 back2 j ⟨hj, hall⟩
    simp only [go_sem, Nat.reduceEqDiff, Nat.reduceLT, Nat.reduceAdd, Nat.reduceSub, Nat.reduceLeDiff, List.reduceReplicate, Int.reduceToNat, app_len]
    refine ⟨fun hc => ?_, fun hc => ?_⟩
    · rw [Bool.and_eq_true, decide_eq_true_eq] at hc
      obtain ⟨hjk, hfl⟩ := hc
      have hjp : j < pend.length := by omega
      have hjm : pend.getD j ⟨0, 0, false⟩ ∈ pend.take k := by
        have : j < (pend.take k).length := by rw [List.length_take]; omega
        have e : (pend.take k).getD j ⟨0, 0, false⟩ = pend.getD j ⟨0, 0, false⟩ := by
          rw [List.getD_eq_getElem?_getD, List.getElem?_take, if_pos (by omega), List.getD_eq_getElem?_getD]
        rw [← e]; exact getD_mem _ _ _ this
      have htj := take_next pend j ⟨0, 0, false⟩ hjp
      generalize pend.getD j ⟨0, 0, false⟩ = q at *
      refine ⟨by omega, by decide, by decide, fun _ => by omega, fun hx => ?_, fun hx => ?_⟩
      · rw [Bool.and_eq_true, decide_eq_true_eq, Bool.not_eq_true'] at hx
        have : checkB vol per pend = false := by
          cases e : checkB vol per pend with
          | false => rfl
          | true =>
            have h2 := (check_iff.1 e).ord.sublist (List.take_sublist (k + 1) pend)
            rw [htk, List.pairwise_append] at h2
            have h3 : q.fl = true := h2.2.2 q hjm p (by simp) hx.1 hfl
            rw [hx.2] at h3; cases h3
        rw [this]; exact post_val rfl rfl
      · refine back2 (j + 1) (by omega) (by rw [wnext (by omega)]) rfl ⟨by omega, fun r hr hl hf => ?_⟩
        rw [htj, List.mem_append, List.mem_singleton] at hr
        rcases hr with hr | rfl
        · exact hall r hr hl hf
        · rw [Bool.and_eq_false_iff, decide_eq_false_iff_not, Bool.not_eq_false'] at hx
          rcases hx with hx | hx
          · exact absurd hl hx
          · exact hx
    · refine ⟨⟨by omega, by omega⟩, by omega, back (k + 1) (by omega) (by rw [wnext (by omega)]) ?_ ⟨by omega, fun q hq => ?_, ?_⟩⟩
      · rw [htk, app_append]; rfl
      · rw [htk, List.mem_append, List.mem_singleton] at hq
        rcases hq with hq | rfl
        · exact hrg q hq
        · omega
      · unfold LineWise
        rw [htk, List.pairwise_append]
        refine ⟨hlw, List.pairwise_singleton _ _, fun q hq r hr hl hf => ?_⟩
        rw [List.mem_singleton] at hr; subst hr
        rw [Bool.and_eq_false_iff, decide_eq_false_iff_not] at hc
        rcases hc with hc | hc
        · exact hall q (by rw [show j = k by omega]; exact hq) hl hf
        · have hf : r.fl = true := hf
          rw [hc] at hf; cases hf
  · obtain rfl : k = pend.length := by omega
    rw [List.take_length] at *
    have e : (app pend per).take per.length = app pend per := take_len _ (by rw [app_len]; exact Nat.le_refl _)
    rw [e]
    simp only [lamplighterref02_Numbers.C, go_sem, Nat.reduceEqDiff, Nat.reduceLT, Nat.reduceAdd, Nat.reduceSub, Nat.reduceLeDiff, List.reduceReplicate, Int.reduceToNat, app_len]
    refine ⟨s2, ?_⟩
    have : checkB vol per pend = decide (app pend per = vol) := by
      by_cases e : app pend per = vol
      · rw [decide_eq_true e, check_iff]
        exact ⟨hlen, by omega, hmd, fun p hp => by have := hrg p hp; omega, hlw, e⟩
      · rw [decide_eq_false e]
        cases c : checkB vol per pend with
        | false => rfl
        | true => exact absurd (check_iff.1 c).eq e
    rw [this]; exact post_val rfl rfl
def lamplighterref04_Put.C : Contract
  | [.agg [.sl false (.ints .i64 vol), .sl false (.ints .i64 per), .sl false (.pends pend)], .int .i64 at_, .int .i64 val] => some (false, pD (smallM vol per pend ∧ roomy (pend.length + 1)) (putM vol per pend at_ val))
  | _ => none
set_option maxRecDepth 20000 in
theorem lamplighterref04_Put.spec : FSpec Try.prog 108 lamplighterref04_Put.C := by
  refine FSpec.of (ctx_ok (F := [(106, lamplighterref04_Check.C), (126, lamplighterref04_set.C)]) (S := []) (by simpa using ⟨lamplighterref04_Check.spec, lamplighterref04_set.spec⟩) (by simp) lamplighterref04_Put.loops) lamplighterref04_Put.at lamplighterref04_Put.nm lamplighterref04_Put.bd ?_
  intro vs b S v news e hS
  unfold lamplighterref04_Put.C at e
  split at e
  rotate_left
  · cases e
  cases e
  rw [lamplighterref04_Put.eq]
  unfold lamplighterref04_Put.H
  simp (maxSteps := 4000000) only [go_sem, Nat.reduceEqDiff, Nat.reduceLT, Nat.reduceAdd, Nat.reduceSub, Nat.reduceLeDiff, List.reduceReplicate, Int.reduceToNat, lamplighterref04_Check.C, lamplighterref04_set.C]
  rename_i vol per pend at_ val
  obtain ⟨hS, hr⟩ := hS
  have e : (!checkB vol per pend || decide (at_ < 0) || decide ((vol.length : Int) ≤ at_)) = !placeB vol per pend at_ := by
    unfold placeB
    cases checkB vol per pend
    · simp
    · rw [Bool.eq_iff_iff]; simp only [Bool.and_eq_true, Bool.or_eq_true, Bool.not_eq_true', Bool.not_eq_false', Bool.not_eq_true, decide_eq_true_eq, decide_eq_false_iff_not, Bool.or_eq_false_iff, Bool.and_eq_false_iff, beq_iff_eq]; simp <;> omega
  rw [e]
  refine ⟨hS, fun h => ?_, fun h => ?_⟩
  · rw [Bool.not_eq_true'] at h
    unfold putM; rw [h]; exact post_val rfl rfl
  · rw [Bool.not_eq_false'] at h
    have hp : 0 ≤ at_ ∧ at_ < (vol.length : Int) := by
      simp only [placeB, Bool.and_eq_true, decide_eq_true_eq] at h
      exact h.1
    have hl : (pend ++ [(⟨at_, val, false⟩ : Pend)]).length = pend.length + 1 := by simp
    refine ⟨⟨hp.1, hp.2, hS.1⟩, hS.2.2, by rw [hl]; exact hr, rfl, rfl, ?_⟩
    unfold putM; simp only [h, if_true]
    refine post_val ?_ rfl
    simp only [go_sem, Nat.reduceEqDiff, Nat.reduceLT, Nat.reduceAdd, Nat.reduceSub, Nat.reduceLeDiff, List.reduceReplicate, Int.reduceToNat, List.take_length]
def lamplighterref04_Flush.C : Contract
  | [.agg [.sl false (.ints .i64 vol), .sl false (.ints .i64 per), .sl false (.pends pend)], .int .i64 line] => some (false, pD (smallM vol per pend) (flushM vol per pend line))
  | _ => none
set_option maxRecDepth 20000 in
theorem lamplighterref04_Flush.spec : FSpec Try.prog 109 lamplighterref04_Flush.C := by
  refine FSpec.of (ctx_ok (F := [(106, lamplighterref04_Check.C), (127, lamplighterref04_line.C)]) (S := []) (by simpa using ⟨lamplighterref04_Check.spec, lamplighterref04_line.spec⟩) (by simp) lamplighterref04_Flush.loops) lamplighterref04_Flush.at lamplighterref04_Flush.nm lamplighterref04_Flush.bd ?_
  intro vs b S v news e hS
  unfold lamplighterref04_Flush.C at e
  split at e
  rotate_left
  · cases e
  cases e
  rw [lamplighterref04_Flush.eq]
  unfold lamplighterref04_Flush.H
  simp (maxSteps := 4000000) only [go_sem, Nat.reduceEqDiff, Nat.reduceLT, Nat.reduceAdd, Nat.reduceSub, Nat.reduceLeDiff, List.reduceReplicate, Int.reduceToNat, lamplighterref04_Check.C, lamplighterref04_line.C]
  rename_i vol per pend line
  rw [place_first (vol := vol) hS]
  obtain ⟨s1, s2, s3⟩ := hS
  refine ⟨⟨s1, s2, s3⟩, fun _ => s1, fun h => ?_, fun h => ?_⟩
  · rw [Bool.not_eq_true'] at h
    unfold flushM; rw [h]; exact post_val rfl rfl
  rw [Bool.not_eq_false'] at h
  unfold roomy at s1 s2 s3
  rw [joinW_eq]
  unfold lamplighterref04_Flush.L1
  refine loop1 (σ := Nat × Nat) (fun s => .int .i64 s.1) (fun s => [.box (memV vol per pend), .box (memV [] [] []), .box (.agg [.sl false (.ints .i64 vol), .sl false (.ints .i64 per), .sref false 3 s.2 0 s.1]), .row .own s.2 (.pends (flushP line (pend.take s.1)))]) (fun s => pend.length - s.1) (fun s => s.1 ≤ pend.length) (0, 0) rfl rfl (Nat.zero_le _) ?_
  rintro I back ⟨k, v⟩ hk
  simp only [] at hk ⊢
  have hfl : (flushP line (pend.take k)).length = k := by unfold flushP; simp; omega
  have hsn : ∀ p : Pend, flushP line [p] = [⟨p.at_, p.val, p.fl || decide (lineOf p.at_ = line)⟩] := fun p => by
    unfold flushP
    by_cases e : lineOf p.at_ = line <;> simp [e]
  have happ : ∀ a b : List Pend, flushP line (a ++ b) = flushP line a ++ flushP line b := fun a b => by unfold flushP; simp
  simp only [go_sem, Nat.reduceEqDiff, Nat.reduceLT, Nat.reduceAdd, Nat.reduceSub, Nat.reduceLeDiff, List.reduceReplicate, Int.reduceToNat, hfl]
  refine ⟨fun hlt => ⟨by omega, fun _ => by decide, ?_⟩, fun hge => ?_⟩
  · have hkl : k < pend.length := by omega
    have hnx : flushP line (pend.take (k + 1)) = flushP line (pend.take k) ++ [⟨(pend.getD k ⟨0, 0, false⟩).at_, (pend.getD k ⟨0, 0, false⟩).val, (pend.getD k ⟨0, 0, false⟩).fl || decide (lineOf (pend.getD k ⟨0, 0, false⟩).at_ = line)⟩] := by
      rw [take_next pend k ⟨0, 0, false⟩ hkl, happ, hsn]
    have hl1 : (flushP line (pend.take (k + 1))).length = k + 1 := by unfold flushP; simp; omega
    unfold lineOf at hnx
    rw [← hnx, hl1]
    exact ⟨by unfold roomy; omega, back (k + 1, v + 1) (by show _ - (k + 1) < _ - k; omega) (by rw [wnext (by omega)]) rfl (by omega)⟩
  · obtain rfl : k = pend.length := by omega
    rw [List.take_length] at hfl ⊢
    unfold flushM
    simp only [h, if_true]
    refine post_val ?_ rfl
    simp only [go_sem, Nat.reduceEqDiff, Nat.reduceLT, Nat.reduceAdd, Nat.reduceSub, Nat.reduceLeDiff, List.reduceReplicate, Int.reduceToNat, take_len _ (Nat.le_of_eq hfl)]
def keptB : List Bool → List Pend → List Pend
  | true :: bs, p :: ps => p :: keptB bs ps
  | false :: bs, p :: ps => keptB bs ps
  | _, _ => []
def restB : List Bool → List Pend → List Pend
  | true :: bs, p :: ps => restB bs ps
  | false :: bs, p :: ps => p :: restB bs ps
  | _, _ => []
theorem keptB_map (f : Pend → Bool) : ∀ l : List Pend, keptB (l.map f) l = l.filter f
  | [] => rfl
  | p :: r => by
    have ih := keptB_map f r
    cases h : f p <;> simp [h, keptB, ih]
theorem restB_map (f : Pend → Bool) : ∀ l : List Pend, restB (l.map f) l = keepP f l
  | [] => rfl
  | p :: r => by
    have ih := restB_map f r
    unfold keepP at ih ⊢
    cases h : f p <;> simp [h, restB, ih]
theorem kept_snoc (b : Bool) (p : Pend) : ∀ (bs : List Bool) (l : List Pend), bs.length = l.length → keptB (bs ++ [b]) (l ++ [p]) = (match b with | true => keptB bs l ++ [p] | false => keptB bs l) ∧ restB (bs ++ [b]) (l ++ [p]) = (match b with | true => restB bs l | false => restB bs l ++ [p])
  | [], [], _ => by cases b <;> exact ⟨rfl, rfl⟩
  | [], _ :: _, h => by cases h
  | _ :: _, [], h => by cases h
  | c :: bs, q :: l, h => by
    have ih := kept_snoc b p bs l (by simpa using h)
    cases c <;> cases b <;> simp [keptB, restB, ih.1, ih.2]
theorem restB_len : ∀ (bs : List Bool) (l : List Pend), (restB bs l).length ≤ l.length
  | [], l => by simp [restB]
  | b :: bs, [] => by simp [restB]
  | b :: bs, p :: l => by
    have := restB_len bs l
    cases b <;> simp [restB] <;> omega
def lamplighterref04_keep.C : Contract
  | [.agg [.sl false (.ints .i64 vol), .sl false (.ints .i64 per), .sl false (.pends pend)], .sl _ (.bools those)] => some (false, pD (smallM vol per pend ∧ those.length = pend.length ∧ ∀ p ∈ pend, 0 ≤ p.at_ ∧ p.at_ < (per.length : Int)) (memV vol (app (keptB those pend) per) (restB those pend)))
  | _ => none
set_option maxRecDepth 20000 in
theorem lamplighterref04_keep.spec : FSpec Try.prog 128 lamplighterref04_keep.C := by
  refine FSpec.of (ctx_ok (F := [(126, lamplighterref04_set.C)]) (S := []) (by simpa using lamplighterref04_set.spec) (by simp) lamplighterref04_keep.loops) lamplighterref04_keep.at lamplighterref04_keep.nm lamplighterref04_keep.bd ?_
  intro vs b S v news e hS
  unfold lamplighterref04_keep.C at e
  split at e
  rotate_left
  · cases e
  cases e
  rw [lamplighterref04_keep.eq]
  unfold lamplighterref04_keep.H
  simp (maxSteps := 4000000) only [go_sem, Nat.reduceEqDiff, Nat.reduceLT, Nat.reduceAdd, Nat.reduceSub, Nat.reduceLeDiff, List.reduceReplicate, Int.reduceToNat, lamplighterref04_set.C]
  rename_i vol per pend _ those
  obtain ⟨⟨s1, s2, s3⟩, hl, hrange⟩ := hS
  unfold roomy at s1 s2 s3
  rw [joinW_eq]
  unfold lamplighterref04_keep.L1
  refine loop1 (σ := Nat × Nat) (fun s => .int .i64 s.1) (fun s => [.box (memV vol per pend), .box (memV [] [] []), .box (.agg [.sl false (.ints .i64 vol), .sl false (.ints .i64 (app (keptB (those.take s.1) (pend.take s.1)) per)), .sref false 3 s.2 0 (restB (those.take s.1) (pend.take s.1)).length]), .row .own s.2 (.pends (restB (those.take s.1) (pend.take s.1)))]) (fun s => pend.length - s.1)
    (fun s => s.1 ≤ pend.length) (0, 0) rfl ?_ (Nat.zero_le _) ?_
  · simp only [List.take_zero]; rfl
  rintro I back ⟨k, v⟩ hk
  simp only [] at hk ⊢
  have hrl := restB_len (those.take k) (pend.take k)
  rw [List.length_take] at hrl
  simp only [go_sem, Nat.reduceEqDiff, Nat.reduceLT, Nat.reduceAdd, Nat.reduceSub, Nat.reduceLeDiff, List.reduceReplicate, Int.reduceToNat, app_len]
  refine ⟨fun hlt => ⟨by omega, ?_⟩, fun hge => ?_⟩
  · have hkl : k < pend.length := by omega
    have hr := hrange _ (getD_mem pend k ⟨0, 0, false⟩ hkl)
    have hs := kept_snoc (those.getD k false) (pend.getD k ⟨0, 0, false⟩) (those.take k) (pend.take k) (by simp; omega)
    rw [← take_next pend k ⟨0, 0, false⟩ hkl, ← take_next those k false (by omega)] at hs
    generalize pend.getD k ⟨0, 0, false⟩ = p at *
    generalize those.getD k false = b at *
    rw [joinW_eq]
    refine ⟨fun hb => ⟨by omega, by omega, ?_⟩, fun hb => ⟨by omega, ?_, ?_⟩⟩
    · subst hb
      simp only [lamplighterref04_set.C, go_sem, Nat.reduceEqDiff, Nat.reduceLT, Nat.reduceAdd, Nat.reduceSub, Nat.reduceLeDiff, List.reduceReplicate, Int.reduceToNat, app_len]
      refine ⟨⟨hr.1, hr.2, s2⟩, back (k + 1, v) (by show _ - (k + 1) < _ - k; omega) (by rw [wnext (by omega)]) ?_ (by show k + 1 ≤ _; omega)⟩
      simp only [hs, app_append, app, memV]
    · unfold roomy; simp; omega
    · subst hb
      simp only [go_sem, Nat.reduceEqDiff, Nat.reduceLT, Nat.reduceAdd, Nat.reduceSub, Nat.reduceLeDiff, List.reduceReplicate, Int.reduceToNat]
      refine back (k + 1, v + 1) (by show _ - (k + 1) < _ - k; omega) (by rw [wnext (by omega)]) ?_ (by show k + 1 ≤ _; omega)
      simp only [hs, memV]
  · obtain rfl : k = pend.length := by omega
    rw [List.take_length, ← hl, List.take_length]
    refine post_val ?_ rfl
    simp only [go_sem, Nat.reduceEqDiff, Nat.reduceLT, Nat.reduceAdd, Nat.reduceSub, Nat.reduceLeDiff, List.reduceReplicate, Int.reduceToNat, List.take_length]
theorem placeB_line {vol per : List Int} {pend : List Pend} {line : Int} (hs : smallM vol per pend) : (!checkB vol per pend || !(decide (0 ≤ line) && decide (line < ((vol.length / 8 : Nat) : Int)))) = !placeB vol per pend (firstI vol line) := place_first hs line
def lamplighterref04_Fence.C : Contract
  | [.agg [.sl false (.ints .i64 vol), .sl false (.ints .i64 per), .sl false (.pends pend)]] => some (false, pD (smallM vol per pend) (fenceM fFl (checkB vol per pend) vol per pend))
  | _ => none
set_option maxRecDepth 20000 in
theorem lamplighterref04_Fence.spec : FSpec Try.prog 110 lamplighterref04_Fence.C := by
  refine FSpec.of (ctx_ok (F := [(106, lamplighterref04_Check.C), (128, lamplighterref04_keep.C)]) (S := []) (by simpa using ⟨lamplighterref04_Check.spec, lamplighterref04_keep.spec⟩) (by simp) lamplighterref04_Fence.loops) lamplighterref04_Fence.at lamplighterref04_Fence.nm lamplighterref04_Fence.bd ?_
  intro vs b S v news e hS
  unfold lamplighterref04_Fence.C at e
  split at e
  rotate_left
  · cases e
  cases e
  rw [lamplighterref04_Fence.eq]
  unfold lamplighterref04_Fence.H
  simp (maxSteps := 4000000) only [go_sem, Nat.reduceEqDiff, Nat.reduceLT, Nat.reduceAdd, Nat.reduceSub, Nat.reduceLeDiff, List.reduceReplicate, Int.reduceToNat, lamplighterref04_Check.C, lamplighterref04_keep.C]
  rename_i vol per pend
  refine ⟨hS, fun h => ?_, fun h => ?_⟩
  · unfold fenceM; rw [h]; exact post_val rfl rfl
  have hrange := check_range h
  obtain ⟨s1, s2, s3⟩ := hS
  unfold roomy at s1 s2 s3
  rw [joinW_eq]
  unfold lamplighterref04_Fence.L1
  refine loop2 (σ := Nat × Nat) (fun s => .sref false 2 s.2 0 s.1) (fun s => .int .i64 s.1) (fun s => [.box (memV vol per pend), .box (memV [] [] []), .row .own s.2 (.bools ((pend.take s.1).map (fFl)))]) (fun s => pend.length - s.1) (fun s => s.1 ≤ pend.length) (0, 0) rfl rfl (Nat.zero_le _) ?_
  rintro I back ⟨k, v⟩ hk
  simp only [] at hk ⊢
  have hml : ((pend.take k).map (fFl)).length = k := by simp; omega
  simp only [go_sem, Nat.reduceEqDiff, Nat.reduceLT, Nat.reduceAdd, Nat.reduceSub, Nat.reduceLeDiff, List.reduceReplicate, Int.reduceToNat, hml]
  refine ⟨fun hlt => ?_, fun hge => ?_⟩
  · have hkl : k < pend.length := by omega
    have hnx : (pend.take (k + 1)).map (fFl) = (pend.take k).map (fFl) ++ [(fFl) (pend.getD k ⟨0, 0, false⟩)] := by rw [take_next pend k ⟨0, 0, false⟩ hkl, List.map_append]; rfl
    have hl1 : ((pend.take (k + 1)).map (fFl)).length = k + 1 := by simp; omega
    refine ⟨by omega, ?_, ?_⟩
    · unfold roomy; simp; omega
    · refine back (k + 1, v + 1) (by show _ - (k + 1) < _ - k; omega) ?_ ?_ (by show k + 1 ≤ _; omega)
      · rw [wnext (by omega)]; simp; omega
      · rw [hnx]; rfl
  · obtain rfl : k = pend.length := by omega
    rw [List.take_length] at *
    simp only [lamplighterref04_keep.C, go_sem, Nat.reduceEqDiff, Nat.reduceLT, Nat.reduceAdd, Nat.reduceSub, Nat.reduceLeDiff, List.reduceReplicate, Int.reduceToNat, take_len _ (Nat.le_of_eq hml), hml]
    refine ⟨⟨⟨s1, s2, s3⟩, hrange⟩, ?_⟩
    unfold fenceM; simp only [h, if_true]
    rw [keptB_map, restB_map, ← keepW_app]
    exact post_val rfl rfl
/-- how many of a line -/
def cntL (L : Int) (l : List Pend) : Nat := (l.filter (fLn L)).length
theorem cntL_snoc (L : Int) (l : List Pend) (p : Pend) : cntL L (l ++ [p]) = cntL L l + (if lineOf p.at_ = L then 1 else 0) := by
  unfold cntL fLn
  rw [List.filter_append, List.length_append]
  by_cases e : lineOf p.at_ = L <;> simp [e]
/-- those that a crash keeps, told one by one -/
def thoseL (keep : List Int) : List Pend → List Pend → List Bool
  | _, [] => []
  | pre, p :: r => decide ((cntL (lineOf p.at_) pre : Int) < leftF keep (lineOf p.at_)) :: thoseL keep (pre ++ [p]) r
theorem thoseL_len (keep : List Int) : ∀ (r pre : List Pend), (thoseL keep pre r).length = r.length
  | [], _ => rfl
  | p :: r, pre => by simp [thoseL, thoseL_len keep r]
theorem thoseL_crash (keep : List Int) : ∀ (r pre : List Pend) (left : Int → Int), (∀ j, (left j).toNat = (leftF keep j).toNat - cntL j pre) → keptB (thoseL keep pre r) r = crashK r left
  | [], _, _, _ => rfl
  | p :: r, pre, left, h => by
    have ih := thoseL_crash keep r (pre ++ [p]) (lessL p left) fun j => by
      rw [cntL_snoc]
      have := h j
      unfold lessL
      by_cases e : lineOf p.at_ = j
      · subst e
        rw [if_pos rfl, if_pos rfl]
        split <;> omega
      · rw [if_neg (fun h => e h.symm), if_neg e]; omega
    have hb : decide ((cntL (lineOf p.at_) pre : Int) < leftF keep (lineOf p.at_)) = decide (0 < left (lineOf p.at_)) := by
      have := h (lineOf p.at_)
      exact decide_eq_decide.2 ⟨fun h => by omega, fun h => by omega⟩
    rw [thoseL, crashK, hb]
    cases decide (0 < left (lineOf p.at_)) <;> simp [keptB, ih]
theorem thoseL_append (keep : List Int) : ∀ (a b pre : List Pend), thoseL keep pre (a ++ b) = thoseL keep pre a ++ thoseL keep (pre ++ a) b
  | [], b, pre => by simp [thoseL]
  | p :: a, b, pre => by
    rw [List.cons_append, thoseL, thoseL_append keep a b, thoseL, List.cons_append, List.append_assoc]; rfl
def lamplighterref04_Crash.C : Contract
  | [.agg [.sl false (.ints .i64 vol), .sl false (.ints .i64 per), .sl false (.pends pend)], .sl _ (.ints .i64 keep)] => some (false, pD (smallM vol per pend ∧ roomy keep.length) (crashM (checkB vol per pend) keep per pend))
  | _ => none
set_option maxRecDepth 20000 in
theorem lamplighterref04_Crash.spec : FSpec Try.prog 112 lamplighterref04_Crash.C := by
  refine FSpec.of (ctx_ok (F := [(106, lamplighterref04_Check.C), (128, lamplighterref04_keep.C)]) (S := []) (by simpa using ⟨lamplighterref04_Check.spec, lamplighterref04_keep.spec⟩) (by simp) lamplighterref04_Crash.loops) lamplighterref04_Crash.at lamplighterref04_Crash.nm lamplighterref04_Crash.bd ?_
  intro vs b S v news e hS
  unfold lamplighterref04_Crash.C at e
  split at e
  rotate_left
  · cases e
  cases e
  rw [lamplighterref04_Crash.eq]
  unfold lamplighterref04_Crash.H
  simp (maxSteps := 4000000) only [go_sem, Nat.reduceEqDiff, Nat.reduceLT, Nat.reduceAdd, Nat.reduceSub, Nat.reduceLeDiff, List.reduceReplicate, Int.reduceToNat, lamplighterref04_Check.C, lamplighterref04_keep.C]
  rename_i vol per pend _ keep
  obtain ⟨hS, hr⟩ := hS
  refine ⟨hS, fun h => ?_, fun h => ?_⟩
  · unfold crashM; rw [h]; exact post_val rfl rfl
  have hrange := check_range h
  have hsz := (check_iff.1 h).sz
  have hln := (check_iff.1 h).len
  obtain ⟨s1, s2, s3⟩ := hS
  unfold roomy at s1 s2 s3 hr
  rw [joinW_eq]
  unfold lamplighterref04_Crash.L1
  refine loop2 (σ := Nat × Nat) (fun s => .sref false 1 s.2 0 s.1) (fun s => .int .i64 s.1) (fun s => [.box (memV vol per pend), .row .own s.2 (.bools (thoseL keep [] (pend.take s.1)))]) (fun s => pend.length - s.1) (fun s => s.1 ≤ pend.length) (0, 0) rfl rfl (Nat.zero_le _) ?_
  rintro I back ⟨k, v⟩ hk
  simp only [] at hk ⊢
  have hml : (thoseL keep [] (pend.take k)).length = k := by rw [thoseL_len]; simp; omega
  simp only [go_sem, Nat.reduceEqDiff, Nat.reduceLT, Nat.reduceAdd, Nat.reduceSub, Nat.reduceLeDiff, List.reduceReplicate, Int.reduceToNat, hml]
  refine ⟨fun hlt => ?_, fun hge => ?_⟩
  · have hkl : k < pend.length := by omega
    have hrp := hrange _ (getD_mem pend k ⟨0, 0, false⟩ hkl)
    have hnx : thoseL keep [] (pend.take (k + 1)) = thoseL keep [] (pend.take k) ++ [decide ((cntL (lineOf (pend.getD k ⟨0, 0, false⟩).at_) (pend.take k) : Int) < leftF keep (lineOf (pend.getD k ⟨0, 0, false⟩).at_))] := by rw [take_next pend k ⟨0, 0, false⟩ hkl, thoseL_append]; rfl
    generalize pend.getD k ⟨0, 0, false⟩ = p at *
    refine ⟨by omega, by decide, ?_⟩
    rw [joinW_eq]
    unfold lamplighterref04_Crash.L2
    refine loop2 (σ := Nat) (fun j => .int .i64 (cntL (lineOf p.at_) (pend.take j) : Nat)) (fun j => .int .i64 j) (fun _ => [.box (memV vol per pend), .row .own v (.bools (thoseL keep [] (pend.take k)))]) (fun j => k - j) (fun j => j ≤ k) 0 rfl rfl (Nat.zero_le _) ?_
    rintro I2 back2 j hj
    simp only [go_sem, Nat.reduceEqDiff, Nat.reduceLT, Nat.reduceAdd, Nat.reduceSub, Nat.reduceLeDiff, List.reduceReplicate, Int.reduceToNat, hml]
    have hc0 : ∀ j, j ≤ pend.length → cntL (lineOf p.at_) (pend.take j) ≤ j := fun j hj => Nat.le_trans (List.length_filter_le _ _) (by simp; omega)
    refine ⟨fun hjk => ⟨by omega, by decide, ?_⟩, fun hjk => ?_⟩
    · have hcn := cntL_snoc (lineOf p.at_) (pend.take j) (pend.getD j ⟨0, 0, false⟩)
      rw [← take_next pend j ⟨0, 0, false⟩ (by omega)] at hcn
      have hcj := hc0 j (by omega)
      rw [joinW_eq]
      refine ⟨fun hl => ?_, fun hl => ?_⟩
      · have hl : lineOf (pend.getD j ⟨0, 0, false⟩).at_ = lineOf p.at_ := hl
        rw [if_pos hl] at hcn
        simp only [go_sem, Nat.reduceEqDiff, Nat.reduceLT, Nat.reduceAdd, Nat.reduceSub, Nat.reduceLeDiff, List.reduceReplicate, Int.reduceToNat]
        refine back2 (j + 1) (by omega) ?_ rfl (by omega)
        rw [wnext (by omega), wnext (by omega), hcn]
      · have hl : ¬ lineOf (pend.getD j ⟨0, 0, false⟩).at_ = lineOf p.at_ := hl
        rw [if_neg hl] at hcn
        simp only [go_sem, Nat.reduceEqDiff, Nat.reduceLT, Nat.reduceAdd, Nat.reduceSub, Nat.reduceLeDiff, List.reduceReplicate, Int.reduceToNat]
        refine back2 (j + 1) (by omega) ?_ rfl (by omega)
        rw [wnext (by omega), hcn]; rfl
    · obtain rfl : j = k := by omega
      have hL : lineOf p.at_ = p.at_ / 8 := lineOf_eq (by omega) (by omega)
      have hw : IntKind.i64.wrap ((keep.length : Int) - 1) = (keep.length : Int) - 1 := w64 (by omega) (by omega)
      have hdec : (decide (lineOf p.at_ < (keep.length : Int)) && decide ((cntL (lineOf p.at_) (pend.take j) : Int) < keep.getD (if (keep.length : Int) - 1 < lineOf p.at_ then (keep.length : Int) - 1 else lineOf p.at_).toNat 0)) = decide ((cntL (lineOf p.at_) (pend.take j) : Int) < leftF keep (lineOf p.at_)) := by
        unfold leftF
        have h0 : 0 ≤ lineOf p.at_ := by omega
        rw [if_pos h0]
        by_cases e : lineOf p.at_ < (keep.length : Int)
        · rw [if_neg (show ¬ (keep.length : Int) - 1 < lineOf p.at_ by omega), decide_eq_true e, Bool.true_and]
        · rw [decide_eq_false e, Bool.false_and, List.getD_eq_getElem?_getD, List.getElem?_eq_none (by omega)]
          exact (decide_eq_false (by simp)).symm
      rw [hw]
      have hl1 : (thoseL keep [] (pend.take (j + 1))).length = j + 1 := by rw [thoseL_len]; simp; omega
      have hfold : IntKind.i64.wrap (p.at_.tdiv 8) = lineOf p.at_ := rfl
      rw [hfold, hdec, ← hnx, hl1]
      refine ⟨fun hlt => ?_, by unfold roomy; omega, back (j + 1, v + 1) (by show _ - (j + 1) < _ - j; omega) (by rw [wnext (by omega)]) rfl (by show j + 1 ≤ _; omega)⟩
      rw [hL] at hlt ⊢
      split <;> omega
  · obtain rfl : k = pend.length := by omega
    rw [List.take_length] at *
    simp only [lamplighterref04_keep.C, go_sem, Nat.reduceEqDiff, Nat.reduceLT, Nat.reduceAdd, Nat.reduceSub, Nat.reduceLeDiff, List.reduceReplicate, Int.reduceToNat, take_len _ (Nat.le_of_eq hml), hml]
    refine ⟨⟨⟨s1, s2, s3⟩, hrange⟩, ?_⟩
    rw [thoseL_crash keep pend [] (leftF keep) fun j => rfl]
    unfold crashM; simp only [h, if_true]
    exact post_val rfl rfl
end Lam
namespace Lam
open Go Go.Proofs
set_option linter.unusedVariables false
def lamplighterref05_Same.loops : Nat → LInfo
  | 4 => ⟨[5], [false], [0, 1], [], []⟩
  | _ => ⟨[], [], [], [], []⟩
def lamplighterref05_Same.L1 (c : Ctx) (J1 : List AObj → Prop) (K : AOut → List AObj → Prop) (lv : List AV) (h0 : List AObj) (n0 : Nat) (c0 : AV) (c1 : AV) : Prop :=
  ∃ I : Nat → List AV → List AObj → Prop, (∃ n, I n lv h0) ∧ ∀ n h, ∀ t5, I n [t5] h →
    runD (lenD T_sl_api_Micro h c0) h fun t13 h =>
    runD (binD T_int .lss t5 t13) h fun t14 h =>
    condW t14
    (runD (indexAddrD T_sl_api_Micro h c0 t5) h fun t19 h =>
    runD (fitD T_api_Micro (loadD h t19)) h fun t20 h =>
    runD (indexAddrD T_sl_api_Micro h c1 t5) h fun t23 h =>
    runD (fitD T_api_Micro (loadD h t23)) h fun t24 h =>
    runD (binD T_api_Micro .neq t20 t24) h fun t25 h =>
    condW t25
    (K (.ret (.bool false)) h)
    (runD (binD T_int .add t5 (.int .i64 1)) h fun t16 h =>
    (∃ m, m < n ∧ I m (AV.norms n0 h [t16]) (normH n0 h)) ∧ AV.norms n0 h [c0, c1] = [c0, c1]))
    (J1 h)
def lamplighterref05_Same.H (c : Ctx) (t0 : AV) (t1 : AV) (h : List AObj) (K : AOut → List AObj → Prop) : Prop :=
  runD (lenD T_sl_api_Micro h t0) h fun t7 h =>
  runD (lenD T_sl_api_Micro h t1) h fun t9 h =>
  runD (binD T_int .neq t7 t9) h fun t10 h =>
  condW t10
  (K (.ret (.bool false)) h)
  (joinW (fun (J1 : List AObj → Prop) =>
  promV [false] [(.int .i64 0)] h fun lv h => lamplighterref05_Same.L1 c J1 K (AV.norms h.length h lv) (normH h.length h) h.length (AV.norm h.length h t0) (AV.norm h.length h t1))
  (fun h => K (.ret (.bool true)) h))
def lamplighterref05_Run.loops : Nat → LInfo
  | 3 => ⟨[], [], [], [(3, none), (2, some [20, 22])], []⟩
  | 6 => ⟨[8], [false], [1, 2, 4], [], []⟩
  | _ => ⟨[], [], [], [], []⟩
def lamplighterref05_Run.L1 (c : Ctx) (J2 : AV → AV → List AObj → Prop) (K : AOut → List AObj → Prop) (lv : List AV) (h0 : List AObj) (n0 : Nat) (c1 : AV) (c2 : AV) (c4 : AV) : Prop :=
  ∃ I : Nat → List AV → List AObj → Prop, (∃ n, I n lv h0) ∧ ∀ n h, ∀ t8, I n [t8] h →
    runD (lenD T_sl_api_Micro h c1) h fun t27 h =>
    runD (binD T_int .lss t8 t27) h fun t28 h =>
    condW t28
    (runD (fitD T_api_Mem (loadD h c2)) h fun t32 h =>
    runD (indexAddrD T_sl_api_Micro h c1 t8) h fun t35 h =>
    runD (fitD T_api_Micro (loadD h t35)) h fun t36 h =>
    callW false c.noS (.fn (.func 66) [] []) [t32, t36] h (fun t37 h =>
    runD (extractD t37 0) h fun t38 h =>
    runD (extractD t37 1) h fun t39 h =>
    allocW T_api_Mem h fun t9 h =>
    runH (storeH T_api_Mem h t9 t38) h fun _ h =>
    runD (fitD T_api_Mem (loadD h t9)) h fun t40 h =>
    runH (storeH T_api_Mem h c2 t40) h fun _ h =>
    runD (binD T_int .add t8 (.int .i64 1)) h fun t30 h =>
    (∃ m, m < n ∧ I m (AV.norms n0 h [t30]) (normH n0 h)) ∧ AV.norms n0 h [c1, c2, c4] = [c1, c2, c4])
    (fun _ _ => False))
    (J2 c2 c4 h)
def lamplighterref05_Run.H (c : Ctx) (t0 : AV) (t1 : AV) (h : List AObj) (K : AOut → List AObj → Prop) : Prop :=
  boxW T_api_Mem t0 h fun t2 h =>
  allocW T_api_Mem h fun t4 h =>
  runD (fitD T_api_Mem (loadD h t2)) h fun t11 h =>
  callW false c (.fn (.func 106) [] []) [t11] h (fun t12 h =>
  runD (fieldAddrD T_api_Mem t2 0) h fun t14 h =>
  runD (fitD T_sl_int (loadD h t14)) h fun t15 h =>
  runD (lenD T_sl_int h t15) h fun t16 h =>
  callW false c (.fn (.func 71) [] []) [t1, t16] h (fun t17 h =>
  runD (unD .not t12) h fun t19 h =>
  joinW (fun (J1 : AV → AV → List AObj → Prop) =>
  guardW t19 false
  (runD (unD .not t17) h fun t22 h =>
    J1 (.bool false) t22 h)
  (J1 (.bool true) .und h))
  (fun t20 t22 h => runD (pickD t20 (.bool true) t22) h fun t23 h =>
  condW t23
  (runD (fitD T_api_Mem (loadD h t2)) h fun t24 h =>
    runH (storeH T_api_Mem h t4 t24) h fun _ h =>
    loadRes (fitD T_api_Mem (loadD h t4)) fun r0 => K (.ret (.tup [r0, (.int .i64 40)])) h)
  (joinW (fun (J2 : AV → AV → List AObj → Prop) =>
  promV [false] [(.int .i64 0)] h fun lv h => lamplighterref05_Run.L1 c J2 K (AV.norms h.length h lv) (normH h.length h) h.length (AV.norm h.length h t1) (AV.norm h.length h t2) (AV.norm h.length h t4))
  (fun t2 t4 h => runD (fitD T_api_Mem (loadD h t2)) h fun t41 h =>
  runH (storeH T_api_Mem h t4 t41) h fun _ h =>
  loadRes (fitD T_api_Mem (loadD h t4)) fun r0 => K (.ret (.tup [r0, (.int .i64 0)])) h))))
  (fun v h => K (.pan v) h))
  (fun v h => K (.pan v) h)
def lamplighterref05_Do.loops : Nat → LInfo
  | 2 => ⟨[], [], [], [(3, none), (6, some [13, 19])], []⟩
  | _ => ⟨[], [], [], [], []⟩
def lamplighterref05_Do.H (c : Ctx) (t0 : AV) (t1 : AV) (h : List AObj) (K : AOut → List AObj → Prop) : Prop :=
  boxW T_api_Mem t0 h fun t2 h =>
  boxW T_api_Micro t1 h fun t3 h =>
  allocW T_api_Mem h fun t4 h =>
  runD (fitD T_api_Mem (loadD h t2)) h fun t9 h =>
  callW false c (.fn (.func 106) [] []) [t9] h (fun t10 h =>
  runD (unD .not t10) h fun t12 h =>
  joinW (fun (J1 : AV → AV → List AObj → Prop) =>
  guardW t12 false
  (runD (fitD T_api_Micro (loadD h t3)) h fun t14 h =>
    runD (fieldAddrD T_api_Mem t2 0) h fun t15 h =>
    runD (fitD T_sl_int (loadD h t15)) h fun t16 h =>
    runD (lenD T_sl_int h t16) h fun t17 h =>
    callW false c (.fn (.func 107) [] []) [t14, t17] h (fun t18 h =>
    runD (unD .not t18) h fun t19 h =>
    J1 (.bool false) t19 h)
    (fun v h => K (.pan v) h))
  (J1 (.bool true) .und h))
  (fun t13 t19 h => runD (pickD t13 (.bool true) t19) h fun t20 h =>
  condW t20
  (runD (fitD T_api_Mem (loadD h t2)) h fun t21 h =>
    runH (storeH T_api_Mem h t4 t21) h fun _ h =>
    loadRes (fitD T_api_Mem (loadD h t4)) fun r0 => K (.ret (.tup [r0, (.int .i64 40)])) h)
  (runD (fieldAddrD T_api_Micro t3 0) h fun t22 h =>
  runD (fitD T_int (loadD h t22)) h fun t23 h =>
  runD (binD T_int .eql t23 (.int .i64 1)) h fun t24 h =>
  condW t24
  (runD (fitD T_api_Mem (loadD h t2)) h fun t25 h =>
    runD (fieldAddrD T_api_Micro t3 1) h fun t26 h =>
    runD (fitD T_int (loadD h t26)) h fun t27 h =>
    runD (fieldAddrD T_api_Micro t3 2) h fun t28 h =>
    runD (fitD T_int (loadD h t28)) h fun t29 h =>
    callW false c (.fn (.func 108) [] []) [t25, t27, t29] h (fun t30 h =>
    runD (extractD t30 0) h fun t31 h =>
    runD (extractD t30 1) h fun t32 h =>
    runH (storeH T_api_Mem h t4 t31) h fun _ h =>
    loadRes (fitD T_api_Mem (loadD h t4)) fun r0 => K (.ret (.tup [r0, t32])) h)
    (fun v h => K (.pan v) h))
  (runD (fitD T_api_Mem (loadD h t2)) h fun t34 h =>
  runD (fieldAddrD T_api_Micro t3 1) h fun t35 h =>
  runD (fitD T_int (loadD h t35)) h fun t36 h =>
  callW false c (.fn (.func 109) [] []) [t34, t36] h (fun t37 h =>
  runD (extractD t37 0) h fun t38 h =>
  runD (extractD t37 1) h fun t39 h =>
  allocW T_api_Mem h fun t7 h =>
  runH (storeH T_api_Mem h t7 t38) h fun _ h =>
  runD (fitD T_api_Mem (loadD h t7)) h fun t40 h =>
  callW false c (.fn (.func 110) [] []) [t40] h (fun t41 h =>
  runD (extractD t41 0) h fun t42 h =>
  runD (extractD t41 1) h fun t43 h =>
  runH (storeH T_api_Mem h t4 t42) h fun _ h =>
  loadRes (fitD T_api_Mem (loadD h t4)) fun r0 => K (.ret (.tup [r0, t43])) h)
  (fun v h => K (.pan v) h))
  (fun v h => K (.pan v) h)))))
  (fun v h => K (.pan v) h)
def lamplighterref05_Crash.loops : Nat → LInfo
  | _ => ⟨[], [], [], [], []⟩
def lamplighterref05_Crash.H (c : Ctx) (t0 : AV) (t1 : AV) (t2 : AV) (t3 : AV) (h : List AObj) (K : AOut → List AObj → Prop) : Prop :=
  boxW T_api_Mem t0 h fun t4 h =>
  runD (fitD T_api_Mem (loadD h t4)) h fun t16 h =>
  callW false c (.fn (.func 64) [] []) [t16, t1] h (fun t18 h =>
  runD (extractD t18 0) h fun t19 h =>
  runD (extractD t18 1) h fun t20 h =>
  allocW T_api_Mem h fun t10 h =>
  runH (storeH T_api_Mem h t10 t19) h fun _ h =>
  runD (binD T_api_Errno .neq t20 (.int .i64 0)) h fun t22 h =>
  condW t22
  (K (.ret (.tup [(.sl true (.ints .i64 [])), t20])) h)
  (runD (lenD T_sl_api_Micro h t1) h fun t26 h =>
  runD (minD t2 t26) h fun t27 h =>
  runD (maxD (.int .i64 0) t27) h fun t28 h =>
  runD (fitD T_api_Mem (loadD h t4)) h fun t30 h =>
  runD (sliceD T_sl_api_Micro h t1 none (some t28) none) h fun t33 h =>
  callW false c.noS (.fn (.func 64) [] []) [t30, t33] h (fun t34 h =>
  runD (extractD t34 0) h fun t35 h =>
  runD (extractD t34 1) h fun t36 h =>
  allocW T_api_Mem h fun t13 h =>
  runH (storeH T_api_Mem h t13 t35) h fun _ h =>
  runD (fitD T_api_Mem (loadD h t13)) h fun t37 h =>
  callW false c (.fn (.func 112) [] []) [t37, t3] h (fun t39 h =>
  runD (extractD t39 0) h fun t40 h =>
  runD (extractD t39 1) h fun t41 h =>
  K (.ret (.tup [t40, t41])) h)
  (fun v h => K (.pan v) h))
  (fun _ _ => False)))
  (fun v h => K (.pan v) h)
def lamplighterref05_Check.loops : Nat → LInfo
  | 1 => ⟨[], [], [], [(3, none), (2, some [8, 10]), (2, none), (3, some [12, 15])], []⟩
  | 4 => ⟨[5], [false], [0, 1], [], []⟩
  | _ => ⟨[], [], [], [], []⟩
def lamplighterref05_Check.L1 (c : Ctx) (J3 : List AObj → Prop) (K : AOut → List AObj → Prop) (lv : List AV) (h0 : List AObj) (n0 : Nat) (c0 : AV) (c1 : AV) : Prop :=
  ∃ I : Nat → List AV → List AObj → Prop, (∃ n, I n lv h0) ∧ ∀ n h, ∀ t5, I n [t5] h →
    runD (lenD T_sl_api_Micro h c0) h fun t19 h =>
    runD (binD T_int .lss t5 t19) h fun t20 h =>
    condW t20
    (runD (indexAddrD T_sl_api_Micro h c0 t5) h fun t25 h =>
    runD (fitD T_api_Micro (loadD h t25)) h fun t26 h =>
    callW false c (.fn (.func 107) [] []) [t26, c1] h (fun t28 h =>
    runD (unD .not t28) h fun t29 h =>
    condW t29
    (K (.ret (.bool false)) h)
    (runD (binD T_int .add t5 (.int .i64 1)) h fun t22 h =>
    (∃ m, m < n ∧ I m (AV.norms n0 h [t22]) (normH n0 h)) ∧ AV.norms n0 h [c0, c1] = [c0, c1]))
    (fun v h => K (.pan v) h))
    (J3 h)
def lamplighterref05_Check.H (c : Ctx) (t0 : AV) (t1 : AV) (h : List AObj) (K : AOut → List AObj → Prop) : Prop :=
  runD (binD T_int .lss t1 (.int .i64 0)) h fun t7 h =>
  joinW (fun (J1 : AV → AV → List AObj → Prop) =>
  guardW t7 false
  (runD (binD T_int .gtr t1 (.int .i64 4096)) h fun t10 h =>
    J1 (.bool false) t10 h)
  (J1 (.bool true) .und h))
  (fun t8 t10 h => runD (pickD t8 (.bool true) t10) h fun t11 h =>
  joinW (fun (J2 : AV → AV → List AObj → Prop) =>
  guardW t11 false
  (runD (binD T_int .rem t1 (.int .i64 8)) h fun t14 h =>
    runD (binD T_int .neq t14 (.int .i64 0)) h fun t15 h =>
    J2 (.bool false) t15 h)
  (J2 (.bool true) .und h))
  (fun t12 t15 h => runD (pickD t12 (.bool true) t15) h fun t16 h =>
  condW t16
  (K (.ret (.bool false)) h)
  (joinW (fun (J3 : List AObj → Prop) =>
  promV [false] [(.int .i64 0)] h fun lv h => lamplighterref05_Check.L1 c J3 K (AV.norms h.length h lv) (normH h.length h) h.length (AV.norm h.length h t0) (AV.norm h.length h t1))
  (fun h => K (.ret (.bool true)) h))))
def lamplighterref05_may.loops : Nat → LInfo
  | 2 => ⟨[], [], [], [(4, none), (4, some [11, 15])], []⟩
  | 3 => ⟨[], [], [], [(4, none), (3, some [20, 23]), (2, none), (5, some [25, 30]), (2, none), (3, some [32, 35])], []⟩
  | _ => ⟨[], [], [], [], []⟩
def lamplighterref05_may.H (c : Ctx) (t0 : AV) (t1 : AV) (h : List AObj) (K : AOut → List AObj → Prop) : Prop :=
  boxW T_api_Micro t0 h fun t2 h =>
  runD (fieldAddrD T_api_Micro t2 0) h fun t5 h =>
  runD (fitD T_int (loadD h t5)) h fun t6 h =>
  runD (binD T_int .eql t6 (.int .i64 1)) h fun t7 h =>
  condW t7
  (runD (fieldAddrD T_api_Micro t2 1) h fun t8 h =>
    runD (fitD T_int (loadD h t8)) h fun t9 h =>
    runD (binD T_int .geq t9 (.int .i64 0)) h fun t10 h =>
    joinW (fun (J1 : AV → AV → List AObj → Prop) =>
    guardW t10 true
    (runD (fieldAddrD T_api_Micro t2 1) h fun t12 h =>
      runD (fitD T_int (loadD h t12)) h fun t13 h =>
      runD (binD T_int .lss t13 t1) h fun t15 h =>
      J1 (.bool true) t15 h)
    (J1 (.bool false) .und h))
    (fun t11 t15 h => runD (pickD t11 t15 (.bool false)) h fun t16 h =>
    K (.ret t16) h))
  (runD (fieldAddrD T_api_Micro t2 0) h fun t17 h =>
  runD (fitD T_int (loadD h t17)) h fun t18 h =>
  runD (binD T_int .eql t18 (.int .i64 2)) h fun t19 h =>
  joinW (fun (J2 : AV → AV → List AObj → Prop) =>
  guardW t19 true
  (runD (fieldAddrD T_api_Micro t2 1) h fun t21 h =>
    runD (fitD T_int (loadD h t21)) h fun t22 h =>
    runD (binD T_int .geq t22 (.int .i64 0)) h fun t23 h =>
    J2 (.bool true) t23 h)
  (J2 (.bool false) .und h))
  (fun t20 t23 h => runD (pickD t20 t23 (.bool false)) h fun t24 h =>
  joinW (fun (J3 : AV → AV → List AObj → Prop) =>
  guardW t24 true
  (runD (fieldAddrD T_api_Micro t2 1) h fun t26 h =>
    runD (fitD T_int (loadD h t26)) h fun t27 h =>
    runD (binD T_int .quo t1 (.int .i64 8)) h fun t29 h =>
    runD (binD T_int .lss t27 t29) h fun t30 h =>
    J3 (.bool true) t30 h)
  (J3 (.bool false) .und h))
  (fun t25 t30 h => runD (pickD t25 t30 (.bool false)) h fun t31 h =>
  joinW (fun (J4 : AV → AV → List AObj → Prop) =>
  guardW t31 true
  (runD (fieldAddrD T_api_Micro t2 2) h fun t33 h =>
    runD (fitD T_int (loadD h t33)) h fun t34 h =>
    runD (binD T_int .eql t34 (.int .i64 0)) h fun t35 h =>
    J4 (.bool true) t35 h)
  (J4 (.bool false) .und h))
  (fun t32 t35 h => runD (pickD t32 t35 (.bool false)) h fun t36 h =>
  K (.ret t36) h))))
theorem lamplighterref05_Same.eq (F : List (FuncId × Contract)) (S : List (FuncId × Con)) (t0 t1 : AV) (h : List AObj) (K : AOut → List AObj → Prop) : funW (ctx F S lamplighterref05_Same.loops) Try.f23 [t0, t1] h K = lamplighterref05_Same.H (ctx F S lamplighterref05_Same.loops) t0 t1 h K := by kernel_rfl
theorem lamplighterref05_Run.eq (F : List (FuncId × Contract)) (S : List (FuncId × Con)) (t0 t1 : AV) (h : List AObj) (K : AOut → List AObj → Prop) : funW (ctx F S lamplighterref05_Run.loops) Try.f64 [t0, t1] h K = lamplighterref05_Run.H (ctx F S lamplighterref05_Run.loops) t0 t1 h K := by kernel_rfl
theorem lamplighterref05_Do.eq (F : List (FuncId × Contract)) (S : List (FuncId × Con)) (t0 t1 : AV) (h : List AObj) (K : AOut → List AObj → Prop) : funW (ctx F S lamplighterref05_Do.loops) Try.f66 [t0, t1] h K = lamplighterref05_Do.H (ctx F S lamplighterref05_Do.loops) t0 t1 h K := by kernel_rfl
theorem lamplighterref05_Crash.eq (F : List (FuncId × Contract)) (S : List (FuncId × Con)) (t0 t1 t2 t3 : AV) (h : List AObj) (K : AOut → List AObj → Prop) : funW (ctx F S lamplighterref05_Crash.loops) Try.f68 [t0, t1, t2, t3] h K = lamplighterref05_Crash.H (ctx F S lamplighterref05_Crash.loops) t0 t1 t2 t3 h K := by kernel_rfl
theorem lamplighterref05_Check.eq (F : List (FuncId × Contract)) (S : List (FuncId × Con)) (t0 t1 : AV) (h : List AObj) (K : AOut → List AObj → Prop) : funW (ctx F S lamplighterref05_Check.loops) Try.f71 [t0, t1] h K = lamplighterref05_Check.H (ctx F S lamplighterref05_Check.loops) t0 t1 h K := by kernel_rfl
theorem lamplighterref05_may.eq (F : List (FuncId × Contract)) (S : List (FuncId × Con)) (t0 t1 : AV) (h : List AObj) (K : AOut → List AObj → Prop) : funW (ctx F S lamplighterref05_may.loops) Try.f107 [t0, t1] h K = lamplighterref05_may.H (ctx F S lamplighterref05_may.loops) t0 t1 h K := by kernel_rfl
theorem lamplighterref05_Same.at : Try.prog.funcs[23]? = some Try.f23 := by kernel_rfl
theorem lamplighterref05_Same.nm : (Try.f23.name == "runtime.NumGoroutine") = false := by kernel_rfl
theorem lamplighterref05_Same.bd : Try.f23.body.isNone = false := by kernel_rfl
theorem lamplighterref05_Run.at : Try.prog.funcs[64]? = some Try.f64 := by kernel_rfl
theorem lamplighterref05_Run.nm : (Try.f64.name == "runtime.NumGoroutine") = false := by kernel_rfl
theorem lamplighterref05_Run.bd : Try.f64.body.isNone = false := by kernel_rfl
theorem lamplighterref05_Do.at : Try.prog.funcs[66]? = some Try.f66 := by kernel_rfl
theorem lamplighterref05_Do.nm : (Try.f66.name == "runtime.NumGoroutine") = false := by kernel_rfl
theorem lamplighterref05_Do.bd : Try.f66.body.isNone = false := by kernel_rfl
theorem lamplighterref05_Crash.at : Try.prog.funcs[68]? = some Try.f68 := by kernel_rfl
theorem lamplighterref05_Crash.nm : (Try.f68.name == "runtime.NumGoroutine") = false := by kernel_rfl
theorem lamplighterref05_Crash.bd : Try.f68.body.isNone = false := by kernel_rfl
theorem lamplighterref05_Check.at : Try.prog.funcs[71]? = some Try.f71 := by kernel_rfl
theorem lamplighterref05_Check.nm : (Try.f71.name == "runtime.NumGoroutine") = false := by kernel_rfl
theorem lamplighterref05_Check.bd : Try.f71.body.isNone = false := by kernel_rfl
theorem lamplighterref05_may.at : Try.prog.funcs[107]? = some Try.f107 := by kernel_rfl
theorem lamplighterref05_may.nm : (Try.f107.name == "runtime.NumGoroutine") = false := by kernel_rfl
theorem lamplighterref05_may.bd : Try.f107.body.isNone = false := by kernel_rfl
end Lam
