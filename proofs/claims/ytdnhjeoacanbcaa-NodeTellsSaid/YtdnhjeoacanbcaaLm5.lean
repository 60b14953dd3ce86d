/- What functions of the program come to, each proved from its code. -/
import Derived.Test.YtdnhjeoacanbcaaLm4
namespace Lam
open Go Go.Proofs
set_option linter.unusedVariables false
def fast_Insert.loops : Nat → LInfo
  | 1 => ⟨[], [], [], [(5, none), (2, some [18, 20]), (2, none), (2, some [22, 24]), (2, none), (4, some [26, 30])], []⟩
  | 7 => ⟨[10, 40], [true, false], [0, 1, 2, 3, 39], [], []⟩
  | _ => ⟨[], [], [], [], []⟩
def fast_Insert.L1 (c : Ctx) (J4 : AV → AV → AV → AV → List AObj → Prop) (K : AOut → List AObj → Prop) (lv : List AV) (h0 : List AObj) (n0 : Nat) (c0 : AV) (c1 : AV) (c2 : AV) (c3 : AV) (c39 : AV) : Prop :=
  ∃ I : Nat → List AV → List AObj → Prop, (∃ n, I n lv h0) ∧ ∀ n h, ∀ t10, ∀ t40, I n [t10, t40] h →
    runD (binD T_int .lss t40 c39) h fun t41 h =>
    condW t41
    (runD (lenD T_sl_int h c1) h fun t44 h =>
    runD (binD T_int .sub t44 t40) h fun t46 h =>
    runD (binD T_int .sub t46 (.int .i64 1)) h fun t51 h =>
    runD (indexAddrD T_sl_int h c1 t51) h fun t52 h =>
    runD (fitD T_int (loadD h t52)) h fun t53 h =>
    runD (buildD T_fast_slot [(0, t46), (1, t53)]) h fun t54 h =>
    runD (buildSliceD T_sl_fast_slot 1 [(0, t54)] h.length) h fun t55 h =>
    runDM (appendD T_sl_fast_slot h t10 t55 h.length) (appendH T_sl_fast_slot h t10 t55) h fun t56 h =>
    runD (binD T_int .add t40 (.int .i64 1)) h fun t57 h =>
    (∃ m, m < n ∧ I m (AV.norms n0 h [t56, t57]) (normH n0 h)) ∧ AV.norms n0 h [c0, c1, c2, c3, c39] = [c0, c1, c2, c3, c39])
    (J4 c0 c2 c3 t10 h)
def fast_Insert.H (c : Ctx) (t0 : AV) (t1 : AV) (t2 : AV) (t3 : AV) (h : List AObj) (K : AOut → List AObj → Prop) : Prop :=
  callW c (.fn (.func 83) [] []) [t0, t1] h (fun t16 h =>
  runD (unD .not t16) h fun t17 h =>
  joinW (fun (J1 : AV → AV → List AObj → Prop) =>
  guardW t17 false
  (runD (binD T_int .lss t3 (.int .i64 1)) h fun t20 h =>
    J1 (.bool false) t20 h)
  (J1 (.bool true) .und h))
  (fun t18 t20 h => runD (pickD t18 (.bool true) t20) h fun t21 h =>
  joinW (fun (J2 : AV → AV → List AObj → Prop) =>
  guardW t21 false
  (runD (binD T_int .lss t2 (.int .i64 0)) h fun t24 h =>
    J2 (.bool false) t24 h)
  (J2 (.bool true) .und h))
  (fun t22 t24 h => runD (pickD t22 (.bool true) t24) h fun t25 h =>
  joinW (fun (J3 : AV → AV → List AObj → Prop) =>
  guardW t25 false
  (runD (lenD T_sl_int h t1) h fun t29 h =>
    runD (binD T_int .gtr t2 t29) h fun t30 h =>
    J3 (.bool false) t30 h)
  (J3 (.bool true) .und h))
  (fun t26 t30 h => runD (pickD t26 (.bool true) t30) h fun t31 h =>
  condW t31
  (K (.ret (.tup [(.sl true (.mics [])), (.int .i64 1)])) h)
  (runD (lenD T_sl_int h t1) h fun t34 h =>
    runD (binD T_int .eql t34 (.int .i64 13)) h fun t35 h =>
    condW t35
    (K (.ret (.tup [(.sl true (.mics [])), (.int .i64 100)])) h)
    (runD (lenD T_sl_int h t1) h fun t37 h =>
  runD (binD T_int .sub t37 t2) h fun t39 h =>
  joinW (fun (J4 : AV → AV → AV → AV → List AObj → Prop) =>
  promV [true, false] [(.sl true (.slots [])), (.int .i64 0)] h fun lv h => fast_Insert.L1 c J4 K (AV.norms h.length h lv) (normH h.length h) h.length (AV.norm h.length h t0) (AV.norm h.length h t1) (AV.norm h.length h t2) (AV.norm h.length h t3) (AV.norm h.length h t39))
  (fun t0 t2 t3 t10 h => runD (buildD T_fast_slot [(0, t2), (1, t3)]) h fun t62 h =>
  runD (buildSliceD T_sl_fast_slot 1 [(0, t62)] h.length) h fun t63 h =>
  runDM (appendD T_sl_fast_slot h t10 t63 h.length) (appendH T_sl_fast_slot h t10 t63) h fun t64 h =>
  callW c (.fn (.func 84) [] []) [t0, t64] h (fun t65 h =>
  K (.ret (.tup [t65, (.int .i64 0)])) h)
  (fun v h => K (.pan v) h))))))))
  (fun v h => K (.pan v) h)
def fast_Delete.loops : Nat → LInfo
  | 1 => ⟨[], [], [], [(5, none), (2, some [14, 16]), (2, none), (4, some [18, 22])], []⟩
  | 5 => ⟨[8, 29], [true, false], [0, 1, 2, 28], [], []⟩
  | _ => ⟨[], [], [], [], []⟩
def fast_Delete.L1 (c : Ctx) (J3 : AV → AV → AV → List AObj → Prop) (K : AOut → List AObj → Prop) (lv : List AV) (h0 : List AObj) (n0 : Nat) (c0 : AV) (c1 : AV) (c2 : AV) (c28 : AV) : Prop :=
  ∃ I : Nat → List AV → List AObj → Prop, (∃ n, I n lv h0) ∧ ∀ n h, ∀ t8, ∀ t29, I n [t8, t29] h →
    runD (binD T_int .lss t29 c28) h fun t30 h =>
    condW t30
    (runD (binD T_int .add c2 t29) h fun t35 h =>
    runD (binD T_int .add c2 t29) h fun t39 h =>
    runD (binD T_int .add t39 (.int .i64 1)) h fun t40 h =>
    runD (indexAddrD T_sl_int h c1 t40) h fun t41 h =>
    runD (fitD T_int (loadD h t41)) h fun t42 h =>
    runD (buildD T_fast_slot [(0, t35), (1, t42)]) h fun t43 h =>
    runD (buildSliceD T_sl_fast_slot 1 [(0, t43)] h.length) h fun t44 h =>
    runDM (appendD T_sl_fast_slot h t8 t44 h.length) (appendH T_sl_fast_slot h t8 t44) h fun t45 h =>
    runD (binD T_int .add t29 (.int .i64 1)) h fun t46 h =>
    (∃ m, m < n ∧ I m (AV.norms n0 h [t45, t46]) (normH n0 h)) ∧ AV.norms n0 h [c0, c1, c2, c28] = [c0, c1, c2, c28])
    (J3 c0 c1 t8 h)
def fast_Delete.H (c : Ctx) (t0 : AV) (t1 : AV) (t2 : AV) (h : List AObj) (K : AOut → List AObj → Prop) : Prop :=
  callW c (.fn (.func 83) [] []) [t0, t1] h (fun t12 h =>
  runD (unD .not t12) h fun t13 h =>
  joinW (fun (J1 : AV → AV → List AObj → Prop) =>
  guardW t13 false
  (runD (binD T_int .lss t2 (.int .i64 0)) h fun t16 h =>
    J1 (.bool false) t16 h)
  (J1 (.bool true) .und h))
  (fun t14 t16 h => runD (pickD t14 (.bool true) t16) h fun t17 h =>
  joinW (fun (J2 : AV → AV → List AObj → Prop) =>
  guardW t17 false
  (runD (lenD T_sl_int h t1) h fun t21 h =>
    runD (binD T_int .geq t2 t21) h fun t22 h =>
    J2 (.bool false) t22 h)
  (J2 (.bool true) .und h))
  (fun t18 t22 h => runD (pickD t18 (.bool true) t22) h fun t23 h =>
  condW t23
  (K (.ret (.tup [(.sl true (.mics [])), (.int .i64 1)])) h)
  (runD (lenD T_sl_int h t1) h fun t25 h =>
  runD (binD T_int .sub t25 (.int .i64 1)) h fun t26 h =>
  runD (binD T_int .sub t26 t2) h fun t28 h =>
  joinW (fun (J3 : AV → AV → AV → List AObj → Prop) =>
  promV [true, false] [(.sl true (.slots [])), (.int .i64 0)] h fun lv h => fast_Delete.L1 c J3 K (AV.norms h.length h lv) (normH h.length h) h.length (AV.norm h.length h t0) (AV.norm h.length h t1) (AV.norm h.length h t2) (AV.norm h.length h t28))
  (fun t0 t1 t8 h => runD (lenD T_sl_int h t1) h fun t50 h =>
  runD (binD T_int .sub t50 (.int .i64 1)) h fun t51 h =>
  runD (buildD T_fast_slot [(0, t51), (1, (.int .i64 0))]) h fun t52 h =>
  runD (buildSliceD T_sl_fast_slot 1 [(0, t52)] h.length) h fun t53 h =>
  runDM (appendD T_sl_fast_slot h t8 t53 h.length) (appendH T_sl_fast_slot h t8 t53) h fun t54 h =>
  callW c (.fn (.func 84) [] []) [t0, t54] h (fun t55 h =>
  K (.ret (.tup [t55, (.int .i64 0)])) h)
  (fun v h => K (.pan v) h))))))
  (fun v h => K (.pan v) h)
def fast_Swap.loops : Nat → LInfo
  | 1 => ⟨[], [], [], [(5, none), (2, some [14, 16]), (2, none), (2, some [18, 20]), (2, none), (4, some [22, 26])], []⟩
  | _ => ⟨[], [], [], [], []⟩
def fast_Swap.H (c : Ctx) (t0 : AV) (t1 : AV) (t2 : AV) (t3 : AV) (h : List AObj) (K : AOut → List AObj → Prop) : Prop :=
  callW c (.fn (.func 83) [] []) [t0, t1] h (fun t12 h =>
  runD (unD .not t12) h fun t13 h =>
  joinW (fun (J1 : AV → AV → List AObj → Prop) =>
  guardW t13 false
  (runD (binD T_int .lss t3 (.int .i64 1)) h fun t16 h =>
    J1 (.bool false) t16 h)
  (J1 (.bool true) .und h))
  (fun t14 t16 h => runD (pickD t14 (.bool true) t16) h fun t17 h =>
  joinW (fun (J2 : AV → AV → List AObj → Prop) =>
  guardW t17 false
  (runD (binD T_int .lss t2 (.int .i64 0)) h fun t20 h =>
    J2 (.bool false) t20 h)
  (J2 (.bool true) .und h))
  (fun t18 t20 h => runD (pickD t18 (.bool true) t20) h fun t21 h =>
  joinW (fun (J3 : AV → AV → List AObj → Prop) =>
  guardW t21 false
  (runD (lenD T_sl_int h t1) h fun t25 h =>
    runD (binD T_int .geq t2 t25) h fun t26 h =>
    J3 (.bool false) t26 h)
  (J3 (.bool true) .und h))
  (fun t22 t26 h => runD (pickD t22 (.bool true) t26) h fun t27 h =>
  condW t27
  (K (.ret (.tup [(.sl true (.mics [])), (.int .i64 1)])) h)
  (runD (buildD T_fast_slot [(0, t2), (1, t3)]) h fun t31 h =>
  runD (buildSliceD T_sl_fast_slot 1 [(0, t31)] h.length) h fun t32 h =>
  callW c (.fn (.func 84) [] []) [t0, t32] h (fun t33 h =>
  K (.ret (.tup [t33, (.int .i64 0)])) h)
  (fun v h => K (.pan v) h))))))
  (fun v h => K (.pan v) h)
def fast_Cut.loops : Nat → LInfo
  | 1 => ⟨[], [], [], [(5, none), (2, some [14, 16]), (2, none), (4, some [18, 22])], []⟩
  | 5 => ⟨[8, 28], [true, false], [0, 1, 27], [], []⟩
  | _ => ⟨[], [], [], [], []⟩
def fast_Cut.L1 (c : Ctx) (J3 : AV → AV → List AObj → Prop) (K : AOut → List AObj → Prop) (lv : List AV) (h0 : List AObj) (n0 : Nat) (c0 : AV) (c1 : AV) (c27 : AV) : Prop :=
  ∃ I : Nat → List AV → List AObj → Prop, (∃ n, I n lv h0) ∧ ∀ n h, ∀ t8, ∀ t28, I n [t8, t28] h →
    runD (binD T_int .lss t28 c27) h fun t29 h =>
    condW t29
    (runD (lenD T_sl_int h c1) h fun t33 h =>
    runD (binD T_int .sub t33 (.int .i64 1)) h fun t34 h =>
    runD (binD T_int .sub t34 t28) h fun t36 h =>
    runD (buildD T_fast_slot [(0, t36), (1, (.int .i64 0))]) h fun t37 h =>
    runD (buildSliceD T_sl_fast_slot 1 [(0, t37)] h.length) h fun t38 h =>
    runDM (appendD T_sl_fast_slot h t8 t38 h.length) (appendH T_sl_fast_slot h t8 t38) h fun t39 h =>
    runD (binD T_int .add t28 (.int .i64 1)) h fun t40 h =>
    (∃ m, m < n ∧ I m (AV.norms n0 h [t39, t40]) (normH n0 h)) ∧ AV.norms n0 h [c0, c1, c27] = [c0, c1, c27])
    (J3 c0 t8 h)
def fast_Cut.H (c : Ctx) (t0 : AV) (t1 : AV) (t2 : AV) (h : List AObj) (K : AOut → List AObj → Prop) : Prop :=
  callW c (.fn (.func 83) [] []) [t0, t1] h (fun t12 h =>
  runD (unD .not t12) h fun t13 h =>
  joinW (fun (J1 : AV → AV → List AObj → Prop) =>
  guardW t13 false
  (runD (binD T_int .lss t2 (.int .i64 0)) h fun t16 h =>
    J1 (.bool false) t16 h)
  (J1 (.bool true) .und h))
  (fun t14 t16 h => runD (pickD t14 (.bool true) t16) h fun t17 h =>
  joinW (fun (J2 : AV → AV → List AObj → Prop) =>
  guardW t17 false
  (runD (lenD T_sl_int h t1) h fun t21 h =>
    runD (binD T_int .gtr t2 t21) h fun t22 h =>
    J2 (.bool false) t22 h)
  (J2 (.bool true) .und h))
  (fun t18 t22 h => runD (pickD t18 (.bool true) t22) h fun t23 h =>
  condW t23
  (K (.ret (.tup [(.sl true (.mics [])), (.int .i64 1)])) h)
  (runD (lenD T_sl_int h t1) h fun t25 h =>
  runD (binD T_int .sub t25 t2) h fun t27 h =>
  joinW (fun (J3 : AV → AV → List AObj → Prop) =>
  promV [true, false] [(.sl true (.slots [])), (.int .i64 0)] h fun lv h => fast_Cut.L1 c J3 K (AV.norms h.length h lv) (normH h.length h) h.length (AV.norm h.length h t0) (AV.norm h.length h t1) (AV.norm h.length h t27))
  (fun t0 t8 h => callW c (.fn (.func 84) [] []) [t0, t8] h (fun t43 h =>
  K (.ret (.tup [t43, (.int .i64 0)])) h)
  (fun v h => K (.pan v) h))))))
  (fun v h => K (.pan v) h)
def fast_Place.loops : Nat → LInfo
  | 1 => ⟨[], [], [], [(4, none), (2, some [8, 10]), (2, none), (2, some [12, 14])], []⟩
  | _ => ⟨[], [], [], [], []⟩
def fast_Place.H (c : Ctx) (t0 : AV) (t1 : AV) (h : List AObj) (K : AOut → List AObj → Prop) : Prop :=
  callW c (.fn (.func 89) [] []) [t0] h (fun t6 h =>
  runD (unD .not t6) h fun t7 h =>
  joinW (fun (J1 : AV → AV → List AObj → Prop) =>
  guardW t7 false
  (runD (binD T_int .lss t1 (.int .i64 0)) h fun t10 h =>
    J1 (.bool false) t10 h)
  (J1 (.bool true) .und h))
  (fun t8 t10 h => runD (pickD t8 (.bool true) t10) h fun t11 h =>
  joinW (fun (J2 : AV → AV → List AObj → Prop) =>
  guardW t11 false
  (runD (binD T_int .geq t1 (.int .i64 13)) h fun t14 h =>
    J2 (.bool false) t14 h)
  (J2 (.bool true) .und h))
  (fun t12 t14 h => runD (pickD t12 (.bool true) t14) h fun t15 h =>
  condW t15
  (K (.ret (.int .i64 (-1))) h)
  (runD (binD T_int .add t0 (.int .i64 3)) h fun t17 h =>
  runD (binD T_int .add t17 t1) h fun t19 h =>
  K (.ret t19) h))))
  (fun v h => K (.pan v) h)
def fast_Slots.loops : Nat → LInfo
  | 1 => ⟨[], [], [], [(4, none), (5, some [10, 15])], []⟩
  | _ => ⟨[], [], [], [], []⟩
def fast_Slots.H (c : Ctx) (t0 : AV) (t1 : AV) (h : List AObj) (K : AOut → List AObj → Prop) : Prop :=
  callW c (.fn (.func 89) [] []) [t1] h (fun t8 h =>
  runD (unD .not t8) h fun t9 h =>
  joinW (fun (J1 : AV → AV → List AObj → Prop) =>
  guardW t9 false
  (runD (binD T_int .add t1 (.int .i64 16)) h fun t12 h =>
    runD (lenD T_sl_int h t0) h fun t14 h =>
    runD (binD T_int .gtr t12 t14) h fun t15 h =>
    J1 (.bool false) t15 h)
  (J1 (.bool true) .und h))
  (fun t10 t15 h => runD (pickD t10 (.bool true) t15) h fun t16 h =>
  condW t16
  (K (.ret (.sl true (.ints .i64 []))) h)
  (runD (binD T_int .add t1 (.int .i64 3)) h fun t19 h =>
  runD (binD T_int .add t1 (.int .i64 16)) h fun t21 h =>
  runD (binD T_int .add t1 (.int .i64 16)) h fun t23 h =>
  runD (sliceD T_sl_int h t0 (some t19) (some t21) (some t23)) h fun t24 h =>
  callW c (.fn (.func 90) [] []) [t24, (.fn (.func 91) [] [])] h (fun t26 h =>
  runD (binD T_int .lss t26 (.int .i64 0)) h fun t28 h =>
  joinW (fun (J2 : AV → List AObj → Prop) =>
  condW t28
  (runD (lenD T_sl_int h t24) h fun t30 h =>
    J2 t30 h)
  (J2 t26 h))
  (fun t6 h => runD (sliceD T_sl_int h t24 none (some t6) none) h fun t33 h =>
  callW c (.fn (.func 92) [] []) [t33] h (fun t34 h =>
  K (.ret t34) h)
  (fun v h => K (.pan v) h)))
  (fun v h => K (.pan v) h))))
  (fun v h => K (.pan v) h)
def fast_Plain.loops : Nat → LInfo
  | _ => ⟨[], [], [], [], []⟩
def fast_Plain.H (c : Ctx) (t0 : AV) (h : List AObj) (K : AOut → List AObj → Prop) : Prop :=
  callW c (.fn (.func 92) [] []) [t0] h (fun t4 h =>
  callW c (.fn (.func 93) [] []) [t4] h (fun t5 h =>
  K (.ret t5) h)
  (fun v h => K (.pan v) h))
  (fun v h => K (.pan v) h)
def fast_may.loops : Nat → LInfo
  | 1 => ⟨[], [], [], [(3, none), (3, some [7, 10]), (2, none), (3, some [12, 15])], []⟩
  | _ => ⟨[], [], [], [], []⟩
def fast_may.H (c : Ctx) (t0 : AV) (t1 : AV) (h : List AObj) (K : AOut → List AObj → Prop) : Prop :=
  callW c (.fn (.func 89) [] []) [t0] h (fun t6 h =>
  joinW (fun (J1 : AV → AV → List AObj → Prop) =>
  guardW t6 true
  (runD (lenD T_sl_int h t1) h fun t9 h =>
    runD (binD T_int .leq t9 (.int .i64 13)) h fun t10 h =>
    J1 (.bool true) t10 h)
  (J1 (.bool false) .und h))
  (fun t7 t10 h => runD (pickD t7 t10 (.bool false)) h fun t11 h =>
  joinW (fun (J2 : AV → AV → List AObj → Prop) =>
  guardW t11 true
  (callW c (.fn (.func 81) [] []) [t1, (.fn (.func 118) [] [])] h (fun t14 h =>
    runD (unD .not t14) h fun t15 h =>
    J2 (.bool true) t15 h)
    (fun v h => K (.pan v) h))
  (J2 (.bool false) .und h))
  (fun t12 t15 h => runD (pickD t12 t15 (.bool false)) h fun t16 h =>
  K (.ret t16) h)))
  (fun v h => K (.pan v) h)
def fast_stored.loops : Nat → LInfo
  | 2 => ⟨[4, 10], [true, false], [0, 1, 8, 9], [], []⟩
  | 6 => ⟨[], [], [], [(6, none), (12, some [31, 43])], []⟩
  | _ => ⟨[], [], [], [], []⟩
def fast_stored.L1 (c : Ctx) (J1 : AV → List AObj → Prop) (K : AOut → List AObj → Prop) (lv : List AV) (h0 : List AObj) (n0 : Nat) (c0 : AV) (c1 : AV) (c8 : AV) (c9 : AV) : Prop :=
  ∃ I : Nat → List AV → List AObj → Prop, (∃ n, I n lv h0) ∧ ∀ n h, ∀ t4, ∀ t10, I n [t4, t10] h →
    runD (binD T_int .lss t10 c9) h fun t11 h =>
    condW t11
    (runD (indexAddrD T_sl_fast_slot h c8 t10) h fun t13 h =>
    runD (fitD T_fast_slot (loadD h t13)) h fun t14 h =>
    allocW T_fast_slot h fun t6 h =>
    runH (storeH T_fast_slot h t6 t14) h fun _ h =>
    runD (fieldAddrD T_fast_slot t6 0) h fun t16 h =>
    runD (fitD T_int (loadD h t16)) h fun t17 h =>
    callW c (.fn (.func 45) [] []) [c0, t17] h (fun t18 h =>
    runD (fieldAddrD T_fast_slot t6 1) h fun t21 h =>
    runD (fitD T_int (loadD h t21)) h fun t22 h =>
    runD (buildD T_api_Micro [(0, (.int .i64 1)), (1, t18), (2, t22)]) h fun t23 h =>
    runD (buildSliceD T_sl_api_Micro 1 [(0, t23)] h.length) h fun t24 h =>
    runDM (appendD T_sl_api_Micro h t4 t24 h.length) (appendH T_sl_api_Micro h t4 t24) h fun t25 h =>
    runD (binD T_int .add t10 (.int .i64 1)) h fun t27 h =>
    runD (lenD T_sl_fast_slot h c1) h fun t29 h =>
    runD (binD T_int .eql t27 t29) h fun t30 h =>
    joinW (fun (J2 : AV → AV → List AObj → Prop) =>
    guardW t30 false
    (runD (binD T_int .add t10 (.int .i64 1)) h fun t35 h =>
      runD (indexAddrD T_sl_fast_slot h c1 t35) h fun t36 h =>
      runD (fieldAddrD T_fast_slot t36 0) h fun t37 h =>
      runD (fitD T_int (loadD h t37)) h fun t38 h =>
      callW c (.fn (.func 45) [] []) [c0, t38] h (fun t39 h =>
      runD (binD T_int .quo t39 (.int .i64 8)) h fun t40 h =>
      runD (binD T_int .quo t18 (.int .i64 8)) h fun t42 h =>
      runD (binD T_int .neq t40 t42) h fun t43 h =>
      J2 (.bool false) t43 h)
      (fun v h => K (.pan v) h))
    (J2 (.bool true) .und h))
    (fun t31 t43 h => runD (pickD t31 (.bool true) t43) h fun t44 h =>
    joinW (fun (J3 : AV → List AObj → Prop) =>
    condW t44
    (runD (binD T_int .quo t18 (.int .i64 8)) h fun t47 h =>
      runD (buildD T_api_Micro [(0, (.int .i64 2)), (1, t47)]) h fun t48 h =>
      runD (buildSliceD T_sl_api_Micro 1 [(0, t48)] h.length) h fun t49 h =>
      runDM (appendD T_sl_api_Micro h t25 t49 h.length) (appendH T_sl_api_Micro h t25 t49) h fun t50 h =>
      J3 t50 h)
    (J3 t25 h))
    (fun t4 h => runD (binD T_int .add t10 (.int .i64 1)) h fun t51 h =>
    (∃ m, m < n ∧ I m (AV.norms n0 h [t4, t51]) (normH n0 h)) ∧ AV.norms n0 h [c0, c1, c8, c9] = [c0, c1, c8, c9])))
    (fun v h => K (.pan v) h))
    (J1 t4 h)
def fast_stored.H (c : Ctx) (t0 : AV) (t1 : AV) (h : List AObj) (K : AOut → List AObj → Prop) : Prop :=
  runD (lenD T_sl_fast_slot h t1) h fun t9 h =>
  joinW (fun (J1 : AV → List AObj → Prop) =>
  promV [true, false] [(.sl true (.mics [])), (.int .i64 0)] h fun lv h => fast_stored.L1 c J1 K (AV.norms h.length h lv) (normH h.length h) h.length (AV.norm h.length h t0) (AV.norm h.length h t1) (AV.norm h.length h t1) (AV.norm h.length h t9))
  (fun t4 h => callW c (.fn (.func 70) [] []) [t4, (.int .i64 4096)] h (fun t53 h =>
  runD (unD .not t53) h fun t54 h =>
  condW t54
  (K (.ret (.sl true (.mics []))) h)
  (K (.ret t4) h))
  (fun v h => K (.pan v) h))
def fast_node.loops : Nat → LInfo
  | 1 => ⟨[], [], [], [(3, none), (3, some [5, 8]), (2, none), (3, some [10, 13])], []⟩
  | _ => ⟨[], [], [], [], []⟩
def fast_node.H (c : Ctx) (t0 : AV) (h : List AObj) (K : AOut → List AObj → Prop) : Prop :=
  runD (binD T_int .geq t0 (.int .i64 0)) h fun t4 h =>
  joinW (fun (J1 : AV → AV → List AObj → Prop) =>
  guardW t4 true
  (runD (binD T_int .add t0 (.int .i64 16)) h fun t7 h =>
    runD (binD T_int .leq t7 (.int .i64 4096)) h fun t8 h =>
    J1 (.bool true) t8 h)
  (J1 (.bool false) .und h))
  (fun t5 t8 h => runD (pickD t5 t8 (.bool false)) h fun t9 h =>
  joinW (fun (J2 : AV → AV → List AObj → Prop) =>
  guardW t9 true
  (runD (binD T_int .rem t0 (.int .i64 16)) h fun t12 h =>
    runD (binD T_int .eql t12 (.int .i64 0)) h fun t13 h =>
    J2 (.bool true) t13 h)
  (J2 (.bool false) .und h))
  (fun t10 t13 h => runD (pickD t10 t13 (.bool false)) h fun t14 h =>
  K (.ret t14) h))
def fast_Slots_1.loops : Nat → LInfo
  | _ => ⟨[], [], [], [], []⟩
def fast_Slots_1.H (c : Ctx) (t0 : AV) (h : List AObj) (K : AOut → List AObj → Prop) : Prop :=
  runD (binD T_int .lss t0 (.int .i64 1)) h fun t4 h =>
  K (.ret t4) h
def fast_may_1.loops : Nat → LInfo
  | _ => ⟨[], [], [], [], []⟩
def fast_may_1.H (c : Ctx) (t0 : AV) (h : List AObj) (K : AOut → List AObj → Prop) : Prop :=
  runD (binD T_int .lss t0 (.int .i64 1)) h fun t4 h =>
  K (.ret t4) h
theorem fast_Insert.eq (F : List (FuncId × Contract)) (S : List (FuncId × Con)) (t0 t1 t2 t3 : AV) (h : List AObj) (K : AOut → List AObj → Prop) : funW (ctx F S fast_Insert.loops) Try.f37 [t0, t1, t2, t3] h K = fast_Insert.H (ctx F S fast_Insert.loops) t0 t1 t2 t3 h K := by kernel_rfl
theorem fast_Delete.eq (F : List (FuncId × Contract)) (S : List (FuncId × Con)) (t0 t1 t2 : AV) (h : List AObj) (K : AOut → List AObj → Prop) : funW (ctx F S fast_Delete.loops) Try.f39 [t0, t1, t2] h K = fast_Delete.H (ctx F S fast_Delete.loops) t0 t1 t2 h K := by kernel_rfl
theorem fast_Swap.eq (F : List (FuncId × Contract)) (S : List (FuncId × Con)) (t0 t1 t2 t3 : AV) (h : List AObj) (K : AOut → List AObj → Prop) : funW (ctx F S fast_Swap.loops) Try.f41 [t0, t1, t2, t3] h K = fast_Swap.H (ctx F S fast_Swap.loops) t0 t1 t2 t3 h K := by kernel_rfl
theorem fast_Cut.eq (F : List (FuncId × Contract)) (S : List (FuncId × Con)) (t0 t1 t2 : AV) (h : List AObj) (K : AOut → List AObj → Prop) : funW (ctx F S fast_Cut.loops) Try.f43 [t0, t1, t2] h K = fast_Cut.H (ctx F S fast_Cut.loops) t0 t1 t2 h K := by kernel_rfl
theorem fast_Place.eq (F : List (FuncId × Contract)) (S : List (FuncId × Con)) (t0 t1 : AV) (h : List AObj) (K : AOut → List AObj → Prop) : funW (ctx F S fast_Place.loops) Try.f45 [t0, t1] h K = fast_Place.H (ctx F S fast_Place.loops) t0 t1 h K := by kernel_rfl
theorem fast_Slots.eq (F : List (FuncId × Contract)) (S : List (FuncId × Con)) (t0 t1 : AV) (h : List AObj) (K : AOut → List AObj → Prop) : funW (ctx F S fast_Slots.loops) Try.f47 [t0, t1] h K = fast_Slots.H (ctx F S fast_Slots.loops) t0 t1 h K := by kernel_rfl
theorem fast_Plain.eq (F : List (FuncId × Contract)) (S : List (FuncId × Con)) (t0 : AV) (h : List AObj) (K : AOut → List AObj → Prop) : funW (ctx F S fast_Plain.loops) Try.f49 [t0] h K = fast_Plain.H (ctx F S fast_Plain.loops) t0 h K := by kernel_rfl
theorem fast_may.eq (F : List (FuncId × Contract)) (S : List (FuncId × Con)) (t0 t1 : AV) (h : List AObj) (K : AOut → List AObj → Prop) : funW (ctx F S fast_may.loops) Try.f83 [t0, t1] h K = fast_may.H (ctx F S fast_may.loops) t0 t1 h K := by kernel_rfl
theorem fast_stored.eq (F : List (FuncId × Contract)) (S : List (FuncId × Con)) (t0 t1 : AV) (h : List AObj) (K : AOut → List AObj → Prop) : funW (ctx F S fast_stored.loops) Try.f84 [t0, t1] h K = fast_stored.H (ctx F S fast_stored.loops) t0 t1 h K := by kernel_rfl
theorem fast_node.eq (F : List (FuncId × Contract)) (S : List (FuncId × Con)) (t0 : AV) (h : List AObj) (K : AOut → List AObj → Prop) : funW (ctx F S fast_node.loops) Try.f89 [t0] h K = fast_node.H (ctx F S fast_node.loops) t0 h K := by kernel_rfl
theorem fast_Slots_1.eq (F : List (FuncId × Contract)) (S : List (FuncId × Con)) (t0 : AV) (h : List AObj) (K : AOut → List AObj → Prop) : funW (ctx F S fast_Slots_1.loops) Try.f91 [t0] h K = fast_Slots_1.H (ctx F S fast_Slots_1.loops) t0 h K := by kernel_rfl
theorem fast_may_1.eq (F : List (FuncId × Contract)) (S : List (FuncId × Con)) (t0 : AV) (h : List AObj) (K : AOut → List AObj → Prop) : funW (ctx F S fast_may_1.loops) Try.f118 [t0] h K = fast_may_1.H (ctx F S fast_may_1.loops) t0 h K := by kernel_rfl
theorem fast_Insert.at : Try.prog.funcs[37]? = some Try.f37 := by kernel_rfl
theorem fast_Insert.nm : (Try.f37.name == "runtime.NumGoroutine") = false := by kernel_rfl
theorem fast_Insert.bd : Try.f37.body.isNone = false := by kernel_rfl
theorem fast_Delete.at : Try.prog.funcs[39]? = some Try.f39 := by kernel_rfl
theorem fast_Delete.nm : (Try.f39.name == "runtime.NumGoroutine") = false := by kernel_rfl
theorem fast_Delete.bd : Try.f39.body.isNone = false := by kernel_rfl
theorem fast_Swap.at : Try.prog.funcs[41]? = some Try.f41 := by kernel_rfl
theorem fast_Swap.nm : (Try.f41.name == "runtime.NumGoroutine") = false := by kernel_rfl
theorem fast_Swap.bd : Try.f41.body.isNone = false := by kernel_rfl
theorem fast_Cut.at : Try.prog.funcs[43]? = some Try.f43 := by kernel_rfl
theorem fast_Cut.nm : (Try.f43.name == "runtime.NumGoroutine") = false := by kernel_rfl
theorem fast_Cut.bd : Try.f43.body.isNone = false := by kernel_rfl
theorem fast_Place.at : Try.prog.funcs[45]? = some Try.f45 := by kernel_rfl
theorem fast_Place.nm : (Try.f45.name == "runtime.NumGoroutine") = false := by kernel_rfl
theorem fast_Place.bd : Try.f45.body.isNone = false := by kernel_rfl
theorem fast_Slots.at : Try.prog.funcs[47]? = some Try.f47 := by kernel_rfl
theorem fast_Slots.nm : (Try.f47.name == "runtime.NumGoroutine") = false := by kernel_rfl
theorem fast_Slots.bd : Try.f47.body.isNone = false := by kernel_rfl
theorem fast_Plain.at : Try.prog.funcs[49]? = some Try.f49 := by kernel_rfl
theorem fast_Plain.nm : (Try.f49.name == "runtime.NumGoroutine") = false := by kernel_rfl
theorem fast_Plain.bd : Try.f49.body.isNone = false := by kernel_rfl
theorem fast_may.at : Try.prog.funcs[83]? = some Try.f83 := by kernel_rfl
theorem fast_may.nm : (Try.f83.name == "runtime.NumGoroutine") = false := by kernel_rfl
theorem fast_may.bd : Try.f83.body.isNone = false := by kernel_rfl
theorem fast_stored.at : Try.prog.funcs[84]? = some Try.f84 := by kernel_rfl
theorem fast_stored.nm : (Try.f84.name == "runtime.NumGoroutine") = false := by kernel_rfl
theorem fast_stored.bd : Try.f84.body.isNone = false := by kernel_rfl
theorem fast_node.at : Try.prog.funcs[89]? = some Try.f89 := by kernel_rfl
theorem fast_node.nm : (Try.f89.name == "runtime.NumGoroutine") = false := by kernel_rfl
theorem fast_node.bd : Try.f89.body.isNone = false := by kernel_rfl
theorem fast_Slots_1.at : Try.prog.funcs[91]? = some Try.f91 := by kernel_rfl
theorem fast_Slots_1.nm : (Try.f91.name == "runtime.NumGoroutine") = false := by kernel_rfl
theorem fast_Slots_1.bd : Try.f91.body.isNone = false := by kernel_rfl
theorem fast_may_1.at : Try.prog.funcs[118]? = some Try.f118 := by kernel_rfl
theorem fast_may_1.nm : (Try.f118.name == "runtime.NumGoroutine") = false := by kernel_rfl
theorem fast_may_1.bd : Try.f118.body.isNone = false := by kernel_rfl
end Lam
namespace Lam
open Go Go.Proofs
set_option linter.unusedVariables false
def node_Words.loops : Nat → LInfo
  | _ => ⟨[], [], [], [], []⟩
def node_Words.H (c : Ctx) (t0 : AV) (h : List AObj) (K : AOut → List AObj → Prop) : Prop :=
  boxW T_api_Node t0 h fun t1 h =>
  runD (fitD T_api_Node (loadD h t1)) h fun t5 h =>
  callW c (.fn (.func 32) [] []) [t5] h (fun t6 h =>
  runD (unD .not t6) h fun t7 h =>
  condW t7
  (K (.ret (.tup [(.sl true (.ints .i64 [])), (.int .i64 90)])) h)
  (runD (makeSliceD T_sl_int (.int .i64 16) (.int .i64 16) h.length) h fun t8 h =>
  runD (fitD T_api_Node (loadD h t1)) h fun t12 h =>
  callW c.noS (.fn (.func 76) [] []) [t12] h (fun t13 h =>
  runD (fieldAddrD T_api_Node t1 2) h fun t14 h =>
  runD (fitD T_int (loadD h t14)) h fun t15 h =>
  runD (fieldAddrD T_api_Node t1 3) h fun t16 h =>
  runD (fitD T_int (loadD h t16)) h fun t17 h =>
  runD (indexAddrD T_sl_int h t8 (.int .i64 0)) h fun t18 h =>
  runH (storeH T_int h t18 t13) h fun _ h =>
  runD (indexAddrD T_sl_int h t8 (.int .i64 1)) h fun t19 h =>
  runH (storeH T_int h t19 t15) h fun _ h =>
  runD (indexAddrD T_sl_int h t8 (.int .i64 2)) h fun t20 h =>
  runH (storeH T_int h t20 t17) h fun _ h =>
  sepB t18 [t14] = true ∧ sepB t18 [t16] = true ∧ sepB t19 [t16] = true ∧ runD (sliceD T_sl_int h t8 (some (.int .i64 3)) none none) h fun t22 h =>
  runD (fieldAddrD T_api_Node t1 4) h fun t23 h =>
  runD (fitD T_sl_int (loadD h t23)) h fun t24 h =>
  runM (copyH T_sl_int h t22 t24) h fun t25 h =>
  K (.ret (.tup [t8, (.int .i64 0)])) h)
  (fun _ _ => False)))
  (fun v h => K (.pan v) h)
def node_Read.loops : Nat → LInfo
  | 1 => ⟨[], [], [], [(3, none), (5, some [12, 17])], []⟩
  | 6 => ⟨[], [], [], [(3, none), (4, some [52, 56])], []⟩
  | _ => ⟨[], [], [], [], []⟩
def node_Read.H (c : Ctx) (t0 : AV) (t1 : AV) (h : List AObj) (K : AOut → List AObj → Prop) : Prop :=
  allocW T_api_Node h fun t4 h =>
  runD (binD T_int .lss t1 (.int .i64 0)) h fun t11 h =>
  joinW (fun (J1 : AV → AV → List AObj → Prop) =>
  guardW t11 false
  (runD (lenD T_sl_int h t0) h fun t15 h =>
    runD (binD T_int .quo t15 (.int .i64 16)) h fun t16 h =>
    runD (binD T_int .geq t1 t16) h fun t17 h =>
    J1 (.bool false) t17 h)
  (J1 (.bool true) .und h))
  (fun t12 t17 h => runD (pickD t12 (.bool true) t17) h fun t18 h =>
  condW t18
  (runD (buildD T_api_Node []) h fun t19 h =>
    runH (storeH T_api_Node h t4 t19) h fun _ h =>
    loadRes (fitD T_api_Node (loadD h t4)) fun r0 => K (.ret (.tup [r0, (.int .i64 1)])) h)
  (runD (binD T_int .mul (.int .i64 16) t1) h fun t22 h =>
  runD (binD T_int .add t1 (.int .i64 1)) h fun t24 h =>
  runD (binD T_int .mul (.int .i64 16) t24) h fun t25 h =>
  runD (sliceD T_sl_int h t0 (some t22) (some t25) none) h fun t26 h =>
  runD (indexAddrD T_sl_int h t26 (.int .i64 0)) h fun t28 h =>
  runD (fitD T_int (loadD h t28)) h fun t29 h =>
  runD (binD T_int .and t29 (.int .i64 15)) h fun t30 h =>
  runD (indexAddrD T_sl_int h t26 (.int .i64 0)) h fun t32 h =>
  runD (fitD T_int (loadD h t32)) h fun t33 h =>
  runD (binD T_int .andNot t33 (.int .i64 1152921504606846976)) h fun t34 h =>
  runD (binD T_int .shr t34 (.int .u64 4)) h fun t35 h =>
  runD (indexAddrD T_sl_int h t26 (.int .i64 1)) h fun t37 h =>
  runD (fitD T_int (loadD h t37)) h fun t38 h =>
  runD (indexAddrD T_sl_int h t26 (.int .i64 2)) h fun t40 h =>
  runD (fitD T_int (loadD h t40)) h fun t41 h =>
  callW c.noS (.fn (.func 47) [] []) [t26, (.int .i64 0)] h (fun t43 h =>
  runD (buildD T_api_Node [(0, t30), (1, t35), (2, t38), (3, t41), (4, t43)]) h fun t44 h =>
  allocW T_api_Node h fun t7 h =>
  runH (storeH T_api_Node h t7 t44) h fun _ h =>
  runD (fitD T_api_Node (loadD h t7)) h fun t46 h =>
  callW c (.fn (.func 25) [] []) [t46] h (fun t47 h =>
  runD (extractD t47 0) h fun t48 h =>
  runD (extractD t47 1) h fun t49 h =>
  runD (binD T_api_Errno .neq t49 (.int .i64 0)) h fun t51 h =>
  joinW (fun (J2 : AV → AV → List AObj → Prop) =>
  guardW t51 false
  (callW c (.fn (.func 78) [] []) [t48, t26] h (fun t55 h =>
    runD (unD .not t55) h fun t56 h =>
    J2 (.bool false) t56 h)
    (fun v h => K (.pan v) h))
  (J2 (.bool true) .und h))
  (fun t52 t56 h => runD (pickD t52 (.bool true) t56) h fun t57 h =>
  condW t57
  (runD (buildD T_api_Node []) h fun t58 h =>
    runH (storeH T_api_Node h t4 t58) h fun _ h =>
    loadRes (fitD T_api_Node (loadD h t4)) fun r0 => K (.ret (.tup [r0, (.int .i64 90)])) h)
  (runD (fitD T_api_Node (loadD h t7)) h fun t59 h =>
  runH (storeH T_api_Node h t4 t59) h fun _ h =>
  loadRes (fitD T_api_Node (loadD h t4)) fun r0 => K (.ret (.tup [r0, (.int .i64 0)])) h)))
  (fun v h => K (.pan v) h))
  (fun _ _ => False)))
def node_Next.loops : Nat → LInfo
  | 1 => ⟨[], [], [], [(4, none), (3, some [9, 12])], []⟩
  | _ => ⟨[], [], [], [], []⟩
def node_Next.H (c : Ctx) (t0 : AV) (t1 : AV) (h : List AObj) (K : AOut → List AObj → Prop) : Prop :=
  callW c (.fn (.func 79) [] []) [t0] h (fun t7 h =>
  runD (unD .not t7) h fun t8 h =>
  joinW (fun (J1 : AV → AV → List AObj → Prop) =>
  guardW t8 false
  (callW c (.fn (.func 79) [] []) [t1] h (fun t11 h =>
    runD (unD .not t11) h fun t12 h =>
    J1 (.bool false) t12 h)
    (fun v h => K (.pan v) h))
  (J1 (.bool true) .und h))
  (fun t9 t12 h => runD (pickD t9 (.bool true) t12) h fun t13 h =>
  condW t13
  (K (.ret (.tup [(.sl true (.mics [])), (.int .i64 1)])) h)
  (runD (binD T_int .mul (.int .i64 16) t0) h fun t15 h =>
  runD (binD T_int .add t15 (.int .i64 1)) h fun t16 h =>
  runD (buildD T_api_Micro [(0, (.int .i64 1)), (1, t16), (2, t1)]) h fun t18 h =>
  runD (binD T_int .mul (.int .i64 2) t0) h fun t20 h =>
  runD (buildD T_api_Micro [(0, (.int .i64 2)), (1, t20)]) h fun t21 h =>
  runD (buildSliceD T_sl_api_Micro 2 [(0, t18), (1, t21)] h.length) h fun t22 h =>
  K (.ret (.tup [t22, (.int .i64 0)])) h)))
  (fun v h => K (.pan v) h)
def node_Check.loops : Nat → LInfo
  | 10 => ⟨[], [], [], [(2, none), (4, some [32, 36])], []⟩
  | _ => ⟨[], [], [], [], []⟩
def node_Check.H (c : Ctx) (t0 : AV) (h : List AObj) (K : AOut → List AObj → Prop) : Prop :=
  boxW T_api_Node t0 h fun t1 h =>
  joinW (fun (J1 : AV → List AObj → Prop) =>
  joinW (fun (J2 : List AObj → Prop) =>
  joinW (fun (J3 : List AObj → Prop) =>
  runD (fieldAddrD T_api_Node t1 0) h fun t5 h =>
  runD (fitD T_int (loadD h t5)) h fun t6 h =>
  runD (binD T_int .lss t6 (.int .i64 0)) h fun t7 h =>
  joinW (fun (J4 : AV → List AObj → Prop) =>
  condW t7
  (J4 t7 h)
  (runD (fieldAddrD T_api_Node t1 0) h fun t8 h =>
    runD (fitD T_int (loadD h t8)) h fun t9 h =>
    runD (binD T_int .gtr t9 (.int .i64 9)) h fun t10 h =>
    J4 t10 h))
  (fun t4 h => condW t4
  (J3 h)
  (runD (fieldAddrD T_api_Node t1 1) h fun t12 h =>
  runD (fitD T_int (loadD h t12)) h fun t13 h =>
  runD (binD T_int .lss t13 (.int .i64 0)) h fun t14 h =>
  joinW (fun (J5 : AV → List AObj → Prop) =>
  condW t14
  (J5 t14 h)
  (runD (fieldAddrD T_api_Node t1 1) h fun t15 h =>
    runD (fitD T_int (loadD h t15)) h fun t16 h =>
    runD (binD T_int .gtr t16 (.int .i64 1099511627776)) h fun t17 h =>
    J5 t17 h))
  (fun t11 h => condW t11
  (J3 h)
  (runD (fieldAddrD T_api_Node t1 2) h fun t19 h =>
  runD (fitD T_int (loadD h t19)) h fun t20 h =>
  callW c (.fn (.func 79) [] []) [t20] h (fun t21 h =>
  runD (unD .not t21) h fun t22 h =>
  joinW (fun (J6 : AV → List AObj → Prop) =>
  condW t22
  (J6 t22 h)
  (runD (fieldAddrD T_api_Node t1 3) h fun t23 h =>
    runD (fitD T_int (loadD h t23)) h fun t24 h =>
    callW c (.fn (.func 79) [] []) [t24] h (fun t25 h =>
    runD (unD .not t25) h fun t26 h =>
    joinW (fun (J7 : AV → List AObj → Prop) =>
    condW t26
    (J7 t26 h)
    (runD (fieldAddrD T_api_Node t1 4) h fun t27 h =>
      runD (fitD T_sl_int (loadD h t27)) h fun t28 h =>
      runD (lenD T_sl_int h t28) h fun t29 h =>
      runD (binD T_int .gtr t29 (.int .i64 13)) h fun t30 h =>
      J7 t30 h))
    (fun t18 h => J6 t18 h))
    (fun v h => K (.pan v) h)))
  (fun t18 h => condW t18
  (J2 h)
  (J1 (.bool true) h)))
  (fun v h => K (.pan v) h))))))
  (fun h => J2 h))
  (fun h => J1 (.bool false) h))
  (fun t3 h => joinW (fun (J8 : AV → AV → List AObj → Prop) =>
  guardW t3 true
  (runD (fieldAddrD T_api_Node t1 4) h fun t33 h =>
    runD (fitD T_sl_int (loadD h t33)) h fun t34 h =>
    callW c (.fn (.func 81) [] []) [t34, (.fn (.func 82) [] [])] h (fun t35 h =>
    runD (unD .not t35) h fun t36 h =>
    J8 (.bool true) t36 h)
    (fun v h => K (.pan v) h))
  (J8 (.bool false) .und h))
  (fun t32 t36 h => runD (pickD t32 t36 (.bool false)) h fun t37 h =>
  K (.ret t37) h))
def node_Turn.loops : Nat → LInfo
  | 1 => ⟨[], [], [], [(4, none), (3, some [10, 13]), (2, none), (6, some [15, 21])], []⟩
  | _ => ⟨[], [], [], [], []⟩
def node_Turn.H (c : Ctx) (t0 : AV) (t1 : AV) (t2 : AV) (h : List AObj) (K : AOut → List AObj → Prop) : Prop :=
  boxW T_api_Node t1 h fun t4 h =>
  callW c (.fn (.func 79) [] []) [t0] h (fun t8 h =>
  runD (unD .not t8) h fun t9 h =>
  joinW (fun (J1 : AV → AV → List AObj → Prop) =>
  guardW t9 false
  (runD (fitD T_api_Node (loadD h t4)) h fun t11 h =>
    callW c (.fn (.func 32) [] []) [t11] h (fun t12 h =>
    runD (unD .not t12) h fun t13 h =>
    J1 (.bool false) t13 h)
    (fun v h => K (.pan v) h))
  (J1 (.bool true) .und h))
  (fun t10 t13 h => runD (pickD t10 (.bool true) t13) h fun t14 h =>
  joinW (fun (J2 : AV → AV → List AObj → Prop) =>
  guardW t14 false
  (runD (fieldAddrD T_api_Node t4 1) h fun t16 h =>
    runD (fitD T_int (loadD h t16)) h fun t17 h =>
    runD (binD T_int .and t17 (.int .i64 1)) h fun t18 h =>
    runD (binD T_int .eql t18 (.int .i64 1)) h fun t19 h =>
    runD (binD T_bool .eql t19 t2) h fun t21 h =>
    J2 (.bool false) t21 h)
  (J2 (.bool true) .und h))
  (fun t15 t21 h => runD (pickD t15 (.bool true) t21) h fun t22 h =>
  condW t22
  (K (.ret (.sl true (.mics []))) h)
  (runD (fieldAddrD T_api_Node t4 1) h fun t23 h =>
  runD (fitD T_int (loadD h t23)) h fun t24 h =>
  runD (binD T_int .rem t24 (.int .i64 1099511627776)) h fun t25 h =>
  runD (binD T_int .add t25 (.int .i64 1)) h fun t26 h =>
  runD (fieldAddrD T_api_Node t4 1) h fun t27 h =>
  runH (storeH T_int h t27 t26) h fun _ h =>
  runD (binD T_int .mul (.int .i64 16) t0) h fun t29 h =>
  runD (fitD T_api_Node (loadD h t4)) h fun t30 h =>
  callW c (.fn (.func 76) [] []) [t30] h (fun t31 h =>
  runD (buildD T_api_Micro [(0, (.int .i64 1)), (1, t29), (2, t31)]) h fun t32 h =>
  runD (buildSliceD T_sl_api_Micro 1 [(0, t32)] h.length) h fun t33 h =>
  K (.ret t33) h)
  (fun v h => K (.pan v) h)))))
  (fun v h => K (.pan v) h)
def node_first.loops : Nat → LInfo
  | _ => ⟨[], [], [], [], []⟩
def node_first.H (c : Ctx) (t0 : AV) (h : List AObj) (K : AOut → List AObj → Prop) : Prop :=
  boxW T_api_Node t0 h fun t1 h =>
  runD (fieldAddrD T_api_Node t1 1) h fun t3 h =>
  runD (fitD T_int (loadD h t3)) h fun t4 h =>
  runD (binD T_int .shl t4 (.int .u64 4)) h fun t5 h =>
  runD (binD T_int .or (.int .i64 1152921504606846976) t5) h fun t6 h =>
  runD (fieldAddrD T_api_Node t1 0) h fun t7 h =>
  runD (fitD T_int (loadD h t7)) h fun t8 h =>
  runD (binD T_int .or t6 t8) h fun t9 h =>
  K (.ret t9) h
def node_block.loops : Nat → LInfo
  | 1 => ⟨[], [], [], [(3, none), (2, some [5, 7])], []⟩
  | _ => ⟨[], [], [], [], []⟩
def node_block.H (c : Ctx) (t0 : AV) (h : List AObj) (K : AOut → List AObj → Prop) : Prop :=
  runD (binD T_int .geq t0 (.int .i64 0)) h fun t4 h =>
  joinW (fun (J1 : AV → AV → List AObj → Prop) =>
  guardW t4 true
  (runD (binD T_int .lss t0 (.int .i64 256)) h fun t7 h =>
    J1 (.bool true) t7 h)
  (J1 (.bool false) .und h))
  (fun t5 t7 h => runD (pickD t5 t7 (.bool false)) h fun t8 h =>
  K (.ret t8) h)
def node_Check_1.loops : Nat → LInfo
  | 1 => ⟨[], [], [], [(3, none), (3, some [5, 8])], []⟩
  | _ => ⟨[], [], [], [], []⟩
def node_Check_1.H (c : Ctx) (t0 : AV) (h : List AObj) (K : AOut → List AObj → Prop) : Prop :=
  runD (binD T_int .eql t0 (.int .i64 0)) h fun t4 h =>
  joinW (fun (J1 : AV → AV → List AObj → Prop) =>
  guardW t4 false
  (callW c (.fn (.func 79) [] []) [t0] h (fun t7 h =>
    runD (unD .not t7) h fun t8 h =>
    J1 (.bool false) t8 h)
    (fun v h => K (.pan v) h))
  (J1 (.bool true) .und h))
  (fun t5 t8 h => runD (pickD t5 (.bool true) t8) h fun t9 h =>
  K (.ret t9) h)
theorem node_Words.eq (F : List (FuncId × Contract)) (S : List (FuncId × Con)) (t0 : AV) (h : List AObj) (K : AOut → List AObj → Prop) : funW (ctx F S node_Words.loops) Try.f25 [t0] h K = node_Words.H (ctx F S node_Words.loops) t0 h K := by kernel_rfl
theorem node_Read.eq (F : List (FuncId × Contract)) (S : List (FuncId × Con)) (t0 t1 : AV) (h : List AObj) (K : AOut → List AObj → Prop) : funW (ctx F S node_Read.loops) Try.f27 [t0, t1] h K = node_Read.H (ctx F S node_Read.loops) t0 t1 h K := by kernel_rfl
theorem node_Next.eq (F : List (FuncId × Contract)) (S : List (FuncId × Con)) (t0 t1 : AV) (h : List AObj) (K : AOut → List AObj → Prop) : funW (ctx F S node_Next.loops) Try.f29 [t0, t1] h K = node_Next.H (ctx F S node_Next.loops) t0 t1 h K := by kernel_rfl
theorem node_Check.eq (F : List (FuncId × Contract)) (S : List (FuncId × Con)) (t0 : AV) (h : List AObj) (K : AOut → List AObj → Prop) : funW (ctx F S node_Check.loops) Try.f32 [t0] h K = node_Check.H (ctx F S node_Check.loops) t0 h K := by kernel_rfl
theorem node_Turn.eq (F : List (FuncId × Contract)) (S : List (FuncId × Con)) (t0 t1 t2 : AV) (h : List AObj) (K : AOut → List AObj → Prop) : funW (ctx F S node_Turn.loops) Try.f34 [t0, t1, t2] h K = node_Turn.H (ctx F S node_Turn.loops) t0 t1 t2 h K := by kernel_rfl
theorem node_first.eq (F : List (FuncId × Contract)) (S : List (FuncId × Con)) (t0 : AV) (h : List AObj) (K : AOut → List AObj → Prop) : funW (ctx F S node_first.loops) Try.f76 [t0] h K = node_first.H (ctx F S node_first.loops) t0 h K := by kernel_rfl
theorem node_block.eq (F : List (FuncId × Contract)) (S : List (FuncId × Con)) (t0 : AV) (h : List AObj) (K : AOut → List AObj → Prop) : funW (ctx F S node_block.loops) Try.f79 [t0] h K = node_block.H (ctx F S node_block.loops) t0 h K := by kernel_rfl
theorem node_Check_1.eq (F : List (FuncId × Contract)) (S : List (FuncId × Con)) (t0 : AV) (h : List AObj) (K : AOut → List AObj → Prop) : funW (ctx F S node_Check_1.loops) Try.f82 [t0] h K = node_Check_1.H (ctx F S node_Check_1.loops) t0 h K := by kernel_rfl
theorem node_Words.at : Try.prog.funcs[25]? = some Try.f25 := by kernel_rfl
theorem node_Words.nm : (Try.f25.name == "runtime.NumGoroutine") = false := by kernel_rfl
theorem node_Words.bd : Try.f25.body.isNone = false := by kernel_rfl
theorem node_Read.at : Try.prog.funcs[27]? = some Try.f27 := by kernel_rfl
theorem node_Read.nm : (Try.f27.name == "runtime.NumGoroutine") = false := by kernel_rfl
theorem node_Read.bd : Try.f27.body.isNone = false := by kernel_rfl
theorem node_Next.at : Try.prog.funcs[29]? = some Try.f29 := by kernel_rfl
theorem node_Next.nm : (Try.f29.name == "runtime.NumGoroutine") = false := by kernel_rfl
theorem node_Next.bd : Try.f29.body.isNone = false := by kernel_rfl
theorem node_Check.at : Try.prog.funcs[32]? = some Try.f32 := by kernel_rfl
theorem node_Check.nm : (Try.f32.name == "runtime.NumGoroutine") = false := by kernel_rfl
theorem node_Check.bd : Try.f32.body.isNone = false := by kernel_rfl
theorem node_Turn.at : Try.prog.funcs[34]? = some Try.f34 := by kernel_rfl
theorem node_Turn.nm : (Try.f34.name == "runtime.NumGoroutine") = false := by kernel_rfl
theorem node_Turn.bd : Try.f34.body.isNone = false := by kernel_rfl
theorem node_first.at : Try.prog.funcs[76]? = some Try.f76 := by kernel_rfl
theorem node_first.nm : (Try.f76.name == "runtime.NumGoroutine") = false := by kernel_rfl
theorem node_first.bd : Try.f76.body.isNone = false := by kernel_rfl
theorem node_block.at : Try.prog.funcs[79]? = some Try.f79 := by kernel_rfl
theorem node_block.nm : (Try.f79.name == "runtime.NumGoroutine") = false := by kernel_rfl
theorem node_block.bd : Try.f79.body.isNone = false := by kernel_rfl
theorem node_Check_1.at : Try.prog.funcs[82]? = some Try.f82 := by kernel_rfl
theorem node_Check_1.nm : (Try.f82.name == "runtime.NumGoroutine") = false := by kernel_rfl
theorem node_Check_1.bd : Try.f82.body.isNone = false := by kernel_rfl
end Lam
namespace Lam
open Go Go.Proofs
set_option linter.unusedVariables false
def pmem_New.loops : Nat → LInfo
  | _ => ⟨[], [], [], [], []⟩
def pmem_New.H (c : Ctx) (t0 : AV) (h : List AObj) (K : AOut → List AObj → Prop) : Prop :=
  allocW T_api_Mem h fun t2 h =>
  runD (lenD T_sl_int h t0) h fun t5 h =>
  callW c (.fn (.func 123) [] []) [t5] h (fun t6 h =>
  runD (unD .not t6) h fun t7 h =>
  condW t7
  (runD (buildD T_api_Mem []) h fun t8 h =>
    runH (storeH T_api_Mem h t2 t8) h fun _ h =>
    loadRes (fitD T_api_Mem (loadD h t2)) fun r0 => K (.ret (.tup [r0, (.int .i64 40)])) h)
  (callW c (.fn (.func 92) [] []) [t0] h (fun t10 h =>
  callW c (.fn (.func 92) [] []) [t0] h (fun t12 h =>
  runD (buildD T_api_Mem [(0, t10), (1, t12)]) h fun t13 h =>
  runH (storeH T_api_Mem h t2 t13) h fun _ h =>
  loadRes (fitD T_api_Mem (loadD h t2)) fun r0 => K (.ret (.tup [r0, (.int .i64 0)])) h)
  (fun v h => K (.pan v) h))
  (fun v h => K (.pan v) h)))
  (fun v h => K (.pan v) h)
def pmem_Crash.loops : Nat → LInfo
  | 5 => ⟨[15], [false], [2, 6, 13, 14], [], []⟩
  | _ => ⟨[], [], [], [], []⟩
def pmem_Crash.L1 (c : Ctx) (J1 : AV → AV → List AObj → Prop) (K : AOut → List AObj → Prop) (lv : List AV) (h0 : List AObj) (n0 : Nat) (c2 : AV) (c6 : AV) (c13 : AV) (c14 : AV) : Prop :=
  ∃ I : Nat → List AV → List AObj → Prop, (∃ n, I n lv h0) ∧ ∀ n h, ∀ t15, I n [t15] h →
    runD (binD T_int .lss t15 c14) h fun t16 h =>
    condW t16
    (runD (indexAddrD T_sl_int h c13 t15) h fun t18 h =>
    runD (fitD T_int (loadD h t18)) h fun t19 h =>
    runD (fitD T_map_int_int (loadD h c6)) h fun t20 h =>
    runH (mapSetH T_map_int_int h t20 t15 t19) h fun _ h =>
    runD (binD T_int .add t15 (.int .i64 1)) h fun t23 h =>
    (∃ m, m < n ∧ I m (AV.norms n0 h [t23]) (normH n0 h)) ∧ AV.norms n0 h [c2, c6, c13, c14] = [c2, c6, c13, c14])
    (J1 c2 c6 h)
def pmem_Crash.H (c : Ctx) (t0 : AV) (t1 : AV) (h : List AObj) (K : AOut → List AObj → Prop) : Prop :=
  boxW T_api_Mem t0 h fun t2 h =>
  runD (fitD T_api_Mem (loadD h t2)) h fun t9 h =>
  callW c (.fn (.func 124) [] []) [t9] h (fun t10 h =>
  runD (unD .not t10) h fun t11 h =>
  condW t11
  (K (.ret (.tup [(.sl true (.ints .i64 [])), (.int .i64 40)])) h)
  (runD (makeMapD T_map_int_int h.length) h fun t12 h =>
  allocW T_map_int_int h fun t6 h =>
  runH (storeH T_map_int_int h t6 t12) h fun _ h =>
  runD (lenD T_sl_int h t1) h fun t14 h =>
  joinW (fun (J1 : AV → AV → List AObj → Prop) =>
  promV [false] [(.int .i64 0)] h fun lv h => pmem_Crash.L1 c J1 K (AV.norms h.length h lv) (normH h.length h) h.length (AV.norm h.length h t2) (AV.norm h.length h t6) (AV.norm h.length h t1) (AV.norm h.length h t14))
  (fun t2 t6 h => runD (fitD T_api_Mem (loadD h t2)) h fun t24 h =>
  callW c (.fn (.func 129) [] []) [t24, (.fn (.func 130) [] [t6])] h (fun t26 h =>
  runD (fieldD T_api_Mem t26 1) h fun t27 h =>
  K (.ret (.tup [t27, (.int .i64 0)])) h)
  (fun v h => K (.pan v) h))))
  (fun v h => K (.pan v) h)
def pmem_sized.loops : Nat → LInfo
  | 1 => ⟨[], [], [], [(3, none), (3, some [5, 8])], []⟩
  | _ => ⟨[], [], [], [], []⟩
def pmem_sized.H (c : Ctx) (t0 : AV) (h : List AObj) (K : AOut → List AObj → Prop) : Prop :=
  runD (binD T_int .leq t0 (.int .i64 4096)) h fun t4 h =>
  joinW (fun (J1 : AV → AV → List AObj → Prop) =>
  guardW t4 true
  (runD (binD T_int .rem t0 (.int .i64 8)) h fun t7 h =>
    runD (binD T_int .eql t7 (.int .i64 0)) h fun t8 h =>
    J1 (.bool true) t8 h)
  (J1 (.bool false) .und h))
  (fun t5 t8 h => runD (pickD t5 t8 (.bool false)) h fun t9 h =>
  K (.ret t9) h)
def pmem_Check.loops : Nat → LInfo
  | 1 => ⟨[], [], [], [(8, none), (5, some [14, 19])], []⟩
  | 6 => ⟨[28], [false], [1, 3, 4, 26, 27], [], []⟩
  | 8 => ⟨[], [], [], [(4, none), (5, some [35, 40]), (2, none), (9, some [42, 51])], []⟩
  | 10 => ⟨[], [], [], [(10, none), (3, some [62, 65])], []⟩
  | _ => ⟨[], [], [], [], []⟩
def pmem_Check.L1 (c : Ctx) (J2 : AV → AV → List AObj → Prop) (K : AOut → List AObj → Prop) (lv : List AV) (h0 : List AObj) (n0 : Nat) (c1 : AV) (c3 : AV) (c4 : AV) (c26 : AV) (c27 : AV) : Prop :=
  ∃ I : Nat → List AV → List AObj → Prop, (∃ n, I n lv h0) ∧ ∀ n h, ∀ t28, I n [t28] h →
    runD (binD T_int .lss t28 c27) h fun t29 h =>
    condW t29
    (runD (indexAddrD T_sl_api_Pending h c26 t28) h fun t30 h =>
    runD (fitD T_api_Pending (loadD h t30)) h fun t31 h =>
    allocW T_api_Pending h fun t6 h =>
    runH (storeH T_api_Pending h t6 t31) h fun _ h =>
    runD (fieldAddrD T_api_Pending t6 0) h fun t32 h =>
    runD (fitD T_int (loadD h t32)) h fun t33 h =>
    runD (binD T_int .lss t33 (.int .i64 0)) h fun t34 h =>
    joinW (fun (J3 : AV → AV → List AObj → Prop) =>
    guardW t34 false
    (runD (fieldAddrD T_api_Pending t6 0) h fun t36 h =>
      runD (fitD T_int (loadD h t36)) h fun t37 h =>
      runD (lenD T_sl_int h c3) h fun t39 h =>
      runD (binD T_int .geq t37 t39) h fun t40 h =>
      J3 (.bool false) t40 h)
    (J3 (.bool true) .und h))
    (fun t35 t40 h => runD (pickD t35 (.bool true) t40) h fun t41 h =>
    joinW (fun (J4 : AV → AV → List AObj → Prop) =>
    guardW t41 false
    (runD (fieldAddrD T_api_Pending t6 2) h fun t43 h =>
      runD (fitD T_bool (loadD h t43)) h fun t44 h =>
      joinW (fun (J5 : AV → AV → List AObj → Prop) =>
      guardW t44 true
      (runD (fieldAddrD T_api_Pending t6 0) h fun t47 h =>
        runD (fitD T_int (loadD h t47)) h fun t48 h =>
        runD (binD T_int .quo t48 (.int .i64 8)) h fun t49 h =>
        runD (lookupD T_map_int_bool h c4 t49) h fun t50 h =>
        J5 (.bool true) t50 h)
      (J5 (.bool false) .und h))
      (fun t45 t50 h => runD (pickD t45 t50 (.bool false)) h fun t51 h =>
      J4 (.bool false) t51 h))
    (J4 (.bool true) .und h))
    (fun t42 t51 h => runD (pickD t42 (.bool true) t51) h fun t52 h =>
    condW t52
    (K (.ret (.bool false)) h)
    (runD (fieldAddrD T_api_Pending t6 0) h fun t54 h =>
    runD (fitD T_int (loadD h t54)) h fun t55 h =>
    runD (binD T_int .quo t55 (.int .i64 8)) h fun t56 h =>
    runD (fieldAddrD T_api_Pending t6 0) h fun t58 h =>
    runD (fitD T_int (loadD h t58)) h fun t59 h =>
    runD (binD T_int .quo t59 (.int .i64 8)) h fun t60 h =>
    runD (lookupD T_map_int_bool h c4 t60) h fun t61 h =>
    joinW (fun (J6 : AV → AV → List AObj → Prop) =>
    guardW t61 false
    (runD (fieldAddrD T_api_Pending t6 2) h fun t63 h =>
      runD (fitD T_bool (loadD h t63)) h fun t64 h =>
      runD (unD .not t64) h fun t65 h =>
      J6 (.bool false) t65 h)
    (J6 (.bool true) .und h))
    (fun t62 t65 h => runD (pickD t62 (.bool true) t65) h fun t66 h =>
    runH (mapSetH T_map_int_bool h c4 t56 t66) h fun _ h =>
    runD (fieldAddrD T_api_Pending t6 0) h fun t68 h =>
    runD (fitD T_int (loadD h t68)) h fun t69 h =>
    runD (fieldAddrD T_api_Pending t6 1) h fun t70 h =>
    runD (fitD T_int (loadD h t70)) h fun t71 h =>
    runD (indexAddrD T_sl_int h c3 t69) h fun t72 h =>
    runH (storeH T_int h t72 t71) h fun _ h =>
    runD (binD T_int .add t28 (.int .i64 1)) h fun t73 h =>
    (∃ m, m < n ∧ I m (AV.norms n0 h [t73]) (normH n0 h)) ∧ AV.norms n0 h [c1, c3, c4, c26, c27] = [c1, c3, c4, c26, c27])))))
    (J2 c1 c3 h)
def pmem_Check.H (c : Ctx) (t0 : AV) (h : List AObj) (K : AOut → List AObj → Prop) : Prop :=
  boxW T_api_Mem t0 h fun t1 h =>
  runD (fieldAddrD T_api_Mem t1 0) h fun t7 h =>
  runD (fitD T_sl_int (loadD h t7)) h fun t8 h =>
  runD (lenD T_sl_int h t8) h fun t9 h =>
  runD (fieldAddrD T_api_Mem t1 1) h fun t10 h =>
  runD (fitD T_sl_int (loadD h t10)) h fun t11 h =>
  runD (lenD T_sl_int h t11) h fun t12 h =>
  runD (binD T_int .neq t9 t12) h fun t13 h =>
  joinW (fun (J1 : AV → AV → List AObj → Prop) =>
  guardW t13 false
  (runD (fieldAddrD T_api_Mem t1 0) h fun t15 h =>
    runD (fitD T_sl_int (loadD h t15)) h fun t16 h =>
    runD (lenD T_sl_int h t16) h fun t17 h =>
    callW c (.fn (.func 123) [] []) [t17] h (fun t18 h =>
    runD (unD .not t18) h fun t19 h =>
    J1 (.bool false) t19 h)
    (fun v h => K (.pan v) h))
  (J1 (.bool true) .und h))
  (fun t14 t19 h => runD (pickD t14 (.bool true) t19) h fun t20 h =>
  condW t20
  (K (.ret (.bool false)) h)
  (runD (fieldAddrD T_api_Mem t1 1) h fun t21 h =>
  runD (fitD T_sl_int (loadD h t21)) h fun t22 h =>
  callW c (.fn (.func 92) [] []) [t22] h (fun t23 h =>
  runD (makeMapD T_map_int_bool h.length) h fun t24 h =>
  runD (fieldAddrD T_api_Mem t1 2) h fun t25 h =>
  runD (fitD T_sl_api_Pending (loadD h t25)) h fun t26 h =>
  runD (lenD T_sl_api_Pending h t26) h fun t27 h =>
  joinW (fun (J2 : AV → AV → List AObj → Prop) =>
  promV [false] [(.int .i64 0)] h fun lv h => pmem_Check.L1 c J2 K (AV.norms h.length h lv) (normH h.length h) h.length (AV.norm h.length h t1) (AV.norm h.length h t23) (AV.norm h.length h t24) (AV.norm h.length h t26) (AV.norm h.length h t27))
  (fun t1 t3 h => runD (fieldAddrD T_api_Mem t1 0) h fun t75 h =>
  runD (fitD T_sl_int (loadD h t75)) h fun t76 h =>
  callW c (.fn (.func 78) [] []) [t3, t76] h (fun t77 h =>
  K (.ret t77) h)
  (fun v h => K (.pan v) h)))
  (fun v h => K (.pan v) h)))
def pmem_keep.loops : Nat → LInfo
  | 3 => ⟨[17], [false], [1, 4, 5, 15, 16], [], [5]⟩
  | _ => ⟨[], [], [], [], []⟩
def pmem_keep.L1 (c : Ctx) (J1 : AV → AV → List AObj → Prop) (K : AOut → List AObj → Prop) (lv : List AV) (h0 : List AObj) (n0 : Nat) (c1 : AV) (c4 : AV) (c5 : AV) (c15 : AV) (c16 : AV) : Prop :=
  ∃ I : Nat → List AV → List AObj → Prop, (∃ n, I n lv h0) ∧ ∀ n h, ∀ t17, I n [t17] h →
    runD (binD T_int .lss t17 c16) h fun t18 h =>
    condW t18
    (joinW (fun (J2 : List AObj → Prop) =>
    runD (indexAddrD T_sl_api_Pending h c15 t17) h fun t19 h =>
    runD (fitD T_api_Pending (loadD h t19)) h fun t20 h =>
    allocW T_api_Pending h fun t7 h =>
    runH (storeH T_api_Pending h t7 t20) h fun _ h =>
    runD (fitD T_api_Pending (loadD h t7)) h fun t22 h =>
    callW c c1 [t22] h (fun t23 h =>
    condW t23
    (runD (fieldAddrD T_api_Mem c5 1) h fun t24 h =>
      runD (fitD T_sl_int (loadD h t24)) h fun t25 h =>
      runD (fieldAddrD T_api_Pending t7 0) h fun t26 h =>
      runD (fitD T_int (loadD h t26)) h fun t27 h =>
      runD (fieldAddrD T_api_Pending t7 1) h fun t28 h =>
      runD (fitD T_int (loadD h t28)) h fun t29 h =>
      runD (indexAddrD T_sl_int h t25 t27) h fun t30 h =>
      runH (storeH T_int h t30 t29) h fun _ h =>
      J2 h)
    (runD (fieldAddrD T_api_Mem c5 2) h fun t31 h =>
    runD (fitD T_sl_api_Pending (loadD h t31)) h fun t32 h =>
    runD (fitD T_api_Pending (loadD h t7)) h fun t33 h =>
    runD (buildSliceD T_sl_api_Pending 1 [(0, t33)] h.length) h fun t34 h =>
    runDM (appendD T_sl_api_Pending h t32 t34 h.length) (appendH T_sl_api_Pending h t32 t34) h fun t35 h =>
    runD (fieldAddrD T_api_Mem c5 2) h fun t36 h =>
    runH (storeH T_sl_api_Pending h t36 t35) h fun _ h =>
    J2 h))
    (fun v h => K (.pan v) h))
    (fun h => runD (binD T_int .add t17 (.int .i64 1)) h fun t37 h =>
    (∃ m, m < n ∧ I m (AV.norms n0 h [t37]) (normH n0 h)) ∧ AV.norms n0 h [c1, c4, c5, c15, c16] = [c1, c4, c5, c15, c16]))
    (J1 c4 c5 h)
def pmem_keep.H (c : Ctx) (t0 : AV) (t1 : AV) (h : List AObj) (K : AOut → List AObj → Prop) : Prop :=
  boxW T_api_Mem t0 h fun t2 h =>
  allocW T_api_Mem h fun t4 h =>
  runD (fieldAddrD T_api_Mem t2 0) h fun t8 h =>
  runD (fitD T_sl_int (loadD h t8)) h fun t9 h =>
  runD (fieldAddrD T_api_Mem t2 1) h fun t10 h =>
  runD (fitD T_sl_int (loadD h t10)) h fun t11 h =>
  callW c.noS (.fn (.func 92) [] []) [t11] h (fun t12 h =>
  runD (buildD T_api_Mem [(0, t9), (1, t12)]) h fun t13 h =>
  allocW T_api_Mem h fun t5 h =>
  runH (storeH T_api_Mem h t5 t13) h fun _ h =>
  runD (fieldAddrD T_api_Mem t2 2) h fun t14 h =>
  runD (fitD T_sl_api_Pending (loadD h t14)) h fun t15 h =>
  runD (lenD T_sl_api_Pending h t15) h fun t16 h =>
  joinW (fun (J1 : AV → AV → List AObj → Prop) =>
  promV [false] [(.int .i64 0)] (boxH [t5] h) fun lv h => pmem_keep.L1 c J1 K (AV.norms h.length h lv) (normH h.length h) h.length (AV.norm h.length h t1) (AV.norm h.length h t4) (AV.norm h.length h t5) (AV.norm h.length h t15) (AV.norm h.length h t16))
  (fun t4 t5 h => runD (fitD T_api_Mem (loadD h t5)) h fun t38 h =>
  runH (storeH T_api_Mem h t4 t38) h fun _ h =>
  loadRes (fitD T_api_Mem (loadD h t4)) fun r0 => K (.ret r0) h))
  (fun _ _ => False)
def pmem_Crash_1.loops : Nat → LInfo
  | _ => ⟨[], [], [], [], []⟩
def pmem_Crash_1.H (c : Ctx) (t0 : AV) (t1 : AV) (h : List AObj) (K : AOut → List AObj → Prop) : Prop :=
  boxW T_api_Pending t0 h fun t2 h =>
  runD (fitD T_map_int_int (loadD h t1)) h fun t5 h =>
  runD (fieldAddrD T_api_Pending t2 0) h fun t6 h =>
  runD (fitD T_int (loadD h t6)) h fun t7 h =>
  runD (binD T_int .quo t7 (.int .i64 8)) h fun t8 h =>
  runD (lookupD T_map_int_int h t5 t8) h fun t9 h =>
  runD (fitD T_map_int_int (loadD h t1)) h fun t10 h =>
  runD (fieldAddrD T_api_Pending t2 0) h fun t11 h =>
  runD (fitD T_int (loadD h t11)) h fun t12 h =>
  runD (binD T_int .quo t12 (.int .i64 8)) h fun t13 h =>
  runD (maxD t9 (.int .i64 1)) h fun t15 h =>
  runD (binD T_int .sub t15 (.int .i64 1)) h fun t16 h =>
  runH (mapSetH T_map_int_int h t10 t13 t16) h fun _ h =>
  runD (binD T_int .gtr t9 (.int .i64 0)) h fun t18 h =>
  K (.ret t18) h
def pmem_Put.loops : Nat → LInfo
  | _ => ⟨[], [], [], [], []⟩
def pmem_Put.H (c : Ctx) (t0 : AV) (t1 : AV) (t2 : AV) (h : List AObj) (K : AOut → List AObj → Prop) : Prop :=
  boxW T_api_Mem t0 h fun t3 h =>
  allocW T_api_Mem h fun t6 h =>
  runD (fitD T_api_Mem (loadD h t3)) h fun t9 h =>
  callW c (.fn (.func 145) [] []) [t9, t1] h (fun t11 h =>
  runD (unD .not t11) h fun t12 h =>
  condW t12
  (runD (fitD T_api_Mem (loadD h t3)) h fun t13 h =>
    runH (storeH T_api_Mem h t6 t13) h fun _ h =>
    loadRes (fitD T_api_Mem (loadD h t6)) fun r0 => K (.ret (.tup [r0, (.int .i64 40)])) h)
  (runD (fieldAddrD T_api_Mem t3 0) h fun t14 h =>
  runD (fitD T_sl_int (loadD h t14)) h fun t15 h =>
  runD (lenD T_sl_int h t15) h fun t16 h =>
  runD (makeSliceD T_sl_int t16 t16 h.length) h fun t17 h =>
  runD (fieldAddrD T_api_Mem t3 0) h fun t19 h =>
  runD (fitD T_sl_int (loadD h t19)) h fun t20 h =>
  runM (copyH T_sl_int h t17 t20) h fun t21 h =>
  runD (indexAddrD T_sl_int h t17 t1) h fun t25 h =>
  runH (storeH T_int h t25 t2) h fun _ h =>
  runD (fieldAddrD T_api_Mem t3 1) h fun t27 h =>
  runD (fitD T_sl_int (loadD h t27)) h fun t28 h =>
  runD (fieldAddrD T_api_Mem t3 2) h fun t29 h =>
  runD (fitD T_sl_api_Pending (loadD h t29)) h fun t30 h =>
  callW c.noS (.fn (.func 146) [] []) [t30] h (fun t31 h =>
  runD (buildD T_api_Pending [(0, t1), (1, t2)]) h fun t34 h =>
  runD (buildSliceD T_sl_api_Pending 1 [(0, t34)] h.length) h fun t35 h =>
  runDM (appendD T_sl_api_Pending h t31 t35 h.length) (appendH T_sl_api_Pending h t31 t35) h fun t36 h =>
  runD (buildD T_api_Mem [(0, t17), (1, t28), (2, t36)]) h fun t37 h =>
  runH (storeH T_api_Mem h t6 t37) h fun _ h =>
  sepB t31 [t27] = true ∧ loadRes (fitD T_api_Mem (loadD h t6)) fun r0 => K (.ret (.tup [r0, (.int .i64 0)])) h)
  (fun _ _ => False)))
  (fun v h => K (.pan v) h)
def pmem_Flush.loops : Nat → LInfo
  | _ => ⟨[], [], [], [], []⟩
def pmem_Flush.H (c : Ctx) (t0 : AV) (t1 : AV) (h : List AObj) (K : AOut → List AObj → Prop) : Prop :=
  boxW T_api_Mem t0 h fun t2 h =>
  allocW T_api_Mem h fun t4 h =>
  runD (fitD T_api_Mem (loadD h t2)) h fun t8 h =>
  runD (fitD T_api_Mem (loadD h t2)) h fun t9 h =>
  callW c.noS (.fn (.func 147) [] []) [t9, t1] h (fun t11 h =>
  callW c.noS (.fn (.func 145) [] []) [t8, t11] h (fun t12 h =>
  runD (unD .not t12) h fun t13 h =>
  condW t13
  (runD (fitD T_api_Mem (loadD h t2)) h fun t14 h =>
    runH (storeH T_api_Mem h t4 t14) h fun _ h =>
    loadRes (fitD T_api_Mem (loadD h t4)) fun r0 => K (.ret (.tup [r0, (.int .i64 40)])) h)
  (runD (fieldAddrD T_api_Mem t2 2) h fun t15 h =>
  runD (fitD T_sl_api_Pending (loadD h t15)) h fun t16 h =>
  callW c (.fn (.func 148) [] []) [t16] h (fun t17 h =>
  allocW T_sl_api_Pending h fun t6 h =>
  runH (storeH T_sl_api_Pending h t6 t17) h fun _ h =>
  runD (fitD T_api_Mem (loadD h t2)) h fun t18 h =>
  callW c (.fn (.func 149) [] []) [t18, t1] h (fun t20 h =>
  joinW (fun (J1 : AV → AV → AV → List AObj → Prop) =>
  rangeX c.iterS t20 h
  (fun id r args h K => lpIs h id .ready r ∧ argX1 args fun t21 =>
  lpIs h id .ready r ∧
  runD (fitD T_sl_api_Pending (loadD (List.set h id (.lp .busy none r)) t6)) (List.set h id (.lp .busy none r)) fun t22 h =>
  runD (indexAddrD T_sl_api_Pending h t22 t21) h fun t24 h =>
  runD (fieldAddrD T_api_Pending t24 2) h fun t25 h =>
  runH (storeH T_bool h t25 (.bool true)) h fun _ h =>
  lpIs h id .busy r ∧ K (.ret (.bool true)) (List.set h id (.lp .ready none r)))
  (fun id r ao h => endX id r ao h
  (fun h => J1 t2 t4 t6 h)
  (fun h => loadRes (fitD T_api_Mem (loadD h t4)) fun r0 => K (.ret (.tup [r0, (.int .i64 0)])) h)
  (fun i h => exitW i 0 (J1 t2 t4 t6 h) (False))
  (fun l h => False)
  (fun v h => K (.pan v) h)))
  (fun t2 t4 t6 h => runD (fitD T_sl_api_Pending (loadD h t6)) h fun t26 h =>
  runD (fieldAddrD T_api_Mem t2 2) h fun t27 h =>
  runH (storeH T_sl_api_Pending h t27 t26) h fun _ h =>
  runD (fitD T_api_Mem (loadD h t2)) h fun t28 h =>
  runH (storeH T_api_Mem h t4 t28) h fun _ h =>
  loadRes (fitD T_api_Mem (loadD h t4)) fun r0 => K (.ret (.tup [r0, (.int .i64 0)])) h))
  (fun v h => K (.pan v) h))
  (fun v h => K (.pan v) h)))
  (fun _ _ => False))
  (fun _ _ => False)
def pmem_Fence.loops : Nat → LInfo
  | _ => ⟨[], [], [], [], []⟩
def pmem_Fence.H (c : Ctx) (t0 : AV) (h : List AObj) (K : AOut → List AObj → Prop) : Prop :=
  boxW T_api_Mem t0 h fun t1 h =>
  allocW T_api_Mem h fun t2 h =>
  runD (fitD T_api_Mem (loadD h t1)) h fun t4 h =>
  callW c (.fn (.func 124) [] []) [t4] h (fun t5 h =>
  runD (unD .not t5) h fun t6 h =>
  condW t6
  (runD (fitD T_api_Mem (loadD h t1)) h fun t7 h =>
    runH (storeH T_api_Mem h t2 t7) h fun _ h =>
    loadRes (fitD T_api_Mem (loadD h t2)) fun r0 => K (.ret (.tup [r0, (.int .i64 40)])) h)
  (runD (fitD T_api_Mem (loadD h t1)) h fun t8 h =>
  callW c (.fn (.func 129) [] []) [t8, (.fn (.func 150) [] [])] h (fun t9 h =>
  runH (storeH T_api_Mem h t2 t9) h fun _ h =>
  loadRes (fitD T_api_Mem (loadD h t2)) fun r0 => K (.ret (.tup [r0, (.int .i64 0)])) h)
  (fun v h => K (.pan v) h)))
  (fun v h => K (.pan v) h)
def pmem_place.loops : Nat → LInfo
  | 1 => ⟨[], [], [], [(3, none), (5, some [7, 12]), (2, none), (2, some [14, 16])], []⟩
  | _ => ⟨[], [], [], [], []⟩
def pmem_place.H (c : Ctx) (t0 : AV) (t1 : AV) (h : List AObj) (K : AOut → List AObj → Prop) : Prop :=
  boxW T_api_Mem t0 h fun t2 h =>
  runD (binD T_int .geq t1 (.int .i64 0)) h fun t6 h =>
  joinW (fun (J1 : AV → AV → List AObj → Prop) =>
  guardW t6 true
  (runD (fieldAddrD T_api_Mem t2 0) h fun t9 h =>
    runD (fitD T_sl_int (loadD h t9)) h fun t10 h =>
    runD (lenD T_sl_int h t10) h fun t11 h =>
    runD (binD T_int .lss t1 t11) h fun t12 h =>
    J1 (.bool true) t12 h)
  (J1 (.bool false) .und h))
  (fun t7 t12 h => runD (pickD t7 t12 (.bool false)) h fun t13 h =>
  joinW (fun (J2 : AV → AV → List AObj → Prop) =>
  guardW t13 true
  (runD (fitD T_api_Mem (loadD h t2)) h fun t15 h =>
    callW c (.fn (.func 124) [] []) [t15] h (fun t16 h =>
    J2 (.bool true) t16 h)
    (fun v h => K (.pan v) h))
  (J2 (.bool false) .und h))
  (fun t14 t16 h => runD (pickD t14 t16 (.bool false)) h fun t17 h =>
  K (.ret t17) h))
def pmem_first.loops : Nat → LInfo
  | 1 => ⟨[], [], [], [(3, none), (6, some [7, 13])], []⟩
  | _ => ⟨[], [], [], [], []⟩
def pmem_first.H (c : Ctx) (t0 : AV) (t1 : AV) (h : List AObj) (K : AOut → List AObj → Prop) : Prop :=
  boxW T_api_Mem t0 h fun t2 h =>
  runD (binD T_int .lss t1 (.int .i64 0)) h fun t6 h =>
  joinW (fun (J1 : AV → AV → List AObj → Prop) =>
  guardW t6 false
  (runD (fieldAddrD T_api_Mem t2 0) h fun t9 h =>
    runD (fitD T_sl_int (loadD h t9)) h fun t10 h =>
    runD (lenD T_sl_int h t10) h fun t11 h =>
    runD (binD T_int .quo t11 (.int .i64 8)) h fun t12 h =>
    runD (binD T_int .geq t1 t12) h fun t13 h =>
    J1 (.bool false) t13 h)
  (J1 (.bool true) .und h))
  (fun t7 t13 h => runD (pickD t7 (.bool true) t13) h fun t14 h =>
  condW t14
  (K (.ret (.int .i64 (-1))) h)
  (runD (binD T_int .mul t1 (.int .i64 8)) h fun t16 h =>
  K (.ret t16) h))
def pmem_of.loops : Nat → LInfo
  | _ => ⟨[], [], [], [], []⟩
def pmem_of.H (c : Ctx) (t0 : AV) (t1 : AV) (h : List AObj) (K : AOut → List AObj → Prop) : Prop :=
  boxW T_api_Mem t0 h fun t2 h =>
  boxW T_int t1 h fun t3 h =>
  K (.ret (.fn (.func 151) [] [t2, t3])) h
def pmem_Fence_1.loops : Nat → LInfo
  | _ => ⟨[], [], [], [], []⟩
def pmem_Fence_1.H (c : Ctx) (t0 : AV) (h : List AObj) (K : AOut → List AObj → Prop) : Prop :=
  boxW T_api_Pending t0 h fun t1 h =>
  runD (fieldAddrD T_api_Pending t1 2) h fun t3 h =>
  runD (fitD T_bool (loadD h t3)) h fun t4 h =>
  K (.ret t4) h
def pmem_of_1.loops : Nat → LInfo
  | 1 => ⟨[9], [false], [0, 2, 7, 8], [], []⟩
  | 3 => ⟨[], [], [], [(6, none), (4, some [19, 23])], []⟩
  | _ => ⟨[], [], [], [], []⟩
def pmem_of_1.L1 (c : Ctx) (J1 : List AObj → Prop) (K : AOut → List AObj → Prop) (lv : List AV) (h0 : List AObj) (n0 : Nat) (c0 : AV) (c2 : AV) (c7 : AV) (c8 : AV) : Prop :=
  ∃ I : Nat → List AV → List AObj → Prop, (∃ n, I n lv h0) ∧ ∀ n h, ∀ t9, I n [t9] h →
    runD (binD T_int .lss t9 c8) h fun t10 h =>
    condW t10
    (runD (indexAddrD T_sl_api_Pending h c7 t9) h fun t12 h =>
    runD (fitD T_api_Pending (loadD h t12)) h fun t13 h =>
    allocW T_api_Pending h fun t5 h =>
    runH (storeH T_api_Pending h t5 t13) h fun _ h =>
    runD (fieldAddrD T_api_Pending t5 0) h fun t14 h =>
    runD (fitD T_int (loadD h t14)) h fun t15 h =>
    runD (binD T_int .quo t15 (.int .i64 8)) h fun t16 h =>
    runD (fitD T_int (loadD h c2)) h fun t17 h =>
    runD (binD T_int .eql t16 t17) h fun t18 h =>
    joinW (fun (J2 : AV → AV → List AObj → Prop) =>
    guardW t18 true
    (callW c c0 [t9] h (fun t22 h =>
      runD (unD .not t22) h fun t23 h =>
      J2 (.bool true) t23 h)
      (fun v h => K (.pan v) h))
    (J2 (.bool false) .und h))
    (fun t19 t23 h => runD (pickD t19 t23 (.bool false)) h fun t24 h =>
    condW t24
    (K (.ret (.tup [])) h)
    (runD (binD T_int .add t9 (.int .i64 1)) h fun t25 h =>
    (∃ m, m < n ∧ I m (AV.norms n0 h [t25]) (normH n0 h)) ∧ AV.norms n0 h [c0, c2, c7, c8] = [c0, c2, c7, c8])))
    (J1 h)
def pmem_of_1.H (c : Ctx) (t0 : AV) (t1 : AV) (t2 : AV) (h : List AObj) (K : AOut → List AObj → Prop) : Prop :=
  runD (fieldAddrD T_api_Mem t1 2) h fun t6 h =>
  runD (fitD T_sl_api_Pending (loadD h t6)) h fun t7 h =>
  runD (lenD T_sl_api_Pending h t7) h fun t8 h =>
  joinW (fun (J1 : List AObj → Prop) =>
  promV [false] [(.int .i64 0)] h fun lv h => pmem_of_1.L1 c J1 K (AV.norms h.length h lv) (normH h.length h) h.length (AV.norm h.length h t0) (AV.norm h.length h t2) (AV.norm h.length h t7) (AV.norm h.length h t8))
  (fun h => K (.ret (.tup [])) h)
theorem pmem_New.eq (F : List (FuncId × Contract)) (S : List (FuncId × Con)) (t0 : AV) (h : List AObj) (K : AOut → List AObj → Prop) : funW (ctx F S pmem_New.loops) Try.f103 [t0] h K = pmem_New.H (ctx F S pmem_New.loops) t0 h K := by kernel_rfl
theorem pmem_Crash.eq (F : List (FuncId × Contract)) (S : List (FuncId × Con)) (t0 t1 : AV) (h : List AObj) (K : AOut → List AObj → Prop) : funW (ctx F S pmem_Crash.loops) Try.f111 [t0, t1] h K = pmem_Crash.H (ctx F S pmem_Crash.loops) t0 t1 h K := by kernel_rfl
theorem pmem_sized.eq (F : List (FuncId × Contract)) (S : List (FuncId × Con)) (t0 : AV) (h : List AObj) (K : AOut → List AObj → Prop) : funW (ctx F S pmem_sized.loops) Try.f123 [t0] h K = pmem_sized.H (ctx F S pmem_sized.loops) t0 h K := by kernel_rfl
theorem pmem_Check.eq (F : List (FuncId × Contract)) (S : List (FuncId × Con)) (t0 : AV) (h : List AObj) (K : AOut → List AObj → Prop) : funW (ctx F S pmem_Check.loops) Try.f124 [t0] h K = pmem_Check.H (ctx F S pmem_Check.loops) t0 h K := by kernel_rfl
theorem pmem_keep.eq (F : List (FuncId × Contract)) (S : List (FuncId × Con)) (t0 t1 : AV) (h : List AObj) (K : AOut → List AObj → Prop) : funW (ctx F S pmem_keep.loops) Try.f129 [t0, t1] h K = pmem_keep.H (ctx F S pmem_keep.loops) t0 t1 h K := by kernel_rfl
theorem pmem_Crash_1.eq (F : List (FuncId × Contract)) (S : List (FuncId × Con)) (t0 t1 : AV) (h : List AObj) (K : AOut → List AObj → Prop) : funW (ctx F S pmem_Crash_1.loops) Try.f130 [t0, t1] h K = pmem_Crash_1.H (ctx F S pmem_Crash_1.loops) t0 t1 h K := by kernel_rfl
theorem pmem_Put.eq (F : List (FuncId × Contract)) (S : List (FuncId × Con)) (t0 t1 t2 : AV) (h : List AObj) (K : AOut → List AObj → Prop) : funW (ctx F S pmem_Put.loops) Try.f142 [t0, t1, t2] h K = pmem_Put.H (ctx F S pmem_Put.loops) t0 t1 t2 h K := by kernel_rfl
theorem pmem_Flush.eq (F : List (FuncId × Contract)) (S : List (FuncId × Con)) (Is : List (FuncId × (Con → Con))) (t0 t1 : AV) (h : List AObj) (K : AOut → List AObj → Prop) : funW (ctxI F S Is pmem_Flush.loops) Try.f143 [t0, t1] h K = pmem_Flush.H (ctxI F S Is pmem_Flush.loops) t0 t1 h K := by kernel_rfl
theorem pmem_Fence.eq (F : List (FuncId × Contract)) (S : List (FuncId × Con)) (t0 : AV) (h : List AObj) (K : AOut → List AObj → Prop) : funW (ctx F S pmem_Fence.loops) Try.f144 [t0] h K = pmem_Fence.H (ctx F S pmem_Fence.loops) t0 h K := by kernel_rfl
theorem pmem_place.eq (F : List (FuncId × Contract)) (S : List (FuncId × Con)) (t0 t1 : AV) (h : List AObj) (K : AOut → List AObj → Prop) : funW (ctx F S pmem_place.loops) Try.f145 [t0, t1] h K = pmem_place.H (ctx F S pmem_place.loops) t0 t1 h K := by kernel_rfl
theorem pmem_first.eq (F : List (FuncId × Contract)) (S : List (FuncId × Con)) (t0 t1 : AV) (h : List AObj) (K : AOut → List AObj → Prop) : funW (ctx F S pmem_first.loops) Try.f147 [t0, t1] h K = pmem_first.H (ctx F S pmem_first.loops) t0 t1 h K := by kernel_rfl
theorem pmem_of.eq (F : List (FuncId × Contract)) (S : List (FuncId × Con)) (t0 t1 : AV) (h : List AObj) (K : AOut → List AObj → Prop) : funW (ctx F S pmem_of.loops) Try.f149 [t0, t1] h K = pmem_of.H (ctx F S pmem_of.loops) t0 t1 h K := by kernel_rfl
theorem pmem_Fence_1.eq (F : List (FuncId × Contract)) (S : List (FuncId × Con)) (t0 : AV) (h : List AObj) (K : AOut → List AObj → Prop) : funW (ctx F S pmem_Fence_1.loops) Try.f150 [t0] h K = pmem_Fence_1.H (ctx F S pmem_Fence_1.loops) t0 h K := by kernel_rfl
theorem pmem_of_1.eq (F : List (FuncId × Contract)) (S : List (FuncId × Con)) (l : Nat) (Y : Con) (t0 t1 t2 : AV) (h : List AObj) (K : AOut → List AObj → Prop) : funW ((ctx F S pmem_of_1.loops).withY l Y) Try.f151 [t0, t1, t2] h K = pmem_of_1.H ((ctx F S pmem_of_1.loops).withY l Y) t0 t1 t2 h K := by kernel_rfl
theorem pmem_New.at : Try.prog.funcs[103]? = some Try.f103 := by kernel_rfl
theorem pmem_New.nm : (Try.f103.name == "runtime.NumGoroutine") = false := by kernel_rfl
theorem pmem_New.bd : Try.f103.body.isNone = false := by kernel_rfl
theorem pmem_Crash.at : Try.prog.funcs[111]? = some Try.f111 := by kernel_rfl
theorem pmem_Crash.nm : (Try.f111.name == "runtime.NumGoroutine") = false := by kernel_rfl
theorem pmem_Crash.bd : Try.f111.body.isNone = false := by kernel_rfl
theorem pmem_sized.at : Try.prog.funcs[123]? = some Try.f123 := by kernel_rfl
theorem pmem_sized.nm : (Try.f123.name == "runtime.NumGoroutine") = false := by kernel_rfl
theorem pmem_sized.bd : Try.f123.body.isNone = false := by kernel_rfl
theorem pmem_Check.at : Try.prog.funcs[124]? = some Try.f124 := by kernel_rfl
theorem pmem_Check.nm : (Try.f124.name == "runtime.NumGoroutine") = false := by kernel_rfl
theorem pmem_Check.bd : Try.f124.body.isNone = false := by kernel_rfl
theorem pmem_keep.at : Try.prog.funcs[129]? = some Try.f129 := by kernel_rfl
theorem pmem_keep.nm : (Try.f129.name == "runtime.NumGoroutine") = false := by kernel_rfl
theorem pmem_keep.bd : Try.f129.body.isNone = false := by kernel_rfl
theorem pmem_Crash_1.at : Try.prog.funcs[130]? = some Try.f130 := by kernel_rfl
theorem pmem_Crash_1.nm : (Try.f130.name == "runtime.NumGoroutine") = false := by kernel_rfl
theorem pmem_Crash_1.bd : Try.f130.body.isNone = false := by kernel_rfl
theorem pmem_Put.at : Try.prog.funcs[142]? = some Try.f142 := by kernel_rfl
theorem pmem_Put.nm : (Try.f142.name == "runtime.NumGoroutine") = false := by kernel_rfl
theorem pmem_Put.bd : Try.f142.body.isNone = false := by kernel_rfl
theorem pmem_Flush.at : Try.prog.funcs[143]? = some Try.f143 := by kernel_rfl
theorem pmem_Flush.nm : (Try.f143.name == "runtime.NumGoroutine") = false := by kernel_rfl
theorem pmem_Flush.bd : Try.f143.body.isNone = false := by kernel_rfl
theorem pmem_Fence.at : Try.prog.funcs[144]? = some Try.f144 := by kernel_rfl
theorem pmem_Fence.nm : (Try.f144.name == "runtime.NumGoroutine") = false := by kernel_rfl
theorem pmem_Fence.bd : Try.f144.body.isNone = false := by kernel_rfl
theorem pmem_place.at : Try.prog.funcs[145]? = some Try.f145 := by kernel_rfl
theorem pmem_place.nm : (Try.f145.name == "runtime.NumGoroutine") = false := by kernel_rfl
theorem pmem_place.bd : Try.f145.body.isNone = false := by kernel_rfl
theorem pmem_first.at : Try.prog.funcs[147]? = some Try.f147 := by kernel_rfl
theorem pmem_first.nm : (Try.f147.name == "runtime.NumGoroutine") = false := by kernel_rfl
theorem pmem_first.bd : Try.f147.body.isNone = false := by kernel_rfl
theorem pmem_of.at : Try.prog.funcs[149]? = some Try.f149 := by kernel_rfl
theorem pmem_of.nm : (Try.f149.name == "runtime.NumGoroutine") = false := by kernel_rfl
theorem pmem_of.bd : Try.f149.body.isNone = false := by kernel_rfl
theorem pmem_Fence_1.at : Try.prog.funcs[150]? = some Try.f150 := by kernel_rfl
theorem pmem_Fence_1.nm : (Try.f150.name == "runtime.NumGoroutine") = false := by kernel_rfl
theorem pmem_Fence_1.bd : Try.f150.body.isNone = false := by kernel_rfl
theorem pmem_of_1.at : Try.prog.funcs[151]? = some Try.f151 := by kernel_rfl
theorem pmem_of_1.nm : (Try.f151.name == "runtime.NumGoroutine") = false := by kernel_rfl
theorem pmem_of_1.bd : Try.f151.body.isNone = false := by kernel_rfl
end Lam
namespace Lam
open Go Go.Proofs
set_option linter.unusedVariables false
set_option linter.unnecessarySimpa false
set_option linter.unusedSimpArgs false
def pmem_sized.C : Contract
  | [.int .i64 n] => some (false, pD True (.bool (szB n)))
  | _ => none
set_option maxRecDepth 20000 in
theorem pmem_sized.spec : FSpec Try.prog 123 pmem_sized.C := by
  refine FSpec.of (ctx_ok (F := []) (S := []) (by simp) (by simp) pmem_sized.loops) pmem_sized.at pmem_sized.nm pmem_sized.bd ?_
  intro vs b S v news e hS
  unfold pmem_sized.C at e
  split at e
  rotate_left
  · cases e
  cases e
  rw [pmem_sized.eq]
  unfold pmem_sized.H
  simp (maxSteps := 4000000) only [go_sem, Nat.reduceEqDiff, Nat.reduceLT, Nat.reduceAdd, Nat.reduceSub, Nat.reduceLeDiff, List.reduceReplicate, Int.reduceToNat]
  exact ⟨fun _ => by decide, post_val rfl rfl⟩

def slices_Clone_sl_int_int.C : Contract
  | [.sl _ (.ints .i64 l)] => some (true, some (roomy l.length, .sref false 0 0 0 l.length, [.row .own 0 (.ints .i64 l)]))
  | _ => none
set_option maxRecDepth 20000 in
theorem slices_Clone_sl_int_int.spec : FSpec Try.prog 92 slices_Clone_sl_int_int.C := by
  refine FSpec.of (ctx_ok (F := []) (S := []) (by simp) (by simp) slices_Clone_sl_int_int.loops) slices_Clone_sl_int_int.at slices_Clone_sl_int_int.nm slices_Clone_sl_int_int.bd ?_
  intro vs b S v news e hS
  unfold slices_Clone_sl_int_int.C at e
  split at e
  rotate_left
  · cases e
  cases e
  rw [slices_Clone_sl_int_int.eq]
  unfold slices_Clone_sl_int_int.H
  simp (maxSteps := 4000000) only [go_sem, Nat.reduceEqDiff, Nat.reduceLT, Nat.reduceAdd, Nat.reduceSub, Nat.reduceLeDiff, List.reduceReplicate, Int.reduceToNat]
  rename_i l
  intro b hb
  refine ⟨fun h => ?_, fun h => ⟨hS, post_row rfl (by simp)⟩⟩
  have : l = [] := List.eq_nil_of_length_eq_zero (hb h)
  subst this
  exact post_nil rfl
def slices_Clone_sl_api_Pending_api_Pending.C : Contract
  | [.sl _ (.pends l)] => some (true, some (roomy l.length, .sref false 0 0 0 l.length, [.row .own 0 (.pends l)]))
  | _ => none
set_option maxRecDepth 20000 in
theorem slices_Clone_sl_api_Pending_api_Pending.spec : FSpec Try.prog 148 slices_Clone_sl_api_Pending_api_Pending.C := by
  refine FSpec.of (ctx_ok (F := []) (S := []) (by simp) (by simp) slices_Clone_sl_api_Pending_api_Pending.loops) slices_Clone_sl_api_Pending_api_Pending.at slices_Clone_sl_api_Pending_api_Pending.nm slices_Clone_sl_api_Pending_api_Pending.bd ?_
  intro vs b S v news e hS
  unfold slices_Clone_sl_api_Pending_api_Pending.C at e
  split at e
  rotate_left
  · cases e
  cases e
  rw [slices_Clone_sl_api_Pending_api_Pending.eq]
  unfold slices_Clone_sl_api_Pending_api_Pending.H
  simp (maxSteps := 4000000) only [go_sem, Nat.reduceEqDiff, Nat.reduceLT, Nat.reduceAdd, Nat.reduceSub, Nat.reduceLeDiff, List.reduceReplicate, Int.reduceToNat]
  rename_i l
  intro b hb
  refine ⟨fun h => ?_, fun h => ⟨hS, post_row rfl (by simp)⟩⟩
  have : l = [] := List.eq_nil_of_length_eq_zero (hb h)
  subst this
  exact post_nil rfl
def slices_Clip_sl_api_Pending_api_Pending.C : Contract
  | [.sl _ (.pends l)] => some (false, pD True (.sl true (.pends l)))
  | _ => none
set_option maxRecDepth 20000 in
theorem slices_Clip_sl_api_Pending_api_Pending.spec : FSpec Try.prog 146 slices_Clip_sl_api_Pending_api_Pending.C := by
  refine FSpec.of (ctx_ok (F := []) (S := []) (by simp) (by simp) slices_Clip_sl_api_Pending_api_Pending.loops) slices_Clip_sl_api_Pending_api_Pending.at slices_Clip_sl_api_Pending_api_Pending.nm slices_Clip_sl_api_Pending_api_Pending.bd ?_
  intro vs b S v news e hS
  unfold slices_Clip_sl_api_Pending_api_Pending.C at e
  split at e
  rotate_left
  · cases e
  cases e
  rw [slices_Clip_sl_api_Pending_api_Pending.eq]
  unfold slices_Clip_sl_api_Pending_api_Pending.H
  simp (maxSteps := 4000000) only [go_sem, Nat.reduceEqDiff, Nat.reduceLT, Nat.reduceAdd, Nat.reduceSub, Nat.reduceLeDiff, List.reduceReplicate, Int.reduceToNat]
  exact ⟨by omega, post_same rfl⟩
def slices_Equal_sl_int_int.C : Contract
  | [.sl _ (.ints .i64 a), .sl _ (.ints .i64 b)] => some (false, pD (roomy a.length) (.bool (decide (a = b))))
  | _ => none
set_option maxRecDepth 20000 in
theorem slices_Equal_sl_int_int.spec : FSpec Try.prog 78 slices_Equal_sl_int_int.C := by
  refine FSpec.of (ctx_ok (F := []) (S := []) (by simp) (by simp) slices_Equal_sl_int_int.loops) slices_Equal_sl_int_int.at slices_Equal_sl_int_int.nm slices_Equal_sl_int_int.bd ?_
  intro vs b S v news e hS
  unfold slices_Equal_sl_int_int.C at e
  split at e
  rotate_left
  · cases e
  cases e
  rw [slices_Equal_sl_int_int.eq]
  unfold slices_Equal_sl_int_int.H
  simp (maxSteps := 4000000) only [go_sem, Nat.reduceEqDiff, Nat.reduceLT, Nat.reduceAdd, Nat.reduceSub, Nat.reduceLeDiff, List.reduceReplicate, Int.reduceToNat]
  rename_i a _ b
  unfold roomy at hS
  refine ⟨fun hne => ?_, fun heq => ?_⟩
  · have : decide (a = b) = false := by rw [decide_eq_false_iff_not]; rintro rfl; exact hne rfl
    rw [this]; exact post_val rfl rfl
  rw [joinW_eq]
  unfold slices_Equal_sl_int_int.L1
  have hlen : a.length = b.length := by omega
  refine ⟨fun m lv h' => ∃ k : Nat, k + m = a.length ∧ lv = [.int .i64 k] ∧ h' = [] ∧ ∀ i, i < k → a.getD i 0 = b.getD i 0, ⟨a.length, 0, by omega, rfl, rfl, fun i hi => by omega⟩, ?_⟩
  rintro m h' t8 ⟨k, hk, hlv, rfl, hall⟩
  simp only [List.cons.injEq, and_true] at hlv
  subst hlv
  simp only [go_sem, Nat.reduceEqDiff, Nat.reduceLT, Nat.reduceAdd, Nat.reduceSub, Nat.reduceLeDiff, List.reduceReplicate, Int.reduceToNat]
  refine ⟨fun hlt => ⟨by omega, by omega, fun h0 => ?_, fun h0 => ?_⟩, fun hge => ?_⟩
  · have : decide (a = b) = false := by rw [decide_eq_false_iff_not]; rintro rfl; exact h0 rfl
    rw [this]; exact post_val rfl rfl
  · refine ⟨m - 1, by omega, k + 1, by omega, by rw [w64 (by omega) (by omega)]; rfl, ?_⟩
    intro i hi
    by_cases e : i = k
    · subst e; exact h0
    · exact hall i (by omega)
  · have : a = b := by
      apply List.ext_getElem hlen
      intro i h1 h2
      have := hall i (by omega)
      rw [List.getD_eq_getElem?_getD, List.getD_eq_getElem?_getD, List.getElem?_eq_getElem h1, List.getElem?_eq_getElem h2] at this
      exact this
    rw [decide_eq_true this]; exact post_val rfl rfl

def pmem_Check.C : Contract
  | [.agg [.sl false (.ints .i64 vol), .sl false (.ints .i64 per), .sl false (.pends pend)]] => some (false, pD (smallM vol per pend) (.bool (checkB vol per pend)))
  | _ => none
set_option maxRecDepth 20000 in
theorem pmem_Check.spec : FSpec Try.prog 124 pmem_Check.C := by
  refine FSpec.of (ctx_ok (F := [(123, pmem_sized.C), (92, slices_Clone_sl_int_int.C), (78, slices_Equal_sl_int_int.C)]) (S := []) (by simpa using ⟨pmem_sized.spec, slices_Clone_sl_int_int.spec, slices_Equal_sl_int_int.spec⟩) (by simp) pmem_Check.loops) pmem_Check.at pmem_Check.nm pmem_Check.bd ?_
  intro vs b S v news e hS
  unfold pmem_Check.C at e
  split at e
  rotate_left
  · cases e
  cases e
  rw [pmem_Check.eq]
  unfold pmem_Check.H
  simp (maxSteps := 4000000) only [go_sem, Nat.reduceEqDiff, Nat.reduceLT, Nat.reduceAdd, Nat.reduceSub, Nat.reduceLeDiff, List.reduceReplicate, Int.reduceToNat, pmem_sized.C, slices_Clone_sl_int_int.C, slices_Equal_sl_int_int.C]
  rename_i vol per pend
  obtain ⟨r1, r2, r3⟩ := hS
  unfold roomy at r1 r2 r3
  refine ⟨fun hb => ?_, fun hb => ⟨r2, ?_⟩⟩
  · have : checkB vol per pend = false := by
      unfold checkB
      rw [Bool.or_eq_true] at hb
      rcases hb with hb | hb
      · have : ¬ vol.length = per.length := by
          intro h; rw [h] at hb; simp at hb
        simp [this]
      · have : szB vol.length = false := by simpa using hb
        simp [this]
    rw [this]; exact post_val rfl rfl
  rw [Bool.or_eq_false_iff] at hb
  have hlen : vol.length = per.length := by
    have := hb.1
    rw [Bool.not_eq_false', decide_eq_true_eq] at this
    omega
  have hsz : szB vol.length = true := by simpa using hb.2
  have hcheck : checkB vol per pend = decide (chk pend per (fun _ => false) = some vol) := by unfold checkB; rw [hsz, decide_eq_true hlen]; simp
  rw [hcheck, joinW_eq]
  unfold pmem_Check.L1
  refine ⟨fun m lv h' => ∃ (k : Nat) (l : List Int) (o : Int → Bool), k + m = pend.length ∧ lv = [.int .i64 k] ∧ l.length = per.length ∧ chk pend per (fun _ => false) = chk (pend.drop k) l o ∧
      h' = [.box (.agg [.sl false (.ints .i64 vol), .sl false (.ints .i64 per), .sl false (.pends pend)]), .row .own 0 (.ints .i64 l), .map (.ib o)],
    ⟨pend.length, 0, per, fun _ => false, by omega, rfl, rfl, rfl, rfl⟩, ?_⟩
  rintro m h' t28 ⟨k, l, o, hk, hlv, hll, hchk, rfl⟩
  simp only [List.cons.injEq, and_true] at hlv
  subst hlv
  simp only [go_sem, Nat.reduceEqDiff, Nat.reduceLT, Nat.reduceAdd, Nat.reduceSub, Nat.reduceLeDiff, List.reduceReplicate, Int.reduceToNat, hll, encPend]
  refine ⟨fun hlt => ⟨by omega, ?_⟩, fun hge => ?_⟩
  · have hkl : k < pend.length := by omega
    have hd : pend.drop k = pend.getD k ⟨0, 0, false⟩ :: pend.drop (k + 1) := by
      rw [List.getD_eq_getElem?_getD, List.getElem?_eq_getElem hkl, List.drop_eq_getElem_cons hkl]; rfl
    generalize pend.getD k ⟨0, 0, false⟩ = p at *
    have hch : chk (pend.drop k) l o = match badB p l.length o with
      | true => none
      | false => chk (pend.drop (k + 1)) (l.set p.at_.toNat p.val) (opens p o) := by rw [hd]; rfl
    rw [hll] at hch
    refine ⟨fun _ _ => by decide, fun hbad => ?_, fun hok => ?_⟩
    · have : badB p per.length o = true := hbad
      rw [this] at hch
      rw [hchk, hch]; exact post_val rfl rfl
    · have hb2 : badB p per.length o = false := hok
      rw [hb2] at hch
      simp only [badB, Bool.or_eq_false_iff, decide_eq_false_iff_not] at hb2
      refine ⟨by decide, by decide, by omega, by omega, m - 1, by omega, k + 1, _, opens p o, by omega, by rw [w64 (by omega) (by omega)]; rfl, ?_, by rw [hchk]; exact hch, rfl⟩
      rw [List.length_set]; exact hll
  · have : k = pend.length := by omega
    subst this
    rw [List.drop_length] at hchk
    have hl : l.take per.length = l := List.take_of_length_le (by omega)
    simp only [hl, go_sem, Nat.reduceEqDiff, Nat.reduceLT, Nat.reduceAdd, Nat.reduceSub, Nat.reduceLeDiff, List.reduceReplicate, Int.reduceToNat, slices_Equal_sl_int_int.C]
    refine ⟨by unfold roomy; omega, ?_⟩
    rw [hchk]
    have : decide (chk [] l o = some vol) = decide (l = vol) := by simp [chk]
    rw [this]; exact post_val rfl rfl
def pmem_place.C : Contract
  | [.agg [.sl false (.ints .i64 vol), .sl false (.ints .i64 per), .sl false (.pends pend)], .int .i64 at_] => some (false, pD (smallM vol per pend) (.bool (placeB vol per pend at_)))
  | _ => none
set_option maxRecDepth 20000 in
theorem pmem_place.spec : FSpec Try.prog 145 pmem_place.C := by
  refine FSpec.of (ctx_ok (F := [(124, pmem_Check.C)]) (S := []) (by simpa using pmem_Check.spec) (by simp) pmem_place.loops) pmem_place.at pmem_place.nm pmem_place.bd ?_
  intro vs b S v news e hS
  unfold pmem_place.C at e
  split at e
  rotate_left
  · cases e
  cases e
  rw [pmem_place.eq]
  unfold pmem_place.H
  simp (maxSteps := 4000000) only [go_sem, Nat.reduceEqDiff, Nat.reduceLT, Nat.reduceAdd, Nat.reduceSub, Nat.reduceLeDiff, List.reduceReplicate, Int.reduceToNat, pmem_Check.C]
  exact ⟨fun _ => hS, post_val rfl rfl⟩
def pmem_first.C : Contract
  | [.agg [.sl false (.ints .i64 vol), .sl false (.ints .i64 per), .sl false (.pends pend)], .int .i64 line] => some (false, pD (roomy vol.length) (.int .i64 (firstI vol line)))
  | _ => none
set_option maxRecDepth 20000 in
theorem pmem_first.spec : FSpec Try.prog 147 pmem_first.C := by
  refine FSpec.of (ctx_ok (F := []) (S := []) (by simp) (by simp) pmem_first.loops) pmem_first.at pmem_first.nm pmem_first.bd ?_
  intro vs b S v news e hS
  unfold pmem_first.C at e
  split at e
  rotate_left
  · cases e
  cases e
  rw [pmem_first.eq]
  unfold pmem_first.H
  simp (maxSteps := 4000000) only [go_sem, Nat.reduceEqDiff, Nat.reduceLT, Nat.reduceAdd, Nat.reduceSub, Nat.reduceLeDiff, List.reduceReplicate, Int.reduceToNat]
  rename_i vol per pend line
  unfold roomy at hS
  have e : IntKind.i64.wrap ((vol.length : Int).tdiv 8) = ((vol.length / 8 : Nat) : Int) := by rw [tdiv8]; exact w64 (by omega) (by omega)
  rw [e]
  refine ⟨fun _ => by decide, fun hb => ?_, fun hb => ?_⟩
  · unfold firstI; rw [if_pos hb]; exact post_val rfl rfl
  · have h2 := hb
    rw [Bool.or_eq_false_iff, decide_eq_false_iff_not, decide_eq_false_iff_not] at h2
    rw [w64 (by omega) (by omega)]
    unfold firstI; rw [hb]; exact post_val rfl rfl
def pmem_Put.C : Contract
  | [.agg [.sl false (.ints .i64 vol), .sl false (.ints .i64 per), .sl false (.pends pend)], .int .i64 at_, .int .i64 val] => some (false, pD (smallM vol per pend ∧ roomy (pend.length + 1)) (putM vol per pend at_ val))
  | _ => none
set_option maxRecDepth 20000 in
theorem pmem_Put.spec : FSpec Try.prog 142 pmem_Put.C := by
  refine FSpec.of (ctx_ok (F := [(145, pmem_place.C), (146, slices_Clip_sl_api_Pending_api_Pending.C)]) (S := []) (by simpa using ⟨pmem_place.spec, slices_Clip_sl_api_Pending_api_Pending.spec⟩) (by simp) pmem_Put.loops) pmem_Put.at pmem_Put.nm pmem_Put.bd ?_
  intro vs b S v news e hS
  unfold pmem_Put.C at e
  split at e
  rotate_left
  · cases e
  cases e
  rw [pmem_Put.eq]
  unfold pmem_Put.H
  simp (maxSteps := 4000000) only [go_sem, Nat.reduceEqDiff, Nat.reduceLT, Nat.reduceAdd, Nat.reduceSub, Nat.reduceLeDiff, List.reduceReplicate, Int.reduceToNat, pmem_place.C, slices_Clip_sl_api_Pending_api_Pending.C]
  rename_i vol per pend at_ val
  obtain ⟨hS, hr⟩ := hS
  refine ⟨hS, fun hb => ?_, fun hb => ?_⟩
  · unfold putM; rw [hb]; exact post_val rfl rfl
  · have hp : 0 ≤ at_ ∧ at_ < (vol.length : Int) := by
      simp only [placeB, Bool.and_eq_true, decide_eq_true_eq] at hb
      exact hb.1
    have e : vol ++ List.take (vol.length - min vol.length vol.length) (List.drop (min vol.length vol.length) (List.replicate vol.length 0)) = vol := by simp
    rw [e]
    have hl : (pend ++ [(⟨at_, val, false⟩ : Pend)]).length = pend.length + 1 := by simp
    rw [hl]
    refine ⟨⟨by omega, by omega, hS.1⟩, hp, by omega, hr, rfl, ?_⟩
    unfold putM
    simp only [hb, if_true]
    refine post_val ?_ rfl
    have t1 : (vol.set at_.toNat val).take vol.length = vol.set at_.toNat val := List.take_of_length_le (by simp)
    have t2 : (pend ++ [(⟨at_, val, false⟩ : Pend)]).take (pend.length + 1) = pend ++ [(⟨at_, val, false⟩ : Pend)] := List.take_of_length_le (by simp)
    simp only [go_sem, Nat.reduceEqDiff, Nat.reduceLT, Nat.reduceAdd, Nat.reduceSub, Nat.reduceLeDiff, List.reduceReplicate, Int.reduceToNat, memV, t1, t2]
def pmem_of_1.I : Con → Con := fun Y args h K => match args with
  | [.fn (.yield l) [] [], a0, a1] => pmem_of_1.H ((ctx [] [] pmem_of_1.loops).withY l Y) (.fn (.yield l) [] []) a0 a1 h K
  | _ => False
theorem pmem_of_1.spec : ISpec Try.prog 151 pmem_of_1.I := by
  refine ISpec.of (ctx_ok (F := []) (S := []) (by simp) (by simp) pmem_of_1.loops).toOkI pmem_of_1.at pmem_of_1.nm pmem_of_1.bd ?_
  intro Yc l cap h K hC
  unfold pmem_of_1.I at hC
  split at hC
  · rename_i e
    simp only [List.cons.injEq, AV.fn.injEq, Fn.yield.injEq, and_true, true_and] at e
    obtain ⟨rfl, rfl⟩ := e
    rw [pmem_of_1.eq]; exact hC
  · exact hC.elim
def pmem_of.K : Con := fun args h K => match args with
  | [a0, a1] => pmem_of.H (ctx [] [] pmem_of.loops) a0 a1 h K
  | _ => False
theorem pmem_of.spec : SSpec Try.prog 149 pmem_of.K := by
  refine SSpec.of (ctx_ok (F := []) (S := []) (by simp) (by simp) pmem_of.loops) pmem_of.at pmem_of.nm pmem_of.bd ?_
  intro args h K hC
  unfold pmem_of.K at hC
  split at hC
  · rw [pmem_of.eq]; exact hC
  · exact hC.elim
def pmem_Flush.C : Contract
  | [.agg [.sl false (.ints .i64 vol), .sl false (.ints .i64 per), .sl false (.pends pend)], .int .i64 line] => some (false, pD (smallM vol per pend) (flushM vol per pend line))
  | _ => none
set_option maxRecDepth 20000 in
theorem pmem_Flush.spec : FSpec Try.prog 143 pmem_Flush.C := by
  refine FSpec.of (ctxI_ok (F := [(145, pmem_place.C), (147, pmem_first.C), (148, slices_Clone_sl_api_Pending_api_Pending.C)]) (S := [(149, pmem_of.K)]) (Is := [(151, pmem_of_1.I)]) (by simpa using ⟨pmem_place.spec, pmem_first.spec, slices_Clone_sl_api_Pending_api_Pending.spec⟩) (by simpa using pmem_of.spec) (by simpa using pmem_of_1.spec) pmem_Flush.loops) pmem_Flush.at pmem_Flush.nm pmem_Flush.bd ?_
  intro vs b S v news e hS
  unfold pmem_Flush.C at e
  split at e
  rotate_left
  · cases e
  cases e
  rw [pmem_Flush.eq]
  unfold pmem_Flush.H
  simp (maxSteps := 4000000) only [go_sem, Nat.reduceEqDiff, Nat.reduceLT, Nat.reduceAdd, Nat.reduceSub, Nat.reduceLeDiff, List.reduceReplicate, Int.reduceToNat, pmem_place.C, pmem_first.C, slices_Clone_sl_api_Pending_api_Pending.C, pmem_of.K, pmem_of.H, pmem_of_1.I, pmem_of_1.H, joinW_eq]
  rename_i vol per pend line
  refine ⟨hS.1, hS, fun hb => ?_, fun hb => ⟨hS.2.2, ?_⟩⟩
  · unfold flushM; rw [hb]; exact post_val rfl rfl
  intro l r
  obtain ⟨s1, s2, s3⟩ := hS
  unfold roomy at s1 s2 s3
  unfold pmem_of_1.L1
  refine ⟨fun m lv h' => ∃ k : Nat, k + m = pend.length ∧ lv = [.int .i64 k] ∧ h' = [.box (.agg [.sl false (.ints .i64 vol), .sl false (.ints .i64 per), .sl false (.pends pend)]),
      .box (.agg [.sl false (.ints .i64 []), .sl false (.ints .i64 []), .sl false (.pends [])]), .row .own 0 (.pends (flushP line (pend.take k) ++ pend.drop k)), .box (.sref false 2 0 0 pend.length),
      .box (.agg [.sl false (.ints .i64 vol), .sl false (.ints .i64 per), .sl false (.pends pend)]), .box (.int .i64 line), .lp .ready none r],
    ⟨pend.length, 0, by omega, rfl, rfl⟩, ?_⟩
  rintro m h' t9 ⟨k, hk, hlv, rfl⟩
  simp only [List.cons.injEq, and_true] at hlv
  subst hlv
  have hlen : (flushP line (pend.take k) ++ pend.drop k).length = pend.length := by simp [flushP]; omega
  simp only [go_sem, Nat.reduceEqDiff, Nat.reduceLT, Nat.reduceAdd, Nat.reduceSub, Nat.reduceLeDiff, List.reduceReplicate, Int.reduceToNat, encPend, hlen]
  refine ⟨fun hlt => ?_, fun hge => ?_⟩
  · have hkl : k < pend.length := by omega
    have hget : (flushP line (pend.take k) ++ pend.drop k).getD k ⟨0, 0, false⟩ = pend.getD k ⟨0, 0, false⟩ := by
      rw [List.getD_eq_getElem?_getD, List.getElem?_append_right (by simp [flushP]; omega)]
      have e : k - (flushP line (pend.take k)).length = 0 := by simp [flushP]; omega
      rw [e, List.getElem?_drop, Nat.add_zero, List.getD_eq_getElem?_getD]
    have hdrop : pend.drop k = pend.getD k ⟨0, 0, false⟩ :: pend.drop (k + 1) := by
      rw [List.getD_eq_getElem?_getD, List.getElem?_eq_getElem hkl, List.drop_eq_getElem_cons hkl]; rfl
    have hset : ∀ q : Pend, (flushP line (pend.take k) ++ pend.drop k).set k q = flushP line (pend.take k) ++ q :: pend.drop (k + 1) := by
      intro q
      rw [hdrop, List.set_append_right _ _ (by simp [flushP]; omega)]
      have e : k - (flushP line (pend.take k)).length = 0 := by simp [flushP]; omega
      rw [e]; rfl
    have hnx : flushP line (pend.take (k + 1)) = flushP line (pend.take k) ++ [if lineOf (pend.getD k ⟨0, 0, false⟩).at_ = line then { pend.getD k ⟨0, 0, false⟩ with fl := true } else pend.getD k ⟨0, 0, false⟩] := by
      rw [take_next pend k ⟨0, 0, false⟩ hkl]
      simp [flushP]
    rw [joinW_eq]
    simp only [guardW_bool, hget, hset]
    refine ⟨by omega, by decide, fun hc => ?_, fun hc => ?_⟩
    · have hc : lineOf (pend.getD k ⟨0, 0, false⟩).at_ = line := by simpa [lineOf] using hc
      simp only [go_sem, Nat.reduceEqDiff, Nat.reduceLT, Nat.reduceAdd, Nat.reduceSub, Nat.reduceLeDiff, List.reduceReplicate, Int.reduceToNat]
      refine ⟨⟨by omega, by omega⟩, hkl, m - 1, by omega, k + 1, by omega, by rw [w64 (by omega) (by omega)]; rfl, ?_⟩
      rw [hnx, if_pos hc, List.append_assoc]; rfl
    · have hc : ¬ lineOf (pend.getD k ⟨0, 0, false⟩).at_ = line := by simpa [lineOf] using hc
      simp only [go_sem, Nat.reduceEqDiff, Nat.reduceLT, Nat.reduceAdd, Nat.reduceSub, Nat.reduceLeDiff, List.reduceReplicate, Int.reduceToNat]
      refine ⟨m - 1, by omega, k + 1, by omega, by rw [w64 (by omega) (by omega)]; rfl, ?_⟩
      rw [hnx, if_neg hc, List.append_assoc, hdrop]; rfl
  · have : k = pend.length := by omega
    subst this
    rw [List.take_length, List.drop_length, List.append_nil] at hlen
    have e : flushP line (pend.take pend.length) ++ pend.drop pend.length = flushP line pend := by rw [List.take_length, List.drop_length, List.append_nil]
    rw [e]
    unfold flushM
    simp only [hb, if_true]
    refine post_val ?_ rfl
    have t1 : (flushP line pend).take pend.length = flushP line pend := List.take_of_length_le (by omega)
    simp only [go_sem, Nat.reduceEqDiff, Nat.reduceLT, Nat.reduceAdd, Nat.reduceSub, Nat.reduceLeDiff, List.reduceReplicate, Int.reduceToNat, memV, t1]
def pmem_Fence_1.C : Contract
  | [.agg [.int .i64 a, .int .i64 v, .bool f]] => some (false, pD True (.bool f))
  | _ => none
set_option maxRecDepth 20000 in
theorem pmem_Fence_1.spec : FSpec Try.prog 150 pmem_Fence_1.C := by
  refine FSpec.of (ctx_ok (F := []) (S := []) (by simp) (by simp) pmem_Fence_1.loops) pmem_Fence_1.at pmem_Fence_1.nm pmem_Fence_1.bd ?_
  intro vs b S v news e hS
  unfold pmem_Fence_1.C at e
  split at e
  rotate_left
  · cases e
  cases e
  rw [pmem_Fence_1.eq]
  unfold pmem_Fence_1.H
  simp (maxSteps := 4000000) only [go_sem, Nat.reduceEqDiff, Nat.reduceLT, Nat.reduceAdd, Nat.reduceSub, Nat.reduceLeDiff, List.reduceReplicate, Int.reduceToNat]
  exact post_val rfl rfl
def pmem_Crash_1.K : Con := fun args h K => match args with
  | [a0, a1] => pmem_Crash_1.H (ctx [] [] pmem_Crash_1.loops) a0 a1 h K
  | _ => False
theorem pmem_Crash_1.spec : SSpec Try.prog 130 pmem_Crash_1.K := by
  refine SSpec.of (ctx_ok (F := []) (S := []) (by simp) (by simp) pmem_Crash_1.loops) pmem_Crash_1.at pmem_Crash_1.nm pmem_Crash_1.bd ?_
  intro args h K hC
  unfold pmem_Crash_1.K at hC
  split at hC
  · rw [pmem_Crash_1.eq]; exact hC
  · exact hC.elim
def pmem_keep.K : Con := fun args h K => match args with
  | [a0, a1] => pmem_keep.H (ctx [(92, slices_Clone_sl_int_int.C), (150, pmem_Fence_1.C)] [(130, pmem_Crash_1.K)] pmem_keep.loops) a0 a1 h K
  | _ => False
theorem pmem_keep.spec : SSpec Try.prog 129 pmem_keep.K := by
  refine SSpec.of (ctx_ok (F := [(92, slices_Clone_sl_int_int.C), (150, pmem_Fence_1.C)]) (S := [(130, pmem_Crash_1.K)]) (by simpa using ⟨slices_Clone_sl_int_int.spec, pmem_Fence_1.spec⟩) (by simpa using pmem_Crash_1.spec) pmem_keep.loops) pmem_keep.at pmem_keep.nm pmem_keep.bd ?_
  intro args h K hC
  unfold pmem_keep.K at hC
  split at hC
  · rw [pmem_keep.eq]; exact hC
  · exact hC.elim

def pmem_Fence.C : Contract
  | [.agg [.sl false (.ints .i64 vol), .sl false (.ints .i64 per), .sl false (.pends pend)]] => some (false, pD (smallM vol per pend) (fenceM fFl (checkB vol per pend) vol per pend))
  | _ => none
set_option maxRecDepth 20000 in
theorem pmem_Fence.spec : FSpec Try.prog 144 pmem_Fence.C := by
  refine FSpec.of (ctx_ok (F := [(124, pmem_Check.C)]) (S := [(129, pmem_keep.K)]) (by simpa using pmem_Check.spec) (by simpa using pmem_keep.spec) pmem_Fence.loops) pmem_Fence.at pmem_Fence.nm pmem_Fence.bd ?_
  intro vs b S v news e hS
  unfold pmem_Fence.C at e
  split at e
  rotate_left
  · cases e
  cases e
  rw [pmem_Fence.eq]
  unfold pmem_Fence.H
  simp (maxSteps := 4000000) only [go_sem, Nat.reduceEqDiff, Nat.reduceLT, Nat.reduceAdd, Nat.reduceSub, Nat.reduceLeDiff, List.reduceReplicate, Int.reduceToNat, pmem_Check.C, pmem_keep.K, pmem_keep.H, slices_Clone_sl_int_int.C]
  rename_i vol per pend
  refine ⟨hS, fun hb => ?_, fun hb => ⟨hS.2.1, ?_⟩⟩
  · unfold fenceM; rw [hb]; exact post_val rfl rfl
  obtain ⟨s1, s2, s3⟩ := hS
  unfold roomy at s1 s2 s3
  have hrange := check_range hb
  rw [joinW_eq]
  unfold pmem_keep.L1
  refine ⟨fun m lv h' => ∃ k v : Nat, k + m = pend.length ∧ lv = [.int .i64 k] ∧ h' = [.box (.agg [.sl false (.ints .i64 vol), .sl false (.ints .i64 per), .sl false (.pends pend)]), .box (.agg [.sl false (.ints .i64 []), .sl false (.ints .i64 []), .sl false (.pends [])]), .box (.agg [.sl false (.ints .i64 vol), .sl false (.ints .i64 per), .sl false (.pends pend)]), .box (.agg [.sl false (.ints .i64 []), .sl false (.ints .i64 []), .sl false (.pends [])]), .row .own 0 (.ints .i64 (keepW fFl (pend.take k) per)), .box (.agg [.sl false (.ints .i64 vol), .sref false 4 0 0 per.length, .sref false 6 v 0 (keepP fFl (pend.take k)).length]), .row .own v (.pends (keepP fFl (pend.take k)))],
    ⟨pend.length, 0, 0, by omega, rfl, rfl⟩, ?_⟩
  rintro m h' t17 ⟨k, v, hk, hlv, rfl⟩
  simp only [List.cons.injEq, and_true] at hlv
  subst hlv
  have hwl : (keepW fFl (pend.take k) per).length = per.length := keepW_len _ _ _
  have hpl : (keepP fFl (pend.take k)).length ≤ k := Nat.le_trans (List.length_filter_le _ _) (by simp; omega)
  simp only [go_sem, Nat.reduceEqDiff, Nat.reduceLT, Nat.reduceAdd, Nat.reduceSub, Nat.reduceLeDiff, List.reduceReplicate, Int.reduceToNat, encPend, hwl, pmem_Fence_1.C]
  refine ⟨fun hlt => ?_, fun hge => ?_⟩
  · have hkl : k < pend.length := by omega
    have hr := hrange _ (getD_mem pend k ⟨0, 0, false⟩ hkl)
    have hW := keepW_snoc fFl (pend.getD k ⟨0, 0, false⟩) (pend.take k) per
    have hP := keepP_snoc fFl (pend.getD k ⟨0, 0, false⟩) (pend.take k)
    rw [← take_next pend k ⟨0, 0, false⟩ hkl] at hW hP
    generalize pend.getD k ⟨0, 0, false⟩ = p at *
    try rw [joinW_eq]
    refine ⟨by omega, fun hc => ?_, fun hc => ?_⟩
    · have hc : fFl p = true := hc
      rw [hc] at hW hP
      simp only [go_sem, Nat.reduceEqDiff, Nat.reduceLT, Nat.reduceAdd, Nat.reduceSub, Nat.reduceLeDiff, List.reduceReplicate, Int.reduceToNat]
      refine ⟨hr, by omega, m - 1, by omega, k + 1, v, by omega, by rw [w64 (by omega) (by omega)]; rfl, ?_⟩
      rw [hW, hP]
    · have hc : fFl p = false := hc
      rw [hc] at hW hP
      simp only [go_sem, Nat.reduceEqDiff, Nat.reduceLT, Nat.reduceAdd, Nat.reduceSub, Nat.reduceLeDiff, List.reduceReplicate, Int.reduceToNat]
      refine ⟨by unfold roomy; simp; omega, m - 1, by omega, k + 1, v + 1, by omega, by rw [w64 (by omega) (by omega)]; rfl, ?_⟩
      rw [hW, hP]
  · have : k = pend.length := by omega
    subst this
    rw [List.take_length] at hwl hpl ⊢
    have t1 : (keepW fFl pend per).take per.length = keepW fFl pend per := List.take_of_length_le (by omega)
    have t2 : (keepP fFl pend).take (keepP fFl pend).length = keepP fFl pend := List.take_length
    unfold fenceM
    simp only [hb, if_true, go_sem, Nat.reduceEqDiff, Nat.reduceLT, Nat.reduceAdd, Nat.reduceSub, Nat.reduceLeDiff, List.reduceReplicate, Int.reduceToNat]
    refine post_val ?_ rfl
    simp only [go_sem, Nat.reduceEqDiff, Nat.reduceLT, Nat.reduceAdd, Nat.reduceSub, Nat.reduceLeDiff, List.reduceReplicate, Int.reduceToNat, memV, t1, t2]

end Lam
namespace Lam
open Go Go.Proofs
set_option linter.unusedVariables false
set_option linter.unnecessarySimpa false
set_option linter.unusedSimpArgs false
def fast_may_1.C : Contract
  | [.int .i64 n] => some (false, pD True (.bool (lt1 n)))
  | _ => none
set_option maxRecDepth 20000 in
theorem fast_may_1.spec : FSpec Try.prog 118 fast_may_1.C := by
  refine FSpec.of (ctx_ok (F := []) (S := []) (by simp) (by simp) fast_may_1.loops) fast_may_1.at fast_may_1.nm fast_may_1.bd ?_
  intro vs b S v news e hS
  unfold fast_may_1.C at e
  split at e
  rotate_left
  · cases e
  cases e
  rw [fast_may_1.eq]
  unfold fast_may_1.H
  simp (maxSteps := 4000000) only [go_sem, Nat.reduceEqDiff, Nat.reduceLT, Nat.reduceAdd, Nat.reduceSub, Nat.reduceLeDiff, List.reduceReplicate, Int.reduceToNat]
  exact post_val rfl rfl
def fast_Slots_1.C : Contract
  | [.int .i64 n] => some (false, pD True (.bool (lt1 n)))
  | _ => none
set_option maxRecDepth 20000 in
theorem fast_Slots_1.spec : FSpec Try.prog 91 fast_Slots_1.C := by
  refine FSpec.of (ctx_ok (F := []) (S := []) (by simp) (by simp) fast_Slots_1.loops) fast_Slots_1.at fast_Slots_1.nm fast_Slots_1.bd ?_
  intro vs b S v news e hS
  unfold fast_Slots_1.C at e
  split at e
  rotate_left
  · cases e
  cases e
  rw [fast_Slots_1.eq]
  unfold fast_Slots_1.H
  simp (maxSteps := 4000000) only [go_sem, Nat.reduceEqDiff, Nat.reduceLT, Nat.reduceAdd, Nat.reduceSub, Nat.reduceLeDiff, List.reduceReplicate, Int.reduceToNat]
  exact post_val rfl rfl
def node_block.C : Contract
  | [.int .i64 n] => some (false, pD True (.bool (blockB n)))
  | _ => none
set_option maxRecDepth 20000 in
theorem node_block.spec : FSpec Try.prog 79 node_block.C := by
  refine FSpec.of (ctx_ok (F := []) (S := []) (by simp) (by simp) node_block.loops) node_block.at node_block.nm node_block.bd ?_
  intro vs b S v news e hS
  unfold node_block.C at e
  split at e
  rotate_left
  · cases e
  cases e
  rw [node_block.eq]
  unfold node_block.H
  simp (maxSteps := 4000000) only [go_sem, Nat.reduceEqDiff, Nat.reduceLT, Nat.reduceAdd, Nat.reduceSub, Nat.reduceLeDiff, List.reduceReplicate, Int.reduceToNat]
  exact post_val rfl rfl
def node_Check_1.C : Contract
  | [.int .i64 n] => some (false, pD True (.bool (noBlock n)))
  | _ => none
set_option maxRecDepth 20000 in
theorem node_Check_1.spec : FSpec Try.prog 82 node_Check_1.C := by
  refine FSpec.of (ctx_ok (F := [(79, node_block.C)]) (S := []) (by simpa using node_block.spec) (by simp) node_Check_1.loops) node_Check_1.at node_Check_1.nm node_Check_1.bd ?_
  intro vs b S v news e hS
  unfold node_Check_1.C at e
  split at e
  rotate_left
  · cases e
  cases e
  rw [node_Check_1.eq]
  unfold node_Check_1.H
  simp (maxSteps := 4000000) only [go_sem, Nat.reduceEqDiff, Nat.reduceLT, Nat.reduceAdd, Nat.reduceSub, Nat.reduceLeDiff, List.reduceReplicate, Int.reduceToNat, node_block.C]
  exact post_val rfl rfl
theorem indexInts_vc (c : Ctx) (hd : c.drawn = false) (f : FuncId) (p : Int → Bool) (hf : ∀ n, c.envF f [.int .i64 n] = some (false, pD True (.bool (p n)))) (x : Bool) (l : List Int) (hr : roomy l.length) :
    slices_IndexFunc_sl_int_int.H c (.sl x (.ints .i64 l)) (.fn (.func f) [] []) [] (Post false (.int .i64 (idxI p l)) []) := by
  unfold roomy at hr
  unfold slices_IndexFunc_sl_int_int.H
  simp only [go_sem, Nat.reduceEqDiff, Nat.reduceLT, Nat.reduceAdd, Nat.reduceSub, Nat.reduceLeDiff, List.reduceReplicate, Int.reduceToNat]
  rw [joinW_eq]
  unfold slices_IndexFunc_sl_int_int.L1
  refine loop1 (σ := Nat) (fun k => .int .i64 k) (fun k => []) (fun k => l.length - k) (fun k => k ≤ l.length ∧ ∀ y ∈ l.take k, p y = false) 0 rfl rfl ⟨Nat.zero_le _, by simp⟩ ?_
  rintro I back k ⟨hk, hall⟩
  simp only [hf, hd, go_sem, Nat.reduceEqDiff, Nat.reduceLT, Nat.reduceAdd, Nat.reduceSub, Nat.reduceLeDiff, List.reduceReplicate, Int.reduceToNat]
  refine ⟨fun hlt => ⟨by omega, fun h => ?_, fun h => ?_⟩, fun hge => ?_⟩
  · have hkl : k < l.length := by omega
    have h1 : l.any p = true := List.any_eq_true.2 ⟨_, getD_mem l k 0 hkl, h⟩
    have h2 : l.findIdx p = k := by
      rw [List.findIdx_eq hkl]
      refine ⟨by rw [List.getD_eq_getElem?_getD, List.getElem?_eq_getElem hkl] at h; exact h, fun j hj => ?_⟩
      have := hall l[j] (List.mem_take_iff_getElem.2 ⟨j, by omega, rfl⟩)
      simpa using this
    unfold idxI; rw [if_pos h1, h2]
    exact post_val rfl rfl
  · refine back (k + 1) (by omega) (by rw [wnext (by omega)]) rfl ⟨by omega, fun y hy => ?_⟩
    rw [take_next l k 0 (by omega), List.mem_append, List.mem_singleton] at hy
    rcases hy with hy | rfl
    · exact hall y hy
    · exact h
  · obtain rfl : k = l.length := by omega
    rw [List.take_length] at hall
    have h1 : ¬ l.any p = true := by
      rw [List.any_eq_true]; rintro ⟨y, hy, hp⟩; rw [hall y hy] at hp; cases hp
    unfold idxI; rw [if_neg h1]
    exact post_val rfl rfl
def predI (f : Nat) : Option (Int → Bool) :=
  if f = 118 then some lt1 else
  if f = 91 then some lt1 else
  if f = 82 then some noBlock else
  none
@[go_sem] theorem predI_fm : predI 118 = some lt1 := rfl
@[go_sem] theorem predI_fs : predI 91 = some lt1 := rfl
@[go_sem] theorem predI_nc : predI 82 = some noBlock := rfl
def slices_IndexFunc_sl_int_int.C : Contract
  | [.sl _ (.ints .i64 l), .fn (.func f) [] []] => match predI f with
    | some p => some (false, pD (roomy l.length) (.int .i64 (idxI p l)))
    | none => none
  | _ => none
theorem slices_IndexFunc_sl_int_int.spec : FSpec Try.prog 90 slices_IndexFunc_sl_int_int.C := by
  refine FSpec.of (ctx_ok (F := [(118, fast_may_1.C), (91, fast_Slots_1.C), (82, node_Check_1.C)]) (S := []) (by simpa using ⟨fast_may_1.spec, fast_Slots_1.spec, node_Check_1.spec⟩) (by simp) slices_IndexFunc_sl_int_int.loops) slices_IndexFunc_sl_int_int.at slices_IndexFunc_sl_int_int.nm slices_IndexFunc_sl_int_int.bd ?_
  intro vs b S v news e hS
  unfold slices_IndexFunc_sl_int_int.C at e
  split at e
  rotate_left
  · cases e
  rw [slices_IndexFunc_sl_int_int.eq]
  rename_i x l f
  split at e
  rotate_left
  · cases e
  rename_i p hp
  cases e
  refine indexInts_vc _ rfl f p (fun n => ?_) x l hS
  unfold predI at hp
  simp only [ctx_envF]
  repeat' split at hp
  all_goals first | (rename_i h; subst h; cases hp; rfl) | cases hp
def slices_ContainsFunc_sl_int_int.C : Contract
  | [.sl _ (.ints .i64 l), .fn (.func f) [] []] => match predI f with
    | some p => some (false, pD (roomy l.length) (.bool (l.any p)))
    | none => none
  | _ => none
theorem slices_ContainsFunc_sl_int_int.spec : FSpec Try.prog 81 slices_ContainsFunc_sl_int_int.C := by
  refine FSpec.of (ctx_ok (F := [(90, slices_IndexFunc_sl_int_int.C)]) (S := []) (by simpa using slices_IndexFunc_sl_int_int.spec) (by simp) slices_ContainsFunc_sl_int_int.loops) slices_ContainsFunc_sl_int_int.at slices_ContainsFunc_sl_int_int.nm slices_ContainsFunc_sl_int_int.bd ?_
  intro vs b S v news e hS
  unfold slices_ContainsFunc_sl_int_int.C at e
  split at e
  rotate_left
  · cases e
  rw [slices_ContainsFunc_sl_int_int.eq]
  rename_i x l f
  split at e
  rotate_left
  · cases e
  rename_i p hp
  cases e
  unfold slices_ContainsFunc_sl_int_int.H
  simp only [slices_IndexFunc_sl_int_int.C, hp, go_sem, Nat.reduceEqDiff, Nat.reduceLT, Nat.reduceAdd, Nat.reduceSub, Nat.reduceLeDiff, List.reduceReplicate, Int.reduceToNat]
  refine ⟨hS, ?_⟩
  have : decide (0 ≤ idxI p l) = l.any p := by
    unfold idxI
    cases h : l.any p
    · rfl
    · rw [if_pos rfl]; exact decide_eq_true (by omega)
  rw [this]; exact post_val rfl rfl
end Lam
namespace Lam
open Go Go.Proofs
set_option linter.unusedVariables false
set_option linter.unnecessarySimpa false
set_option linter.unusedSimpArgs false
def pmem_New.C : Contract
  | [.sl _ (.ints .i64 l)] => some (false, pD (roomy l.length) (newM l))
  | _ => none
set_option maxRecDepth 20000 in
theorem pmem_New.spec : FSpec Try.prog 103 pmem_New.C := by
  refine FSpec.of (ctx_ok (F := [(123, pmem_sized.C), (92, slices_Clone_sl_int_int.C)]) (S := []) (by simpa using ⟨pmem_sized.spec, slices_Clone_sl_int_int.spec⟩) (by simp) pmem_New.loops) pmem_New.at pmem_New.nm pmem_New.bd ?_
  intro vs b S v news e hS
  unfold pmem_New.C at e
  split at e
  rotate_left
  · cases e
  cases e
  rw [pmem_New.eq]
  unfold pmem_New.H
  simp (maxSteps := 4000000) only [go_sem, Nat.reduceEqDiff, Nat.reduceLT, Nat.reduceAdd, Nat.reduceSub, Nat.reduceLeDiff, List.reduceReplicate, Int.reduceToNat, pmem_sized.C, slices_Clone_sl_int_int.C]
  rename_i l
  unfold roomy at hS
  refine ⟨fun hb => ?_, fun hb => ?_⟩
  · unfold newM; rw [hb]; exact post_val rfl rfl
  · refine ⟨hS, hS, ?_⟩
    unfold newM; simp only [hb, if_true]
    refine post_val ?_ rfl
    simp only [go_sem, Nat.reduceEqDiff, Nat.reduceLT, Nat.reduceAdd, Nat.reduceSub, Nat.reduceLeDiff, List.reduceReplicate, Int.reduceToNat, memV, List.take_length]
def pmem_Crash.C : Contract
  | [.agg [.sl false (.ints .i64 vol), .sl false (.ints .i64 per), .sl false (.pends pend)], .sl _ (.ints .i64 keep)] => some (false, pD (smallM vol per pend ∧ roomy keep.length ∧ i64s keep) (crashM (checkB vol per pend) keep per pend))
  | _ => none
set_option maxRecDepth 20000 in
theorem pmem_Crash.spec : FSpec Try.prog 111 pmem_Crash.C := by
  refine FSpec.of (ctx_ok (F := [(124, pmem_Check.C)]) (S := [(129, pmem_keep.K)]) (by simpa using pmem_Check.spec) (by simpa using pmem_keep.spec) pmem_Crash.loops) pmem_Crash.at pmem_Crash.nm pmem_Crash.bd ?_
  intro vs b S v news e hS
  unfold pmem_Crash.C at e
  split at e
  rotate_left
  · cases e
  cases e
  rw [pmem_Crash.eq]
  unfold pmem_Crash.H
  simp (maxSteps := 4000000) only [go_sem, Nat.reduceEqDiff, Nat.reduceLT, Nat.reduceAdd, Nat.reduceSub, Nat.reduceLeDiff, List.reduceReplicate, Int.reduceToNat, pmem_Check.C]
  rename_i vol per pend _ keep
  obtain ⟨hS, hr, hw64⟩ := hS
  refine ⟨hS, fun hb => ?_, fun hb => ?_⟩
  · unfold crashM; rw [hb]; exact post_val rfl rfl
  obtain ⟨s1, s2, s3⟩ := hS
  unfold roomy at s1 s2 s3 hr
  have hrange := check_range hb
  rw [joinW_eq]
  unfold pmem_Crash.L1
  refine loop1 (σ := Nat) (fun k => .int .i64 k) (fun k => [AObj.box (memV vol per pend), AObj.map (MapC.ii (leftF (keep.take k))), AObj.box (AV.map 1)]) (fun k => keep.length - k) (fun k => k ≤ keep.length) 0 rfl ?_ (Nat.zero_le _) ?_
  · simp [memV, Lam.normO]
    exact leftF_nil.symm
  intro I back k hk
  simp only [go_sem, Nat.reduceEqDiff, Nat.reduceLT, Nat.reduceAdd, Nat.reduceSub, Nat.reduceLeDiff, List.reduceReplicate, Int.reduceToNat]
  refine ⟨fun hlt => ⟨by omega, back (k + 1) (by omega) (by rw [wnext (by omega)]) ?_ (by omega)⟩, fun hge => ?_⟩
  · rw [leftF_next keep (by omega)]; rfl
  obtain rfl : k = keep.length := by omega
  simp only [List.take_length, pmem_keep.K, pmem_keep.H, slices_Clone_sl_int_int.C, go_sem, Nat.reduceEqDiff, Nat.reduceLT, Nat.reduceAdd, Nat.reduceSub, Nat.reduceLeDiff, List.reduceReplicate, Int.reduceToNat]
  refine ⟨s2, ?_⟩
  rw [joinW_eq]
  unfold pmem_keep.L1
  refine loop1 (σ := Nat × Nat × List Int × List Pend × (Int → Int)) (fun s => .int .i64 s.1) (fun s => [.box (memV vol per pend), .map (.ii s.2.2.2.2), .box (.map 1), .box (memV vol per pend), .box (memV [] [] []), .row .own 0 (.ints .i64 s.2.2.1),
      .box (.agg [.sl false (.ints .i64 vol), .sref false 5 0 0 per.length, .sref false 7 s.2.1 0 s.2.2.2.1.length]), .row .own s.2.1 (.pends s.2.2.2.1)]) (fun s => pend.length - s.1)
    (fun s => s.1 ≤ pend.length ∧ s.2.2.1.length = per.length ∧ s.2.2.2.1.length ≤ s.1 ∧ (∀ j, s.2.2.2.2 j < 9223372036854775808) ∧ app (crashK (pend.drop s.1) s.2.2.2.2) s.2.2.1 = crashW keep per pend) (0, 0, per, [], leftF keep) rfl rfl ⟨Nat.zero_le _, rfl, Nat.le_refl _, leftF_lt hw64, rfl⟩ ?_
  rintro I back ⟨k, v, w, q, left⟩ ⟨hk, hw, hq, hlf, hA⟩
  simp only [] at hk hw hq hA hlf ⊢
  simp only [go_sem, Nat.reduceEqDiff, Nat.reduceLT, Nat.reduceAdd, Nat.reduceSub, Nat.reduceLeDiff, List.reduceReplicate, Int.reduceToNat, hw]
  refine ⟨fun hlt => ⟨by omega, ?_⟩, fun hge => ?_⟩
  · have hkl : k < pend.length := by omega
    rw [drop_cons pend k ⟨0, 0, false⟩ hkl] at hA
    have hr := hrange _ (getD_mem pend k ⟨0, 0, false⟩ hkl)
    generalize pend.getD k ⟨0, 0, false⟩ = p at *
    simp only [crashK] at hA
    try rw [joinW_eq]
    simp only [pmem_Crash_1.K, pmem_Crash_1.H, go_sem, Nat.reduceEqDiff, Nat.reduceLT, Nat.reduceAdd, Nat.reduceSub, Nat.reduceLeDiff, List.reduceReplicate, Int.reduceToNat]
    have hle : (fun j => if j = IntKind.i64.wrap (p.at_.tdiv 8) then IntKind.i64.wrap ((if 1 > left (IntKind.i64.wrap (p.at_.tdiv 8)) then 1 else left (IntKind.i64.wrap (p.at_.tdiv 8))) - 1) else left j) = lessL p left := by
      funext j
      have h1 := hlf (lineOf p.at_)
      show (if j = lineOf p.at_ then IntKind.i64.wrap ((if 1 > left (lineOf p.at_) then 1 else left (lineOf p.at_)) - 1) else left j) = _
      unfold lessL
      split
      · rw [w64 (by split <;> omega) (by split <;> omega)]
        split <;> split <;> omega
      · rfl
    rw [hle]
    have hlf' : ∀ j, lessL p left j < 9223372036854775808 := fun j => by
      have h1 := hlf (lineOf p.at_); have h2 := hlf j
      unfold lessL; split <;> (try split) <;> omega
    refine ⟨by decide, by decide, fun hc => ?_, fun hc => ?_⟩
    · have hc : 0 < left (lineOf p.at_) := hc
      rw [decide_eq_true hc] at hA
      refine ⟨hr, by omega, back (k + 1, v, _, q, lessL p left) (by show _ - (k + 1) < _ - k; omega) (by rw [wnext (by omega)]) rfl ⟨by show k + 1 ≤ _; omega, by show (w.set _ _).length = _; rw [List.length_set]; exact hw, by show q.length ≤ k + 1; omega, hlf', hA⟩⟩
    · have hc : ¬ 0 < left (lineOf p.at_) := hc
      rw [decide_eq_false hc] at hA
      have hl : (q ++ [(⟨p.at_, p.val, p.fl⟩ : Pend)]).length = q.length + 1 := by simp
      refine ⟨by unfold roomy; omega, back (k + 1, v + 1, w, _, lessL p left) (by show _ - (k + 1) < _ - k; omega) (by rw [wnext (by omega)]) rfl ⟨by show k + 1 ≤ _; omega, hw, by show (q ++ _).length ≤ k + 1; omega, hlf', hA⟩⟩
  · obtain rfl : k = pend.length := by omega
    rw [List.drop_length] at hA
    have hA : w = crashW keep per pend := hA
    unfold crashM
    simp only [hb, if_true]
    refine post_val ?_ rfl
    simp only [go_sem, Nat.reduceEqDiff, Nat.reduceLT, Nat.reduceAdd, Nat.reduceSub, Nat.reduceLeDiff, List.reduceReplicate, Int.reduceToNat]
    rw [hA, take_len _ (by rw [crashW_len]; exact Nat.le_refl _)]
end Lam
namespace Lam
open Go Go.Proofs
set_option linter.unusedVariables false
def micro_Run.loops : Nat → LInfo
  | _ => ⟨[], [], [], [], []⟩
def micro_Run.H (c : Ctx) (t0 : AV) (t1 : AV) (h : List AObj) (K : AOut → List AObj → Prop) : Prop :=
  boxW T_api_Mem t0 h fun t2 h =>
  allocW T_api_Mem h fun t4 h =>
  runD (fitD T_api_Mem (loadD h t2)) h fun t6 h =>
  callW c (.fn (.func 104) [] []) [t6, t1] h (fun t8 h =>
  runD (unD .not t8) h fun t9 h =>
  condW t9
  (runD (fitD T_api_Mem (loadD h t2)) h fun t10 h =>
    runH (storeH T_api_Mem h t4 t10) h fun _ h =>
    loadRes (fitD T_api_Mem (loadD h t4)) fun r0 => K (.ret (.tup [r0, (.int .i64 40)])) h)
  (runD (fitD T_api_Mem (loadD h t2)) h fun t11 h =>
  runD (lenD T_sl_api_Micro h t1) h fun t14 h =>
  callW c (.fn (.func 105) [] []) [t11, t1, t14] h (fun t15 h =>
  runH (storeH T_api_Mem h t4 t15) h fun _ h =>
  loadRes (fitD T_api_Mem (loadD h t4)) fun r0 => K (.ret (.tup [r0, (.int .i64 0)])) h)
  (fun v h => K (.pan v) h)))
  (fun v h => K (.pan v) h)
def micro_Do.loops : Nat → LInfo
  | _ => ⟨[], [], [], [], []⟩
def micro_Do.H (c : Ctx) (t0 : AV) (t1 : AV) (h : List AObj) (K : AOut → List AObj → Prop) : Prop :=
  boxW T_api_Mem t0 h fun t2 h =>
  boxW T_api_Micro t1 h fun t3 h =>
  allocW T_api_Mem h fun t4 h =>
  runD (fitD T_api_Mem (loadD h t2)) h fun t6 h =>
  runD (fitD T_api_Micro (loadD h t3)) h fun t7 h =>
  runD (buildSliceD T_sl_api_Micro 1 [(0, t7)] h.length) h fun t8 h =>
  callW c (.fn (.func 63) [] []) [t6, t8] h (fun t9 h =>
  runD (extractD t9 0) h fun t10 h =>
  runD (extractD t9 1) h fun t11 h =>
  runH (storeH T_api_Mem h t4 t10) h fun _ h =>
  loadRes (fitD T_api_Mem (loadD h t4)) fun r0 => K (.ret (.tup [r0, t11])) h)
  (fun v h => K (.pan v) h)
def micro_Crash.loops : Nat → LInfo
  | _ => ⟨[], [], [], [], []⟩
def micro_Crash.H (c : Ctx) (t0 : AV) (t1 : AV) (t2 : AV) (t3 : AV) (h : List AObj) (K : AOut → List AObj → Prop) : Prop :=
  boxW T_api_Mem t0 h fun t4 h =>
  runD (fitD T_api_Mem (loadD h t4)) h fun t10 h =>
  callW c (.fn (.func 104) [] []) [t10, t1] h (fun t12 h =>
  runD (unD .not t12) h fun t13 h =>
  condW t13
  (K (.ret (.tup [(.sl true (.ints .i64 [])), (.int .i64 40)])) h)
  (runD (fitD T_api_Mem (loadD h t4)) h fun t14 h =>
  runD (lenD T_sl_api_Micro h t1) h fun t18 h =>
  runD (minD t2 t18) h fun t19 h =>
  runD (maxD (.int .i64 0) t19) h fun t20 h =>
  callW c (.fn (.func 105) [] []) [t14, t1, t20] h (fun t21 h =>
  callW c (.fn (.func 111) [] []) [t21, t3] h (fun t23 h =>
  runD (extractD t23 0) h fun t24 h =>
  runD (extractD t23 1) h fun t25 h =>
  K (.ret (.tup [t24, t25])) h)
  (fun v h => K (.pan v) h))
  (fun v h => K (.pan v) h)))
  (fun v h => K (.pan v) h)
def micro_Check.loops : Nat → LInfo
  | 1 => ⟨[], [], [], [(3, none), (2, some [8, 10]), (2, none), (3, some [12, 15])], []⟩
  | 2 => ⟨[], [], [], [(2, none), (4, some [18, 22])], []⟩
  | _ => ⟨[], [], [], [], []⟩
def micro_Check.H (c : Ctx) (t0 : AV) (t1 : AV) (h : List AObj) (K : AOut → List AObj → Prop) : Prop :=
  boxW T_int t1 h fun t3 h =>
  runD (fitD T_int (loadD h t3)) h fun t6 h =>
  runD (binD T_int .geq t6 (.int .i64 0)) h fun t7 h =>
  joinW (fun (J1 : AV → AV → List AObj → Prop) =>
  guardW t7 true
  (runD (fitD T_int (loadD h t3)) h fun t9 h =>
    runD (binD T_int .leq t9 (.int .i64 4096)) h fun t10 h =>
    J1 (.bool true) t10 h)
  (J1 (.bool false) .und h))
  (fun t8 t10 h => runD (pickD t8 t10 (.bool false)) h fun t11 h =>
  joinW (fun (J2 : AV → AV → List AObj → Prop) =>
  guardW t11 true
  (runD (fitD T_int (loadD h t3)) h fun t13 h =>
    runD (binD T_int .rem t13 (.int .i64 8)) h fun t14 h =>
    runD (binD T_int .eql t14 (.int .i64 0)) h fun t15 h =>
    J2 (.bool true) t15 h)
  (J2 (.bool false) .und h))
  (fun t12 t15 h => runD (pickD t12 t15 (.bool false)) h fun t16 h =>
  joinW (fun (J3 : AV → AV → List AObj → Prop) =>
  guardW t16 true
  (callW c (.fn (.func 113) [] []) [t0, (.fn (.func 114) [] [t3])] h (fun t21 h =>
    runD (unD .not t21) h fun t22 h =>
    J3 (.bool true) t22 h)
    (fun v h => K (.pan v) h))
  (J3 (.bool false) .und h))
  (fun t18 t22 h => runD (pickD t18 t22 (.bool false)) h fun t23 h =>
  K (.ret t23) h)))
def micro_sound.loops : Nat → LInfo
  | 1 => ⟨[], [], [], [(3, none), (5, some [7, 12])], []⟩
  | _ => ⟨[], [], [], [], []⟩
def micro_sound.H (c : Ctx) (t0 : AV) (t1 : AV) (h : List AObj) (K : AOut → List AObj → Prop) : Prop :=
  boxW T_api_Mem t0 h fun t2 h =>
  runD (fitD T_api_Mem (loadD h t2)) h fun t5 h =>
  callW c (.fn (.func 124) [] []) [t5] h (fun t6 h =>
  joinW (fun (J1 : AV → AV → List AObj → Prop) =>
  guardW t6 true
  (runD (fieldAddrD T_api_Mem t2 0) h fun t9 h =>
    runD (fitD T_sl_int (loadD h t9)) h fun t10 h =>
    runD (lenD T_sl_int h t10) h fun t11 h =>
    callW c (.fn (.func 70) [] []) [t1, t11] h (fun t12 h =>
    J1 (.bool true) t12 h)
    (fun v h => K (.pan v) h))
  (J1 (.bool false) .und h))
  (fun t7 t12 h => runD (pickD t7 t12 (.bool false)) h fun t13 h =>
  K (.ret t13) h))
  (fun v h => K (.pan v) h)
def micro_first.loops : Nat → LInfo
  | 4 => ⟨[15], [false], [1, 6, 7, 8, 14], [], []⟩
  | _ => ⟨[], [], [], [], []⟩
def micro_first.L1 (c : Ctx) (J1 : AV → AV → List AObj → Prop) (K : AOut → List AObj → Prop) (lv : List AV) (h0 : List AObj) (n0 : Nat) (c1 : AV) (c6 : AV) (c7 : AV) (c8 : AV) (c14 : AV) : Prop :=
  ∃ I : Nat → List AV → List AObj → Prop, (∃ n, I n lv h0) ∧ ∀ n h, ∀ t15, I n [t15] h →
    runD (binD T_int .lss t15 c14) h fun t16 h =>
    condW t16
    (runD (indexAddrD T_sl_api_Micro h c1 t15) h fun t21 h =>
    runD (fieldAddrD T_api_Micro t21 0) h fun t22 h =>
    runD (fitD T_int (loadD h t22)) h fun t23 h =>
    runD (lookupD T_map_int_func_p_micro_doer_api_Micro h c8 t23) h fun t24 h =>
    runD (indexAddrD T_sl_api_Micro h c1 t15) h fun t28 h =>
    runD (fitD T_api_Micro (loadD h t28)) h fun t29 h =>
    callW c t24 [c7, t29] h (fun t30 h =>
    runD (binD T_int .add t15 (.int .i64 1)) h fun t31 h =>
    (∃ m, m < n ∧ I m (AV.norms n0 h [t31]) (normH n0 h)) ∧ AV.norms n0 h [c1, c6, c7, c8, c14] = [c1, c6, c7, c8, c14])
    (fun v h => K (.pan v) h))
    (J1 c6 c7 h)
def micro_first.H (c : Ctx) (t0 : AV) (t1 : AV) (t2 : AV) (h : List AObj) (K : AOut → List AObj → Prop) : Prop :=
  boxW T_api_Mem t0 h fun t3 h =>
  allocW T_api_Mem h fun t6 h =>
  runD (fitD T_api_Mem (loadD h t3)) h fun t10 h =>
  runD (buildD T_micro_doer [(0, t10)]) h fun t11 h =>
  boxW T_micro_doer t11 h fun t12 h =>
  callW c (.fn (.func 125) [] []) [] h (fun t13 h =>
  joinW (fun (J1 : AV → AV → List AObj → Prop) =>
  promV [false] [(.int .i64 0)] h fun lv h => micro_first.L1 c J1 K (AV.norms h.length h lv) (normH h.length h) h.length (AV.norm h.length h t1) (AV.norm h.length h t6) (AV.norm h.length h t12) (AV.norm h.length h t13) (AV.norm h.length h t2))
  (fun t6 t7 h => runD (nilCheckD t7) h fun t33 h =>
  runD (fieldAddrD T_micro_doer t33 0) h fun t34 h =>
  runD (fitD T_api_Mem (loadD h t34)) h fun t35 h =>
  runH (storeH T_api_Mem h t6 t35) h fun _ h =>
  loadRes (fitD T_api_Mem (loadD h t6)) fun r0 => K (.ret r0) h))
  (fun v h => K (.pan v) h)
def micro_Check_1.loops : Nat → LInfo
  | _ => ⟨[], [], [], [], []⟩
def micro_Check_1.H (c : Ctx) (t0 : AV) (t1 : AV) (h : List AObj) (K : AOut → List AObj → Prop) : Prop :=
  boxW T_api_Micro t0 h fun t2 h =>
  runD (fitD T_api_Micro (loadD h t2)) h fun t4 h =>
  runD (fitD T_int (loadD h t1)) h fun t5 h =>
  callW c (.fn (.func 115) [] []) [t4, t5] h (fun t6 h =>
  runD (unD .not t6) h fun t7 h =>
  K (.ret t7) h)
  (fun v h => K (.pan v) h)
def micro_may.loops : Nat → LInfo
  | 2 => ⟨[], [], [], [(4, none), (7, some [14, 21]), (2, none), (8, some [23, 31])], []⟩
  | _ => ⟨[], [], [], [], []⟩
def micro_may.H (c : Ctx) (t0 : AV) (t1 : AV) (h : List AObj) (K : AOut → List AObj → Prop) : Prop :=
  boxW T_api_Micro t0 h fun t2 h =>
  runD (makeMapD T_map_int_int h.length) h fun t6 h =>
  runH (mapSetH T_map_int_int h t6 (.int .i64 1) t1) h fun _ h =>
  runD (binD T_int .quo t1 (.int .i64 8)) h fun t9 h =>
  runH (mapSetH T_map_int_int h t6 (.int .i64 2) t9) h fun _ h =>
  runD (fieldAddrD T_api_Micro t2 1) h fun t11 h =>
  runD (fitD T_int (loadD h t11)) h fun t12 h =>
  runD (binD T_int .geq t12 (.int .i64 0)) h fun t13 h =>
  joinW (fun (J1 : AV → AV → List AObj → Prop) =>
  guardW t13 true
  (runD (fieldAddrD T_api_Micro t2 1) h fun t15 h =>
    runD (fitD T_int (loadD h t15)) h fun t16 h =>
    runD (fieldAddrD T_api_Micro t2 0) h fun t18 h =>
    runD (fitD T_int (loadD h t18)) h fun t19 h =>
    runD (lookupD T_map_int_int h t6 t19) h fun t20 h =>
    runD (binD T_int .lss t16 t20) h fun t21 h =>
    J1 (.bool true) t21 h)
  (J1 (.bool false) .und h))
  (fun t14 t21 h => runD (pickD t14 t21 (.bool false)) h fun t22 h =>
  joinW (fun (J2 : AV → AV → List AObj → Prop) =>
  guardW t22 true
  (runD (fieldAddrD T_api_Micro t2 0) h fun t24 h =>
    runD (fitD T_int (loadD h t24)) h fun t25 h =>
    runD (binD T_int .eql t25 (.int .i64 1)) h fun t26 h =>
    joinW (fun (J3 : AV → AV → List AObj → Prop) =>
    guardW t26 false
    (runD (fieldAddrD T_api_Micro t2 2) h fun t28 h =>
      runD (fitD T_int (loadD h t28)) h fun t29 h =>
      runD (binD T_int .eql t29 (.int .i64 0)) h fun t30 h =>
      J3 (.bool false) t30 h)
    (J3 (.bool true) .und h))
    (fun t27 t30 h => runD (pickD t27 (.bool true) t30) h fun t31 h =>
    J2 (.bool true) t31 h))
  (J2 (.bool false) .und h))
  (fun t23 t31 h => runD (pickD t23 t31 (.bool false)) h fun t32 h =>
  K (.ret t32) h))
def micro_kinds.loops : Nat → LInfo
  | _ => ⟨[], [], [], [], []⟩
def micro_kinds.H (c : Ctx) (h : List AObj) (K : AOut → List AObj → Prop) : Prop :=
  runD (makeMapD T_map_int_func_p_micro_doer_api_Micro h.length) h fun t1 h =>
  runH (mapSetH T_map_int_func_p_micro_doer_api_Micro h t1 (.int .i64 1) (.fn (.func 136) [] [])) h fun _ h =>
  runH (mapSetH T_map_int_func_p_micro_doer_api_Micro h t1 (.int .i64 2) (.fn (.func 137) [] [])) h fun _ h =>
  K (.ret t1) h
def micro_doer_store.loops : Nat → LInfo
  | _ => ⟨[], [], [], [], []⟩
def micro_doer_store.H (c : Ctx) (t0 : AV) (t1 : AV) (h : List AObj) (K : AOut → List AObj → Prop) : Prop :=
  boxW T_api_Micro t1 h fun t3 h =>
  runD (nilCheckD t0) h fun t7 h =>
  runD (fieldAddrD T_micro_doer t7 0) h fun t8 h =>
  runD (fitD T_api_Mem (loadD h t8)) h fun t9 h =>
  runD (fieldAddrD T_api_Micro t3 1) h fun t10 h =>
  runD (fitD T_int (loadD h t10)) h fun t11 h =>
  runD (fieldAddrD T_api_Micro t3 2) h fun t12 h =>
  runD (fitD T_int (loadD h t12)) h fun t13 h =>
  callW c.noS (.fn (.func 142) [] []) [t9, t11, t13] h (fun t14 h =>
  runD (extractD t14 0) h fun t15 h =>
  runD (extractD t14 1) h fun t16 h =>
  runD (nilCheckD t0) h fun t17 h =>
  runD (fieldAddrD T_micro_doer t17 0) h fun t18 h =>
  runH (storeH T_api_Mem h t18 t15) h fun _ h =>
  K (.ret (.tup [])) h)
  (fun _ _ => False)
def micro_doer_persist.loops : Nat → LInfo
  | _ => ⟨[], [], [], [], []⟩
def micro_doer_persist.H (c : Ctx) (t0 : AV) (t1 : AV) (h : List AObj) (K : AOut → List AObj → Prop) : Prop :=
  boxW T_api_Micro t1 h fun t3 h =>
  runD (nilCheckD t0) h fun t7 h =>
  runD (fieldAddrD T_micro_doer t7 0) h fun t8 h =>
  runD (fitD T_api_Mem (loadD h t8)) h fun t9 h =>
  runD (fieldAddrD T_api_Micro t3 1) h fun t10 h =>
  runD (fitD T_int (loadD h t10)) h fun t11 h =>
  callW c.noS (.fn (.func 143) [] []) [t9, t11] h (fun t12 h =>
  runD (extractD t12 0) h fun t13 h =>
  runD (extractD t12 1) h fun t14 h =>
  runD (nilCheckD t0) h fun t15 h =>
  runD (fieldAddrD T_micro_doer t15 0) h fun t16 h =>
  runH (storeH T_api_Mem h t16 t13) h fun _ h =>
  runD (nilCheckD t0) h fun t20 h =>
  runD (fieldAddrD T_micro_doer t20 0) h fun t21 h =>
  runD (fitD T_api_Mem (loadD h t21)) h fun t22 h =>
  callW c (.fn (.func 144) [] []) [t22] h (fun t23 h =>
  runD (extractD t23 0) h fun t24 h =>
  runD (extractD t23 1) h fun t25 h =>
  runD (nilCheckD t0) h fun t26 h =>
  runD (fieldAddrD T_micro_doer t26 0) h fun t27 h =>
  runH (storeH T_api_Mem h t27 t24) h fun _ h =>
  K (.ret (.tup [])) h)
  (fun v h => K (.pan v) h))
  (fun _ _ => False)
theorem micro_Run.eq (F : List (FuncId × Contract)) (S : List (FuncId × Con)) (t0 t1 : AV) (h : List AObj) (K : AOut → List AObj → Prop) : funW (ctx F S micro_Run.loops) Try.f63 [t0, t1] h K = micro_Run.H (ctx F S micro_Run.loops) t0 t1 h K := by kernel_rfl
theorem micro_Do.eq (F : List (FuncId × Contract)) (S : List (FuncId × Con)) (t0 t1 : AV) (h : List AObj) (K : AOut → List AObj → Prop) : funW (ctx F S micro_Do.loops) Try.f65 [t0, t1] h K = micro_Do.H (ctx F S micro_Do.loops) t0 t1 h K := by kernel_rfl
theorem micro_Crash.eq (F : List (FuncId × Contract)) (S : List (FuncId × Con)) (t0 t1 t2 t3 : AV) (h : List AObj) (K : AOut → List AObj → Prop) : funW (ctx F S micro_Crash.loops) Try.f67 [t0, t1, t2, t3] h K = micro_Crash.H (ctx F S micro_Crash.loops) t0 t1 t2 t3 h K := by kernel_rfl
theorem micro_Check.eq (F : List (FuncId × Contract)) (S : List (FuncId × Con)) (t0 t1 : AV) (h : List AObj) (K : AOut → List AObj → Prop) : funW (ctx F S micro_Check.loops) Try.f70 [t0, t1] h K = micro_Check.H (ctx F S micro_Check.loops) t0 t1 h K := by kernel_rfl
theorem micro_sound.eq (F : List (FuncId × Contract)) (S : List (FuncId × Con)) (t0 t1 : AV) (h : List AObj) (K : AOut → List AObj → Prop) : funW (ctx F S micro_sound.loops) Try.f104 [t0, t1] h K = micro_sound.H (ctx F S micro_sound.loops) t0 t1 h K := by kernel_rfl
theorem micro_first.eq (F : List (FuncId × Contract)) (S : List (FuncId × Con)) (t0 t1 t2 : AV) (h : List AObj) (K : AOut → List AObj → Prop) : funW (ctx F S micro_first.loops) Try.f105 [t0, t1, t2] h K = micro_first.H (ctx F S micro_first.loops) t0 t1 t2 h K := by kernel_rfl
theorem micro_Check_1.eq (F : List (FuncId × Contract)) (S : List (FuncId × Con)) (t0 t1 : AV) (h : List AObj) (K : AOut → List AObj → Prop) : funW (ctx F S micro_Check_1.loops) Try.f114 [t0, t1] h K = micro_Check_1.H (ctx F S micro_Check_1.loops) t0 t1 h K := by kernel_rfl
theorem micro_may.eq (F : List (FuncId × Contract)) (S : List (FuncId × Con)) (t0 t1 : AV) (h : List AObj) (K : AOut → List AObj → Prop) : funW (ctx F S micro_may.loops) Try.f115 [t0, t1] h K = micro_may.H (ctx F S micro_may.loops) t0 t1 h K := by kernel_rfl
theorem micro_kinds.eq (F : List (FuncId × Contract)) (S : List (FuncId × Con)) (h : List AObj) (K : AOut → List AObj → Prop) : funW (ctx F S micro_kinds.loops) Try.f125 [] h K = micro_kinds.H (ctx F S micro_kinds.loops)  h K := by kernel_rfl
theorem micro_doer_store.eq (F : List (FuncId × Contract)) (S : List (FuncId × Con)) (t0 t1 : AV) (h : List AObj) (K : AOut → List AObj → Prop) : funW (ctx F S micro_doer_store.loops) Try.f136 [t0, t1] h K = micro_doer_store.H (ctx F S micro_doer_store.loops) t0 t1 h K := by kernel_rfl
theorem micro_doer_persist.eq (F : List (FuncId × Contract)) (S : List (FuncId × Con)) (t0 t1 : AV) (h : List AObj) (K : AOut → List AObj → Prop) : funW (ctx F S micro_doer_persist.loops) Try.f137 [t0, t1] h K = micro_doer_persist.H (ctx F S micro_doer_persist.loops) t0 t1 h K := by kernel_rfl
theorem micro_Run.at : Try.prog.funcs[63]? = some Try.f63 := by kernel_rfl
theorem micro_Run.nm : (Try.f63.name == "runtime.NumGoroutine") = false := by kernel_rfl
theorem micro_Run.bd : Try.f63.body.isNone = false := by kernel_rfl
theorem micro_Do.at : Try.prog.funcs[65]? = some Try.f65 := by kernel_rfl
theorem micro_Do.nm : (Try.f65.name == "runtime.NumGoroutine") = false := by kernel_rfl
theorem micro_Do.bd : Try.f65.body.isNone = false := by kernel_rfl
theorem micro_Crash.at : Try.prog.funcs[67]? = some Try.f67 := by kernel_rfl
theorem micro_Crash.nm : (Try.f67.name == "runtime.NumGoroutine") = false := by kernel_rfl
theorem micro_Crash.bd : Try.f67.body.isNone = false := by kernel_rfl
theorem micro_Check.at : Try.prog.funcs[70]? = some Try.f70 := by kernel_rfl
theorem micro_Check.nm : (Try.f70.name == "runtime.NumGoroutine") = false := by kernel_rfl
theorem micro_Check.bd : Try.f70.body.isNone = false := by kernel_rfl
theorem micro_sound.at : Try.prog.funcs[104]? = some Try.f104 := by kernel_rfl
theorem micro_sound.nm : (Try.f104.name == "runtime.NumGoroutine") = false := by kernel_rfl
theorem micro_sound.bd : Try.f104.body.isNone = false := by kernel_rfl
theorem micro_first.at : Try.prog.funcs[105]? = some Try.f105 := by kernel_rfl
theorem micro_first.nm : (Try.f105.name == "runtime.NumGoroutine") = false := by kernel_rfl
theorem micro_first.bd : Try.f105.body.isNone = false := by kernel_rfl
theorem micro_Check_1.at : Try.prog.funcs[114]? = some Try.f114 := by kernel_rfl
theorem micro_Check_1.nm : (Try.f114.name == "runtime.NumGoroutine") = false := by kernel_rfl
theorem micro_Check_1.bd : Try.f114.body.isNone = false := by kernel_rfl
theorem micro_may.at : Try.prog.funcs[115]? = some Try.f115 := by kernel_rfl
theorem micro_may.nm : (Try.f115.name == "runtime.NumGoroutine") = false := by kernel_rfl
theorem micro_may.bd : Try.f115.body.isNone = false := by kernel_rfl
theorem micro_kinds.at : Try.prog.funcs[125]? = some Try.f125 := by kernel_rfl
theorem micro_kinds.nm : (Try.f125.name == "runtime.NumGoroutine") = false := by kernel_rfl
theorem micro_kinds.bd : Try.f125.body.isNone = false := by kernel_rfl
theorem micro_doer_store.at : Try.prog.funcs[136]? = some Try.f136 := by kernel_rfl
theorem micro_doer_store.nm : (Try.f136.name == "runtime.NumGoroutine") = false := by kernel_rfl
theorem micro_doer_store.bd : Try.f136.body.isNone = false := by kernel_rfl
theorem micro_doer_persist.at : Try.prog.funcs[137]? = some Try.f137 := by kernel_rfl
theorem micro_doer_persist.nm : (Try.f137.name == "runtime.NumGoroutine") = false := by kernel_rfl
theorem micro_doer_persist.bd : Try.f137.body.isNone = false := by kernel_rfl
end Lam
namespace Lam
open Go Go.Proofs
set_option linter.unusedVariables false
set_option linter.unnecessarySimpa false
set_option linter.unusedSimpArgs false
def micro_may.C : Contract
  | [.agg [.int .i64 k, .int .i64 a, .int .i64 w], .int .i64 n] => some (false, pD True (.bool (mmay ⟨k, a, w⟩ n)))
  | _ => none
set_option maxRecDepth 20000 in
theorem micro_may.spec : FSpec Try.prog 115 micro_may.C := by
  refine FSpec.of (ctx_ok (F := []) (S := []) (by simp) (by simp) micro_may.loops) micro_may.at micro_may.nm micro_may.bd ?_
  intro vs b S v news e hS
  unfold micro_may.C at e
  split at e
  rotate_left
  · cases e
  cases e
  rw [micro_may.eq]
  unfold micro_may.H
  simp (maxSteps := 4000000) only [go_sem, Nat.reduceEqDiff, Nat.reduceLT, Nat.reduceAdd, Nat.reduceSub, Nat.reduceLeDiff, List.reduceReplicate, Int.reduceToNat]
  refine ⟨by decide, ?_⟩
  exact post_val rfl rfl
def micro_Check_1.K : Con := fun args h K => match args with
  | [a0, a1] => micro_Check_1.H (ctx [(115, micro_may.C)] [] micro_Check_1.loops) a0 a1 h K
  | _ => False
theorem micro_Check_1.spec : SSpec Try.prog 114 micro_Check_1.K := by
  refine SSpec.of (ctx_ok (F := [(115, micro_may.C)]) (S := []) (by simpa using micro_may.spec) (by simp) micro_Check_1.loops) micro_Check_1.at micro_Check_1.nm micro_Check_1.bd ?_
  intro args h K hC
  unfold micro_Check_1.K at hC
  split at hC
  · rw [micro_Check_1.eq]; exact hC
  · exact hC.elim
def slices_IndexFunc_sl_api_Micro_api_Micro.K : Con := fun args h K => match args with
  | [a0, a1] => slices_IndexFunc_sl_api_Micro_api_Micro.H (ctx [] [(114, micro_Check_1.K)] slices_IndexFunc_sl_api_Micro_api_Micro.loops) a0 a1 h K
  | _ => False
theorem slices_IndexFunc_sl_api_Micro_api_Micro.spec : SSpec Try.prog 131 slices_IndexFunc_sl_api_Micro_api_Micro.K := by
  refine SSpec.of (ctx_ok (F := []) (S := [(114, micro_Check_1.K)]) (by simp) (by simpa using micro_Check_1.spec) slices_IndexFunc_sl_api_Micro_api_Micro.loops) slices_IndexFunc_sl_api_Micro_api_Micro.at slices_IndexFunc_sl_api_Micro_api_Micro.nm slices_IndexFunc_sl_api_Micro_api_Micro.bd ?_
  intro args h K hC
  unfold slices_IndexFunc_sl_api_Micro_api_Micro.K at hC
  split at hC
  · rw [slices_IndexFunc_sl_api_Micro_api_Micro.eq]; exact hC
  · exact hC.elim
def slices_ContainsFunc_sl_api_Micro_api_Micro.K : Con := fun args h K => match args with
  | [a0, a1] => slices_ContainsFunc_sl_api_Micro_api_Micro.H (ctx [] [(131, slices_IndexFunc_sl_api_Micro_api_Micro.K)] slices_ContainsFunc_sl_api_Micro_api_Micro.loops) a0 a1 h K
  | _ => False
theorem slices_ContainsFunc_sl_api_Micro_api_Micro.spec : SSpec Try.prog 113 slices_ContainsFunc_sl_api_Micro_api_Micro.K := by
  refine SSpec.of (ctx_ok (F := []) (S := [(131, slices_IndexFunc_sl_api_Micro_api_Micro.K)]) (by simp) (by simpa using slices_IndexFunc_sl_api_Micro_api_Micro.spec) slices_ContainsFunc_sl_api_Micro_api_Micro.loops) slices_ContainsFunc_sl_api_Micro_api_Micro.at slices_ContainsFunc_sl_api_Micro_api_Micro.nm slices_ContainsFunc_sl_api_Micro_api_Micro.bd ?_
  intro args h K hC
  unfold slices_ContainsFunc_sl_api_Micro_api_Micro.K at hC
  split at hC
  · rw [slices_ContainsFunc_sl_api_Micro_api_Micro.eq]; exact hC
  · exact hC.elim

theorem micro_Check_1_vc (x : Mic) (n : Int) (h : List AObj) (K : AOut → List AObj → Prop) (id : Nat) (hid : h[id]? = some (.box (.int .i64 n)))
    (hK : K (.ret (.bool (!mmay x n))) (h ++ [.box (encMic x)])) : micro_Check_1.K [.agg [.int .i64 x.kind, .int .i64 x.at_, .int .i64 x.val], .ptr id []] h K := by
  have hlt : id < h.length := (List.getElem?_eq_some_iff.1 hid).1
  have hid' : ∀ r, (h ++ r)[id]? = some (.box (.int .i64 n)) := fun r => by rw [List.getElem?_append_left hlt]; exact hid
  have hlen : ∀ o r, (h ++ o :: r)[h.length]? = some o := fun o r => by simp
  unfold micro_Check_1.K
  simp only
  unfold micro_Check_1.H
  simp only [go_sem, Nat.reduceEqDiff, Nat.reduceLT, Nat.reduceAdd, Nat.reduceSub, Nat.reduceLeDiff, List.reduceReplicate, Int.reduceToNat, hid', hlen, micro_may.C]
  exact hK

theorem index_vc (l : List Mic) (n : Int) (K : AOut → List AObj → Prop) (x : Bool) (hr : roomy l.length) (h : List AObj) (hh : h = [.box (.int .i64 n)])
    (hK : ∀ r h', (r = -1 ∧ (∀ y ∈ l, mmay y n = true)) ∨ (0 ≤ r ∧ ∃ y ∈ l, mmay y n = false) → K (.ret (.int .i64 r)) h') :
    slices_IndexFunc_sl_api_Micro_api_Micro.K [.sl x (.mics l), .fn (.func 114) [] [.ptr 0 []]] h K := by
  unfold roomy at hr
  unfold slices_IndexFunc_sl_api_Micro_api_Micro.K
  simp only
  unfold slices_IndexFunc_sl_api_Micro_api_Micro.H
  subst hh
  simp only [go_sem, Nat.reduceEqDiff, Nat.reduceLT, Nat.reduceAdd, Nat.reduceSub, Nat.reduceLeDiff, List.reduceReplicate, Int.reduceToNat, joinW_eq]
  unfold slices_IndexFunc_sl_api_Micro_api_Micro.L1
  refine ⟨fun m lv h' => ∃ k : Nat, k + m = l.length ∧ lv = [.int .i64 k] ∧ h' = [.box (.int .i64 n)] ∧ ∀ y ∈ l.take k, mmay y n = true, ⟨l.length, 0, by omega, rfl, rfl, by simp⟩, ?_⟩
  rintro m h' t8 ⟨k, hk, hlv, rfl, hall⟩
  simp only [List.cons.injEq, and_true] at hlv
  subst hlv
  simp only [go_sem, Nat.reduceEqDiff, Nat.reduceLT, Nat.reduceAdd, Nat.reduceSub, Nat.reduceLeDiff, List.reduceReplicate, Int.reduceToNat]
  refine ⟨fun hlt => ⟨by omega, ?_⟩, fun hge => ?_⟩
  · have hkl : k < l.length := by omega
    apply micro_Check_1_vc _ n _ _ 0 rfl
    simp only [go_sem, Nat.reduceEqDiff, Nat.reduceLT, Nat.reduceAdd, Nat.reduceSub, Nat.reduceLeDiff, List.reduceReplicate, Int.reduceToNat]
    refine ⟨fun h => hK _ _ (.inr ⟨by omega, _, getD_mem l k _ hkl, by simpa using h⟩), fun h => ?_⟩
    refine ⟨m - 1, by omega, k + 1, by omega, by rw [w64 (by omega) (by omega)]; rfl, ?_⟩
    intro y hy
    rw [take_next l k ⟨0, 0, 0⟩ hkl] at hy
    rcases List.mem_append.1 hy with hy | hy
    · exact hall y hy
    · rw [List.mem_singleton.1 hy]; simpa using h
  · have : k = l.length := by omega
    subst this
    rw [List.take_length] at hall
    exact hK _ _ (.inl ⟨rfl, hall⟩)

theorem contains_vc (l : List Mic) (n : Int) (K : AOut → List AObj → Prop) (x : Bool) (hr : roomy l.length) (h : List AObj) (hh : h = [.box (.int .i64 n)])
    (hK : ∀ h', K (.ret (.bool (!l.all (mmay · n)))) h') :
    slices_ContainsFunc_sl_api_Micro_api_Micro.K [.sl x (.mics l), .fn (.func 114) [] [.ptr 0 []]] h K := by
  unfold slices_ContainsFunc_sl_api_Micro_api_Micro.K
  simp only
  unfold slices_ContainsFunc_sl_api_Micro_api_Micro.H
  subst hh
  simp only [go_sem, Nat.reduceEqDiff, Nat.reduceLT, Nat.reduceAdd, Nat.reduceSub, Nat.reduceLeDiff, List.reduceReplicate, Int.reduceToNat]
  apply index_vc l n _ x hr _ rfl
  intro r h' hcase
  simp only [go_sem, Nat.reduceEqDiff, Nat.reduceLT, Nat.reduceAdd, Nat.reduceSub, Nat.reduceLeDiff, List.reduceReplicate, Int.reduceToNat]
  have : decide (0 ≤ r) = !l.all (mmay · n) := by
    rcases hcase with ⟨rfl, h⟩ | ⟨h0, y, hy, h⟩
    · have : l.all (mmay · n) = true := List.all_eq_true.2 h
      rw [this]; rfl
    · have : l.all (mmay · n) = false := by
        rw [List.all_eq_false]; exact ⟨y, hy, by simp [h]⟩
      rw [this]; simpa using h0
  rw [this]; exact hK h'

def micro_Check.C : Contract
  | [.sl _ (.mics l), .int .i64 n] => some (false, pD (roomy l.length) (.bool (sizedB n && l.all (mmay · n))))
  | _ => none
set_option maxRecDepth 20000 in
theorem micro_Check.spec : FSpec Try.prog 70 micro_Check.C := by
  refine FSpec.of (ctx_ok (F := []) (S := [(113, slices_ContainsFunc_sl_api_Micro_api_Micro.K)]) (by simp) (by simpa using slices_ContainsFunc_sl_api_Micro_api_Micro.spec) micro_Check.loops) micro_Check.at micro_Check.nm micro_Check.bd ?_
  intro vs b S v news e hS
  unfold micro_Check.C at e
  split at e
  rotate_left
  · cases e
  cases e
  rw [micro_Check.eq]
  unfold micro_Check.H
  simp (maxSteps := 4000000) only [go_sem, Nat.reduceEqDiff, Nat.reduceLT, Nat.reduceAdd, Nat.reduceSub, Nat.reduceLeDiff, List.reduceReplicate, Int.reduceToNat]
  refine ⟨by simp, ?_⟩
  rw [joinW_eq]
  simp only [guardW_bool]
  refine ⟨fun hs => ?_, fun hs => ?_⟩
  · apply contains_vc _ _ _ _ hS _ rfl
    intro h'
    simp only [go_sem, Nat.reduceEqDiff, Nat.reduceLT, Nat.reduceAdd, Nat.reduceSub, Nat.reduceLeDiff, List.reduceReplicate, Int.reduceToNat, Bool.not_not]
    exact post_val (by rw [show sizedB _ = true from hs, Bool.true_and]; rfl) rfl
  · simp only [go_sem, Nat.reduceEqDiff, Nat.reduceLT, Nat.reduceAdd, Nat.reduceSub, Nat.reduceLeDiff, List.reduceReplicate, Int.reduceToNat]
    exact post_val (by rw [show sizedB _ = false from hs, Bool.false_and]; rfl) rfl


def micro_doer_store.K : Con := fun args h K => match args with
  | [a0, a1] => micro_doer_store.H (ctx [(142, pmem_Put.C)] [] micro_doer_store.loops) a0 a1 h K
  | _ => False
theorem micro_doer_store.spec : SSpec Try.prog 136 micro_doer_store.K := by
  refine SSpec.of (ctx_ok (F := [(142, pmem_Put.C)]) (S := []) (by simpa using pmem_Put.spec) (by simp) micro_doer_store.loops) micro_doer_store.at micro_doer_store.nm micro_doer_store.bd ?_
  intro args h K hC
  unfold micro_doer_store.K at hC
  split at hC
  · rw [micro_doer_store.eq]; exact hC
  · exact hC.elim
def micro_doer_persist.K : Con := fun args h K => match args with
  | [a0, a1] => micro_doer_persist.H (ctx [(143, pmem_Flush.C), (144, pmem_Fence.C)] [] micro_doer_persist.loops) a0 a1 h K
  | _ => False
theorem micro_doer_persist.spec : SSpec Try.prog 137 micro_doer_persist.K := by
  refine SSpec.of (ctx_ok (F := [(143, pmem_Flush.C), (144, pmem_Fence.C)]) (S := []) (by simpa using ⟨pmem_Flush.spec, pmem_Fence.spec⟩) (by simp) micro_doer_persist.loops) micro_doer_persist.at micro_doer_persist.nm micro_doer_persist.bd ?_
  intro args h K hC
  unfold micro_doer_persist.K at hC
  split at hC
  · rw [micro_doer_persist.eq]; exact hC
  · exact hC.elim
def micro_kinds.K : Con := fun args h K => match args with
  | [] => micro_kinds.H (ctx [] [] micro_kinds.loops)  h K
  | _ => False
theorem micro_kinds.spec : SSpec Try.prog 125 micro_kinds.K := by
  refine SSpec.of (ctx_ok (F := []) (S := []) (by simp) (by simp) micro_kinds.loops) micro_kinds.at micro_kinds.nm micro_kinds.bd ?_
  intro args h K hC
  unfold micro_kinds.K at hC
  split at hC
  · rw [micro_kinds.eq]; exact hC
  · exact hC.elim
def micro_first.C : Contract
  | [.agg [.sl false (.ints .i64 vol), .sl false (.ints .i64 per), .sl false (.pends pend)], .sl _ (.mics l), .int .i64 n] => some (false, pD (Mm.ok ⟨vol, per, pend⟩ ∧ (∀ x ∈ l, MayN x vol.length) ∧ pend.length + l.length ≤ 1000000 ∧ 0 ≤ n ∧ n ≤ (l.length : Int)) (runS ⟨vol, per, pend⟩ (l.take n.toNat)).V)
  | _ => none
set_option maxRecDepth 20000 in
theorem micro_first.spec : FSpec Try.prog 105 micro_first.C := by
  refine FSpec.of (ctx_ok (F := []) (S := [(125, micro_kinds.K), (136, micro_doer_store.K), (137, micro_doer_persist.K)]) (by simp) (by simpa using ⟨micro_kinds.spec, micro_doer_store.spec, micro_doer_persist.spec⟩) micro_first.loops) micro_first.at micro_first.nm micro_first.bd ?_
  intro vs b S v news e hS
  unfold micro_first.C at e
  split at e
  rotate_left
  · cases e
  cases e
  rw [micro_first.eq]
  unfold micro_first.H
  simp (maxSteps := 4000000) only [go_sem, Nat.reduceEqDiff, Nat.reduceLT, Nat.reduceAdd, Nat.reduceSub, Nat.reduceLeDiff, List.reduceReplicate, Int.reduceToNat, micro_kinds.K, micro_kinds.H]
  rename_i vol per pend _ l n
  obtain ⟨ok, hl, hsz, hn0, hn1⟩ := hS
  rw [joinW_eq]
  unfold micro_first.L1
  refine loop1 (σ := Nat) (fun k => .int .i64 k) (fun k => [.box (memV vol per pend), .box (memV [] [] []), .box (.agg [(runS ⟨vol, per, pend⟩ (l.take k)).V]), .map (.ifn fun j => if j = 2 then some 137 else if j = 1 then some 136 else none)]) (fun k => n.toNat - k) (fun k => k ≤ n.toNat) 0 rfl rfl (Nat.zero_le _) ?_
  intro I back k hk
  have okk := runS_ok (l.take k) ok fun x hx => hl x ((List.take_sublist _ _).subset hx)
  have lenk := runS_len (l.take k) ⟨vol, per, pend⟩
  have pendk := runS_pend_le (l.take k) ⟨vol, per, pend⟩
  rw [List.length_take] at pendk
  simp only [] at lenk pendk
  simp only [go_sem, Nat.reduceEqDiff, Nat.reduceLT, Nat.reduceAdd, Nat.reduceSub, Nat.reduceLeDiff, List.reduceReplicate, Int.reduceToNat]
  refine ⟨fun hlt => ?_, fun hge => ?_⟩
  · have hkl : k < l.length := by omega
    have hnx : runS ⟨vol, per, pend⟩ (l.take (k + 1)) = stepM (runS ⟨vol, per, pend⟩ (l.take k)) (l.getD k ⟨0, 0, 0⟩) := by
      rw [take_next l k ⟨0, 0, 0⟩ hkl, runS_append]; rfl
    have hx := hl _ (getD_mem l k ⟨0, 0, 0⟩ hkl)
    generalize l.getD k ⟨0, 0, 0⟩ = x at *
    generalize runS ⟨vol, per, pend⟩ (l.take k) = m at *
    have hsm : smallM m.vol m.per m.pend := OkM.small okk (by omega)
    refine ⟨by omega, ?_⟩
    rcases hx with ⟨hkd, h0, h1⟩ | ⟨hkd, h0, h1, _⟩
    · have hp : placeB m.vol m.per m.pend x.at_ = true := place_iff.2 ⟨⟨h0, by omega⟩, okk⟩
      have hst : stepM m x = store m x.at_ x.val := by unfold stepM; rw [if_pos hkd]
      have e : (if x.kind = 2 then some 137 else if x.kind = 1 then some 136 else none : Option Nat) = some 136 := by rw [if_neg (by omega), if_pos hkd]
      simp only [e, micro_doer_store.K, micro_doer_store.H, pmem_Put.C, putM_ok hp, go_sem, Nat.reduceEqDiff, Nat.reduceLT, Nat.reduceAdd, Nat.reduceSub, Nat.reduceLeDiff, List.reduceReplicate, Int.reduceToNat]
      refine ⟨by omega, ⟨hsm, by unfold roomy; omega⟩, back (k + 1) (by omega) (by rw [wnext (by omega)]) ?_ (by omega)⟩
      rw [hnx, hst]; rfl
    · have hp : placeB m.vol m.per m.pend (firstI m.vol x.at_) = true := (OkM.first okk h0 (by omega)).2
      have hst : stepM m x = persist m x.at_ := by unfold stepM; rw [if_neg (by omega)]
      have e : (if x.kind = 2 then some 137 else if x.kind = 1 then some 136 else none : Option Nat) = some 137 := by rw [if_pos hkd]
      have okf := okk.flush x.at_
      simp only [e, micro_doer_persist.K, micro_doer_persist.H, pmem_Flush.C, flushM_ok hp, fenceM_ok, check_iff.2 okf, pmem_Fence.C, go_sem, Nat.reduceEqDiff, Nat.reduceLT, Nat.reduceAdd, Nat.reduceSub, Nat.reduceLeDiff, List.reduceReplicate, Int.reduceToNat]
      refine ⟨by omega, hsm, OkM.small okf (by rw [flushP_len]; omega), back (k + 1) (by omega) (by rw [wnext (by omega)]) ?_ (by omega)⟩
      rw [hnx, hst]; rfl
  · have : k = n.toNat := by omega
    subst this
    refine post_val ?_ rfl
    simp only [go_sem, Nat.reduceEqDiff, Nat.reduceLT, Nat.reduceAdd, Nat.reduceSub, Nat.reduceLeDiff, List.reduceReplicate, Int.reduceToNat]

def soundB (m : Mm) (l : List Mic) : Bool := m.okB && stepsB l m.vol.length
def micro_sound.C : Contract
  | [.agg [.sl false (.ints .i64 vol), .sl false (.ints .i64 per), .sl false (.pends pend)], .sl _ (.mics l)] => some (false, pD (smallM vol per pend ∧ roomy l.length) (.bool (soundB ⟨vol, per, pend⟩ l)))
  | _ => none
set_option maxRecDepth 20000 in
theorem micro_sound.spec : FSpec Try.prog 104 micro_sound.C := by
  refine FSpec.of (ctx_ok (F := [(124, pmem_Check.C), (70, micro_Check.C)]) (S := []) (by simpa using ⟨pmem_Check.spec, micro_Check.spec⟩) (by simp) micro_sound.loops) micro_sound.at micro_sound.nm micro_sound.bd ?_
  intro vs b S v news e hS
  unfold micro_sound.C at e
  split at e
  rotate_left
  · cases e
  cases e
  rw [micro_sound.eq]
  unfold micro_sound.H
  simp (maxSteps := 4000000) only [go_sem, Nat.reduceEqDiff, Nat.reduceLT, Nat.reduceAdd, Nat.reduceSub, Nat.reduceLeDiff, List.reduceReplicate, Int.reduceToNat, pmem_Check.C, micro_Check.C]
  exact ⟨hS.1, fun _ => hS.2, post_val rfl rfl⟩
/-- steps that may be, on a memory that may be -/
theorem sound_iff {m : Mm} {l : List Mic} : soundB m l = true ↔ m.ok ∧ ∀ x ∈ l, MayN x m.vol.length := by
  unfold soundB stepsB
  rw [Bool.and_eq_true, Bool.and_eq_true, Mm.ok_iff, List.all_eq_true]
  constructor
  · rintro ⟨h1, _, h2⟩
    exact ⟨h1, fun x hx => (mmay_iff h1.sz).1 (h2 x hx)⟩
  · rintro ⟨h1, h2⟩
    have hmd := h1.md
    have hsz := h1.sz
    refine ⟨h1, ?_, fun x hx => (mmay_iff h1.sz).2 (h2 x hx)⟩
    unfold sizedB
    simp only [Bool.and_eq_true, decide_eq_true_eq]
    refine ⟨⟨by omega, by omega⟩, ?_⟩
    rw [Int.tmod_eq_emod_of_nonneg (by omega)]; omega
def runV (m : Mm) (l : List Mic) : AV := if soundB m l = true then .tup [(runS m l).V, .int .i64 0] else .tup [m.V, .int .i64 40]
theorem runV_ok {m : Mm} {l : List Mic} (h : soundB m l = true) : runV m l = .tup [(runS m l).V, .int .i64 0] := by unfold runV; simp only [h, if_true]
theorem runV_no {m : Mm} {l : List Mic} (h : soundB m l = false) : runV m l = .tup [m.V, .int .i64 40] := by unfold runV; rw [h]; rfl
theorem runV_ex (m : Mm) (l : List Mic) : ∃ (A : Mm) (e : Int), runV m l = .tup [A.V, .int .i64 e] ∧ A.vol.length = m.vol.length ∧ A.per.length = m.per.length ∧ A.pend.length ≤ m.pend.length + l.length := by
  cases h : soundB m l with
  | true => exact ⟨_, _, runV_ok h, runS_len _ _, runS_per _ _, runS_pend_le _ _⟩
  | false => exact ⟨_, _, runV_no h, rfl, rfl, Nat.le_add_right _ _⟩
def micro_Run.C : Contract
  | [.agg [.sl false (.ints .i64 vol), .sl false (.ints .i64 per), .sl false (.pends pend)], .sl _ (.mics l)] => some (false, pD (smallM vol per pend ∧ pend.length + l.length ≤ 1000000) (runV ⟨vol, per, pend⟩ l))
  | _ => none
set_option maxRecDepth 20000 in
theorem micro_Run.spec : FSpec Try.prog 63 micro_Run.C := by
  refine FSpec.of (ctx_ok (F := [(104, micro_sound.C), (105, micro_first.C)]) (S := []) (by simpa using ⟨micro_sound.spec, micro_first.spec⟩) (by simp) micro_Run.loops) micro_Run.at micro_Run.nm micro_Run.bd ?_
  intro vs b S v news e hS
  unfold micro_Run.C at e
  split at e
  rotate_left
  · cases e
  cases e
  rw [micro_Run.eq]
  unfold micro_Run.H
  simp (maxSteps := 4000000) only [go_sem, Nat.reduceEqDiff, Nat.reduceLT, Nat.reduceAdd, Nat.reduceSub, Nat.reduceLeDiff, List.reduceReplicate, Int.reduceToNat, micro_sound.C, micro_first.C]
  rename_i vol per pend _ l
  obtain ⟨hs, hz⟩ := hS
  refine ⟨⟨hs, by unfold roomy; omega⟩, fun h => ?_, fun h => ?_⟩
  · unfold runV; rw [h]; exact post_val rfl rfl
  · obtain ⟨ok, hl⟩ := sound_iff.1 h
    refine ⟨⟨ok, hl, hz, by omega, by omega⟩, ?_⟩
    unfold runV; simp only [h, if_true]
    refine post_val ?_ rfl
    simp only [go_sem, Nat.reduceEqDiff, Nat.reduceLT, Nat.reduceAdd, Nat.reduceSub, Nat.reduceLeDiff, List.reduceReplicate, Int.reduceToNat, Int.toNat_natCast, List.take_length]
def micro_Do.C : Contract
  | [.agg [.sl false (.ints .i64 vol), .sl false (.ints .i64 per), .sl false (.pends pend)], .agg [.int .i64 a, .int .i64 b, .int .i64 c]] => some (false, pD (smallM vol per pend ∧ pend.length + 1 ≤ 1000000) (runV ⟨vol, per, pend⟩ [⟨a, b, c⟩]))
  | _ => none
set_option maxRecDepth 20000 in
theorem micro_Do.spec : FSpec Try.prog 65 micro_Do.C := by
  refine FSpec.of (ctx_ok (F := [(63, micro_Run.C)]) (S := []) (by simpa using micro_Run.spec) (by simp) micro_Do.loops) micro_Do.at micro_Do.nm micro_Do.bd ?_
  intro vs b S v news e hS
  unfold micro_Do.C at e
  split at e
  rotate_left
  · cases e
  cases e
  rw [micro_Do.eq]
  unfold micro_Do.H
  simp (maxSteps := 4000000) only [go_sem, Nat.reduceEqDiff, Nat.reduceLT, Nat.reduceAdd, Nat.reduceSub, Nat.reduceLeDiff, List.reduceReplicate, Int.reduceToNat, micro_Run.C]
  rename_i vol per pend a b c
  unfold runV
  cases h : soundB ⟨vol, per, pend⟩ [⟨a, b, c⟩]
  · simp only [joinW_eq, guard_tt, guard_tf, guard_ft, guard_ff, Int.reduceEq, Int.reduceLT, Int.reduceLE, decide_false, decide_true, Bool.not_false, Bool.not_true, Bool.not_not, not_true_eq_false, not_false_eq_true, true_implies, false_implies, implies_true, and_true, true_and, reduceCtorEq, Bool.and_self, Bool.or_self, Bool.and_true, Bool.true_and, Bool.false_eq_true, if_true, if_false, go_sem, Nat.reduceEqDiff, Nat.reduceLT, Nat.reduceAdd, Nat.reduceSub, Nat.reduceLeDiff, List.reduceReplicate, Int.reduceToNat]
    exact ⟨⟨hS.1, by omega⟩, post_val rfl rfl⟩
  · simp only [joinW_eq, guard_tt, guard_tf, guard_ft, guard_ff, Int.reduceEq, Int.reduceLT, Int.reduceLE, decide_false, decide_true, Bool.not_false, Bool.not_true, Bool.not_not, not_true_eq_false, not_false_eq_true, true_implies, false_implies, implies_true, and_true, true_and, reduceCtorEq, Bool.and_self, Bool.or_self, Bool.and_true, Bool.true_and, Bool.false_eq_true, if_true, if_false, go_sem, Nat.reduceEqDiff, Nat.reduceLT, Nat.reduceAdd, Nat.reduceSub, Nat.reduceLeDiff, List.reduceReplicate, Int.reduceToNat]
    exact ⟨⟨hS.1, by omega⟩, post_val rfl rfl⟩
def cutI (n : Int) (len : Nat) : Int := if (if (len : Int) < n then (len : Int) else n) > 0 then (if (len : Int) < n then (len : Int) else n) else 0
theorem cutI_range (n : Int) (len : Nat) : 0 ≤ cutI n len ∧ cutI n len ≤ (len : Int) := by unfold cutI; split <;> (try split) <;> omega
theorem cutI_nat {n len : Nat} (h : n ≤ len) : (cutI n len).toNat = n := by unfold cutI; split <;> (try split) <;> omega
def mcrashV (m : Mm) (l : List Mic) (n : Int) (keep : List Int) : AV := if soundB m l = true then .tup [.sl false (.ints .i64 (crashW keep (runS m (l.take (cutI n l.length).toNat)).per (runS m (l.take (cutI n l.length).toNat)).pend)), .int .i64 0] else .tup [.sl false (.ints .i64 []), .int .i64 40]
theorem mcrash_ok {m : Mm} {l : List Mic} {n : Int} {keep : List Int} (h : soundB m l = true) : mcrashV m l n keep = .tup [.sl false (.ints .i64 (crashW keep (runS m (l.take (cutI n l.length).toNat)).per (runS m (l.take (cutI n l.length).toNat)).pend)), .int .i64 0] := by unfold mcrashV; simp only [h, if_true]
theorem mcrash_no {m : Mm} {l : List Mic} {n : Int} {keep : List Int} (h : soundB m l = false) : mcrashV m l n keep = .tup [.sl false (.ints .i64 []), .int .i64 40] := by unfold mcrashV; rw [h]; rfl
theorem mcrash_ex (m : Mm) (l : List Mic) (n : Int) (keep : List Int) : ∃ (w : List Int) (e : Int), mcrashV m l n keep = .tup [.sl false (.ints .i64 w), .int .i64 e] ∧ w.length ≤ m.per.length := by
  cases h : soundB m l with
  | true => exact ⟨_, _, mcrash_ok h, by rw [crashW_len, runS_per]; exact Nat.le_refl _⟩
  | false => exact ⟨_, _, mcrash_no h, Nat.zero_le _⟩
def micro_Crash.C : Contract
  | [.agg [.sl false (.ints .i64 vol), .sl false (.ints .i64 per), .sl false (.pends pend)], .sl _ (.mics l), .int .i64 n, .sl _ (.ints .i64 keep)] => some (false, pD (smallM vol per pend ∧ pend.length + l.length ≤ 1000000 ∧ roomy keep.length ∧ i64s keep) (mcrashV ⟨vol, per, pend⟩ l n keep))
  | _ => none
set_option maxRecDepth 20000 in
theorem micro_Crash.spec : FSpec Try.prog 67 micro_Crash.C := by
  refine FSpec.of (ctx_ok (F := [(104, micro_sound.C), (105, micro_first.C), (111, pmem_Crash.C)]) (S := []) (by simpa using ⟨micro_sound.spec, micro_first.spec, pmem_Crash.spec⟩) (by simp) micro_Crash.loops) micro_Crash.at micro_Crash.nm micro_Crash.bd ?_
  intro vs b S v news e hS
  unfold micro_Crash.C at e
  split at e
  rotate_left
  · cases e
  cases e
  rw [micro_Crash.eq]
  unfold micro_Crash.H
  simp (maxSteps := 4000000) only [go_sem, Nat.reduceEqDiff, Nat.reduceLT, Nat.reduceAdd, Nat.reduceSub, Nat.reduceLeDiff, List.reduceReplicate, Int.reduceToNat, micro_sound.C, micro_first.C, pmem_Crash.C]
  rename_i vol per pend _ l n _ keep
  obtain ⟨hs, hz, hk1, hk2⟩ := hS
  have hfold : (if (if (l.length : Int) < n then (l.length : Int) else n) > 0 then (if (l.length : Int) < n then (l.length : Int) else n) else 0) = cutI n l.length := rfl
  rw [hfold]
  have hc := cutI_range n l.length
  refine ⟨⟨hs, by unfold roomy; omega⟩, fun h => ?_, fun h => ?_⟩
  · unfold mcrashV; rw [h]; exact post_val rfl rfl
  · obtain ⟨ok, hl⟩ := sound_iff.1 h
    unfold mcrashV; simp only [h, if_true]
    have okk := runS_ok (l.take (cutI n l.length).toNat) ok fun x hx => hl x ((List.take_sublist _ _).subset hx)
    have pendk := runS_pend_le (l.take (cutI n l.length).toNat) ⟨vol, per, pend⟩
    rw [List.length_take] at pendk
    simp only [] at pendk
    generalize runS ⟨vol, per, pend⟩ (l.take (cutI n l.length).toNat) = m at *
    have hsm : smallM m.vol m.per m.pend := OkM.small okk (by omega)
    have hck : checkB m.vol m.per m.pend = true := check_iff.2 okk
    simp only [hck, crashM_ok, go_sem, Nat.reduceEqDiff, Nat.reduceLT, Nat.reduceAdd, Nat.reduceSub, Nat.reduceLeDiff, List.reduceReplicate, Int.reduceToNat]
    exact ⟨⟨ok, hl, hz, hc⟩, ⟨hsm, hk1, hk2⟩, post_val rfl rfl⟩
end Lam
namespace Lam
open Go Go.Proofs
set_option linter.unusedVariables false
set_option linter.unnecessarySimpa false
set_option linter.unusedSimpArgs false
def fast_node.C : Contract
  | [.int .i64 b] => some (false, pD True (.bool (nodeB b)))
  | _ => none
set_option maxRecDepth 20000 in
theorem fast_node.spec : FSpec Try.prog 89 fast_node.C := by
  refine FSpec.of (ctx_ok (F := []) (S := []) (by simp) (by simp) fast_node.loops) fast_node.at fast_node.nm fast_node.bd ?_
  intro vs b S v news e hS
  unfold fast_node.C at e
  split at e
  rotate_left
  · cases e
  cases e
  rw [fast_node.eq]
  unfold fast_node.H
  simp (maxSteps := 4000000) only [go_sem, Nat.reduceEqDiff, Nat.reduceLT, Nat.reduceAdd, Nat.reduceSub, Nat.reduceLeDiff, List.reduceReplicate, Int.reduceToNat]
  exact ⟨fun _ => by decide, post_val rfl rfl⟩
def fast_Place.C : Contract
  | [.int .i64 b, .int .i64 s] => some (false, pD True (.int .i64 (placeI b s)))
  | _ => none
set_option maxRecDepth 20000 in
theorem fast_Place.spec : FSpec Try.prog 45 fast_Place.C := by
  refine FSpec.of (ctx_ok (F := [(89, fast_node.C)]) (S := []) (by simpa using fast_node.spec) (by simp) fast_Place.loops) fast_Place.at fast_Place.nm fast_Place.bd ?_
  intro vs b S v news e hS
  unfold fast_Place.C at e
  split at e
  rotate_left
  · cases e
  cases e
  rw [fast_Place.eq]
  unfold fast_Place.H
  simp (maxSteps := 4000000) only [go_sem, Nat.reduceEqDiff, Nat.reduceLT, Nat.reduceAdd, Nat.reduceSub, Nat.reduceLeDiff, List.reduceReplicate, Int.reduceToNat, fast_node.C]
  rename_i b s
  have e : (!nodeB b || decide (s < 0) || decide (13 ≤ s)) = !(nodeB b && decide (0 ≤ s) && decide (s < 13)) := by
    cases nodeB b
    · rfl
    · rw [Bool.eq_iff_iff]; simp only [Bool.and_eq_true, Bool.or_eq_true, Bool.not_eq_true', Bool.not_eq_false', Bool.not_eq_true, decide_eq_true_eq, decide_eq_false_iff_not, Bool.or_eq_false_iff, Bool.and_eq_false_iff, beq_iff_eq]; simp <;> omega
  rw [e]
  unfold placeI
  refine ⟨fun h => ?_, fun h => ?_⟩
  · rw [Bool.not_eq_true'] at h
    rw [h]; exact post_val rfl rfl
  · rw [Bool.not_eq_false'] at h
    rw [h]; exact post_val rfl rfl
def fast_Slots.C : Contract
  | [.sl _ (.ints .i64 l), .int .i64 b] => some (false, pD (roomy l.length ∧ b ≤ 1099511627776) (.sl false (.ints .i64 (slotsOf l b))))
  | _ => none
set_option maxRecDepth 20000 in
theorem fast_Slots.spec : FSpec Try.prog 47 fast_Slots.C := by
  refine FSpec.of (ctx_ok (F := [(89, fast_node.C), (90, slices_IndexFunc_sl_int_int.C), (92, slices_Clone_sl_int_int.C)]) (S := []) (by simpa using ⟨fast_node.spec, slices_IndexFunc_sl_int_int.spec, slices_Clone_sl_int_int.spec⟩) (by simp) fast_Slots.loops) fast_Slots.at fast_Slots.nm fast_Slots.bd ?_
  intro vs b S v news e hS
  unfold fast_Slots.C at e
  split at e
  rotate_left
  · cases e
  cases e
  rw [fast_Slots.eq]
  unfold fast_Slots.H
  simp (maxSteps := 4000000) only [go_sem, Nat.reduceEqDiff, Nat.reduceLT, Nat.reduceAdd, Nat.reduceSub, Nat.reduceLeDiff, List.reduceReplicate, Int.reduceToNat, fast_node.C, slices_IndexFunc_sl_int_int.C, slices_Clone_sl_int_int.C]
  rename_i _ l b
  obtain ⟨hr, hb⟩ := hS
  unfold roomy at hr
  cases hn : nodeB b with
  | false =>
    refine ⟨fun h => ?_, fun h => by simp at h⟩
    unfold slotsOf; rw [hn]; exact post_val rfl rfl
  | true =>
    have hbb := (node_iff hb).1 hn
    have e1 : IntKind.i64.wrap (b + 16) = b + 16 := w64 (by omega) (by omega)
    have e2 : IntKind.i64.wrap (b + 3) = b + 3 := w64 (by omega) (by omega)
    rw [e1, e2]
    by_cases hlt : (l.length : Int) < b + 16
    · refine ⟨fun h => ?_, fun h => by simp at h; omega⟩
      unfold slotsOf; rw [hn, decide_eq_false (by omega)]; exact post_val rfl rfl
    · refine ⟨fun h => by simp at h; omega, fun h => ⟨by omega, ?_⟩⟩
      have e3 : (b + 16).toNat - (b + 3).toNat = 13 := by omega
      have e4 : (b + 3).toNat = b.toNat + 3 := by omega
      have hsl : slotsOf l b = upTo ((l.drop (b.toNat + 3)).take 13) := by
        unfold slotsOf; rw [hn, decide_eq_true (by omega)]; rfl
      rw [e3, e4, hsl]
      have hlen : ((l.drop (b.toNat + 3)).take 13).length = 13 := by simp; omega
      generalize (l.drop (b.toNat + 3)).take 13 = z at *
      have hu := upTo_idx z
      have hir := idxI_range lt1 z
      have hul : (upTo z).length ≤ z.length := by rw [← hu]; exact List.length_take_le' _ _
      refine ⟨by unfold roomy; omega, ?_⟩
      rw [joinW_eq]
      refine ⟨fun h => ?_, fun h => ?_⟩
      · rw [if_pos h] at hu
        rw [Int.toNat_natCast, List.take_length] at hu
        simp only [slices_Clone_sl_int_int.C, Int.toNat_natCast, List.take_length, go_sem, Nat.reduceEqDiff, Nat.reduceLT, Nat.reduceAdd, Nat.reduceSub, Nat.reduceLeDiff, List.reduceReplicate, Int.reduceToNat]
        refine ⟨by omega, by unfold roomy; omega, post_val ?_ rfl⟩
        simp only [go_sem, Nat.reduceEqDiff, Nat.reduceLT, Nat.reduceAdd, Nat.reduceSub, Nat.reduceLeDiff, List.reduceReplicate, Int.reduceToNat, List.take_length]
        rw [← hu]
      · rw [if_neg h] at hu
        simp only [slices_Clone_sl_int_int.C, hu, go_sem, Nat.reduceEqDiff, Nat.reduceLT, Nat.reduceAdd, Nat.reduceSub, Nat.reduceLeDiff, List.reduceReplicate, Int.reduceToNat]
        refine ⟨by omega, by unfold roomy; omega, post_val ?_ rfl⟩
        simp only [go_sem, Nat.reduceEqDiff, Nat.reduceLT, Nat.reduceAdd, Nat.reduceSub, Nat.reduceLeDiff, List.reduceReplicate, Int.reduceToNat, List.take_length]
def slices_Compact_sl_int_int.K : Con := fun args h K => match args with
  | [a0] => slices_Compact_sl_int_int.H (ctx [] [] slices_Compact_sl_int_int.loops) a0 h K
  | _ => False
theorem slices_Compact_sl_int_int.spec : SSpec Try.prog 93 slices_Compact_sl_int_int.K := by
  refine SSpec.of (ctx_ok (F := []) (S := []) (by simp) (by simp) slices_Compact_sl_int_int.loops) slices_Compact_sl_int_int.at slices_Compact_sl_int_int.nm slices_Compact_sl_int_int.bd ?_
  intro args h K hC
  unfold slices_Compact_sl_int_int.K at hC
  split at hC
  · rw [slices_Compact_sl_int_int.eq]; exact hC
  · exact hC.elim
theorem compact_vc (l : List Int) (hr : roomy l.length) (K : AOut → List AObj → Prop)
    (hK : ∀ x v l' k, k ≤ l'.length → l'.take k = plain l → K (.ret (.sref x 0 v 0 k)) [.row .own v (.ints .i64 l')]) :
    slices_Compact_sl_int_int.K [.sref false 0 0 0 l.length] [.row .own 0 (.ints .i64 l)] K := by
  unfold roomy at hr
  unfold slices_Compact_sl_int_int.K
  simp only
  unfold slices_Compact_sl_int_int.H
  simp only [go_sem, Nat.reduceEqDiff, Nat.reduceLT, Nat.reduceAdd, Nat.reduceSub, Nat.reduceLeDiff, List.reduceReplicate, Int.reduceToNat]
  refine ⟨fun h => ?_, fun h => ?_⟩
  · refine hK _ _ _ _ (Nat.le_refl _) ?_
    rw [List.take_length]
    rcases l with _ | ⟨a, _ | ⟨b, r⟩⟩
    · rfl
    · rfl
    · simp at h; omega
  rw [joinW_eq]
  unfold slices_Compact_sl_int_int.L1
  refine loop1 (σ := Nat) (fun k => .int .i64 k) (fun k => [.row .own 0 (.ints .i64 l)]) (fun k => l.length - k) (fun k => 0 < k ∧ k ≤ l.length ∧ ∀ i, 0 < i → i < k → l.getD i 0 ≠ l.getD (i - 1) 0) 1 rfl rfl ⟨by omega, by omega, fun i h1 h2 => by omega⟩ ?_
  rintro I back k ⟨h0, hk, hall⟩
  simp only [go_sem, Nat.reduceEqDiff, Nat.reduceLT, Nat.reduceAdd, Nat.reduceSub, Nat.reduceLeDiff, List.reduceReplicate, Int.reduceToNat]
  refine ⟨fun hlt => ?_, fun hge => ?_⟩
  · have e1 : IntKind.i64.wrap ((k : Int) - 1) = ((k - 1 : Nat) : Int) := by rw [w64 (by omega) (by omega)]; omega
    rw [joinW_eq, e1, Int.toNat_natCast]
    refine ⟨by omega, by omega, by omega, by omega, fun heq => ⟨by omega, ?_⟩, fun hne => ?_⟩
    · rw [joinW_eq]
      unfold slices_Compact_sl_int_int.L2
      have hp0 : plain (l.take (k + 1)) = l.take k := by
        rw [plain_take h0 (by omega), if_pos heq, plain_same]
        intro i hi0 hi
        rw [List.length_take] at hi
        have := hall i hi0 (by omega)
        rw [List.getD_eq_getElem?_getD, List.getD_eq_getElem?_getD, List.getElem?_take, List.getElem?_take, if_pos (by omega), if_pos (by omega), ← List.getD_eq_getElem?_getD, ← List.getD_eq_getElem?_getD]
        exact this
      refine loop2 (σ := Nat × Nat × List Int) (fun s => .int .i64 s.1) (fun s => .int .i64 s.2.1) (fun s => [.row .own 0 (.ints .i64 s.2.2)]) (fun s => l.length - k - s.2.1)
        (fun s => k ≤ s.1 ∧ s.1 ≤ k + s.2.1 - 1 ∧ 1 ≤ s.2.1 ∧ s.2.1 ≤ l.length - k ∧ s.2.2.length = l.length ∧ s.2.2.take s.1 = plain (l.take (k + s.2.1)) ∧ ∀ j, k + s.2.1 - 1 ≤ j → s.2.2.getD j 0 = l.getD j 0) (k, 1, l) rfl rfl
        ⟨Nat.le_refl _, by simp, Nat.le_refl _, by simp only; omega, rfl, hp0.symm, fun j _ => rfl⟩ ?_
      rintro I2 back2 ⟨w, q, R⟩ ⟨hw0, hw1, hq0, hq1, hRl, hRt, hRd⟩
      simp only [] at hw0 hw1 hq0 hq1 hRl hRt hRd ⊢
      simp only [go_sem, Nat.reduceEqDiff, Nat.reduceLT, Nat.reduceAdd, Nat.reduceSub, Nat.reduceLeDiff, List.reduceReplicate, Int.reduceToNat, hRl]
      have e2 : IntKind.i64.wrap ((q : Int) - 1) = ((q - 1 : Nat) : Int) := by rw [w64 (by omega) (by omega)]; omega
      refine ⟨fun hql => ?_, fun hql => ?_⟩
      · have hnext := plain_take (l := l) (k := k + q) (by omega) (by omega)
        rw [e2, Int.toNat_natCast, hRd (k + q) (by omega), hRd (k + (q - 1)) (by omega)]
        have e3 : k + q - 1 = k + (q - 1) := by omega
        rw [e3] at hnext
        refine ⟨by omega, by omega, by omega, by omega, ?_⟩
        rw [joinW_eq]
        refine ⟨fun hc => ⟨by omega, by omega, by omega, by omega, ?_⟩, fun hc => ?_⟩
        · simp only [go_sem, Nat.reduceEqDiff, Nat.reduceLT, Nat.reduceAdd, Nat.reduceSub, Nat.reduceLeDiff, List.reduceReplicate, Int.reduceToNat]
          rw [if_neg hc] at hnext
          refine back2 (w + 1, q + 1, R.set w (l.getD (k + q) 0)) (by show _ - (q + 1) < _ - q; omega) (by rw [wnext (by omega), wnext (by omega)]) rfl ⟨by show k ≤ w + 1; omega, by show w + 1 ≤ k + (q + 1) - 1; omega, by show 1 ≤ q + 1; omega, by show q + 1 ≤ _; omega, by show (R.set _ _).length = _; rw [List.length_set]; exact hRl, ?_, fun j hj => ?_⟩
          · show (R.set w _).take (w + 1) = plain (l.take (k + (q + 1)))
            rw [show k + (q + 1) = k + q + 1 from by omega, hnext, ← hRt, take_next _ w 0 (by rw [List.length_set]; omega), getD_set, if_pos ⟨rfl, by omega⟩, List.take_set_of_le (Nat.le_refl _)]
          · show (R.set w _).getD j 0 = _
            have hj : k + (q + 1) - 1 ≤ j := hj
            rw [getD_set, if_neg (by omega), hRd j (by omega)]
        · simp only [go_sem, Nat.reduceEqDiff, Nat.reduceLT, Nat.reduceAdd, Nat.reduceSub, Nat.reduceLeDiff, List.reduceReplicate, Int.reduceToNat]
          rw [if_pos hc] at hnext
          refine back2 (w, q + 1, R) (by show _ - (q + 1) < _ - q; omega) (by rw [wnext (by omega)]) rfl ⟨hw0, by show w ≤ k + (q + 1) - 1; omega, by show 1 ≤ q + 1; omega, by show q + 1 ≤ _; omega, hRl, ?_, fun j hj => hRd j (by have hj : k + (q + 1) - 1 ≤ j := hj; omega)⟩
          show R.take w = plain (l.take (k + (q + 1)))
          rw [show k + (q + 1) = k + q + 1 from by omega, hnext, hRt]
      · obtain rfl : q = l.length - k := by omega
        rw [show k + (l.length - k) = l.length from by omega, List.take_length] at hRt
        have hov : clearH (.slice (.int .i64)) [.row .own 0 (.ints .i64 R)] (.sref false 0 0 w (l.length - w)) = some (True, .tup [], 0, .row .own 0 (.ints .i64 (R.take w ++ List.replicate (l.length - w) 0))) := by
          have e4 : l.length - (w + (l.length - w)) = 0 := by omega
          simp [clearH, clearO, Lst.over, Lst.cut, Lst.app, LK.zeros, Lst.kind, rowKind, TyD.fitsRow, Lst.len, hRl, e4]
        rw [hov]
        simp only [go_sem, Nat.reduceEqDiff, Nat.reduceLT, Nat.reduceAdd, Nat.reduceSub, Nat.reduceLeDiff, List.reduceReplicate, Int.reduceToNat]
        have hl2 : (R.take w ++ List.replicate (l.length - w) 0).length = l.length := by simp [hRl]; omega
        refine ⟨⟨by omega, by omega⟩, ⟨by omega, by omega⟩, ?_⟩
        refine hK _ _ _ _ (by omega) ?_
        rw [List.take_append_of_le_length (by rw [List.length_take]; omega), List.take_take, Nat.min_self, hRt]
    · simp only [go_sem, Nat.reduceEqDiff, Nat.reduceLT, Nat.reduceAdd, Nat.reduceSub, Nat.reduceLeDiff, List.reduceReplicate, Int.reduceToNat]
      refine back (k + 1) (by omega) (by rw [wnext (by omega)]) rfl ⟨by omega, by omega, fun i hi0 hi => ?_⟩
      by_cases e : i = k
      · subst e; exact hne
      · exact hall i hi0 (by omega)
  · obtain rfl : k = l.length := by omega
    refine hK _ _ _ _ (Nat.le_refl _) ?_
    rw [List.take_length, plain_same l hall]
def fast_Plain.C : Contract
  | [.sl _ (.ints .i64 l)] => some (false, pD (roomy l.length) (.sl false (.ints .i64 (plain l))))
  | _ => none
set_option maxRecDepth 20000 in
theorem fast_Plain.spec : FSpec Try.prog 49 fast_Plain.C := by
  refine FSpec.of (ctx_ok (F := [(92, slices_Clone_sl_int_int.C)]) (S := [(93, slices_Compact_sl_int_int.K)]) (by simpa using slices_Clone_sl_int_int.spec) (by simpa using slices_Compact_sl_int_int.spec) fast_Plain.loops) fast_Plain.at fast_Plain.nm fast_Plain.bd ?_
  intro vs b S v news e hS
  unfold fast_Plain.C at e
  split at e
  rotate_left
  · cases e
  cases e
  rw [fast_Plain.eq]
  unfold fast_Plain.H
  simp (maxSteps := 4000000) only [go_sem, Nat.reduceEqDiff, Nat.reduceLT, Nat.reduceAdd, Nat.reduceSub, Nat.reduceLeDiff, List.reduceReplicate, Int.reduceToNat, slices_Clone_sl_int_int.C]
  rename_i _ l
  refine ⟨hS, compact_vc l hS _ fun x v l' k hk he => ?_⟩
  simp only [go_sem, Nat.reduceEqDiff, Nat.reduceLT, Nat.reduceAdd, Nat.reduceSub, Nat.reduceLeDiff, List.reduceReplicate, Int.reduceToNat]
  refine post_val ?_ rfl
  simp only [go_sem, Nat.reduceEqDiff, Nat.reduceLT, Nat.reduceAdd, Nat.reduceSub, Nat.reduceLeDiff, List.reduceReplicate, Int.reduceToNat, he]
def fmayB (b : Int) (l : List Int) : Bool := nodeB b && decide (l.length ≤ 13) && !l.any lt1
def fast_may.C : Contract
  | [.int .i64 b, .sl _ (.ints .i64 l)] => some (false, pD (roomy l.length) (.bool (fmayB b l)))
  | _ => none
set_option maxRecDepth 20000 in
theorem fast_may.spec : FSpec Try.prog 83 fast_may.C := by
  refine FSpec.of (ctx_ok (F := [(89, fast_node.C), (81, slices_ContainsFunc_sl_int_int.C)]) (S := []) (by simpa using ⟨fast_node.spec, slices_ContainsFunc_sl_int_int.spec⟩) (by simp) fast_may.loops) fast_may.at fast_may.nm fast_may.bd ?_
  intro vs b S v news e hS
  unfold fast_may.C at e
  split at e
  rotate_left
  · cases e
  cases e
  rw [fast_may.eq]
  unfold fast_may.H
  simp (maxSteps := 4000000) only [go_sem, Nat.reduceEqDiff, Nat.reduceLT, Nat.reduceAdd, Nat.reduceSub, Nat.reduceLeDiff, List.reduceReplicate, Int.reduceToNat, fast_node.C, slices_ContainsFunc_sl_int_int.C]
  rename_i b _ l
  have e3 : decide ((l.length : Int) ≤ 13) = decide (l.length ≤ 13) := decide_eq_decide.2 (by omega)
  unfold fmayB
  rw [e3]
  cases (nodeB b && decide (l.length ≤ 13)) with
  | false => simp only [joinW_eq, guard_tt, guard_tf, guard_ft, guard_ff, Int.reduceEq, Int.reduceLT, Int.reduceLE, decide_false, decide_true, Bool.not_false, Bool.not_true, Bool.not_not, not_true_eq_false, not_false_eq_true, true_implies, false_implies, implies_true, and_true, true_and, reduceCtorEq, Bool.and_self, Bool.or_self, Bool.and_true, Bool.true_and, Bool.false_eq_true, if_true, if_false, go_sem, Nat.reduceEqDiff, Nat.reduceLT, Nat.reduceAdd, Nat.reduceSub, Nat.reduceLeDiff, List.reduceReplicate, Int.reduceToNat]; exact post_val rfl rfl
  | true => simp only [joinW_eq, guard_tt, guard_tf, guard_ft, guard_ff, Int.reduceEq, Int.reduceLT, Int.reduceLE, decide_false, decide_true, Bool.not_false, Bool.not_true, Bool.not_not, not_true_eq_false, not_false_eq_true, true_implies, false_implies, implies_true, and_true, true_and, reduceCtorEq, Bool.and_self, Bool.or_self, Bool.and_true, Bool.true_and, Bool.false_eq_true, if_true, if_false, go_sem, Nat.reduceEqDiff, Nat.reduceLT, Nat.reduceAdd, Nat.reduceSub, Nat.reduceLeDiff, List.reduceReplicate, Int.reduceToNat]; exact ⟨hS, post_val rfl rfl⟩
def fast_stored.C : Contract
  | [.int .i64 b, .sl _ (.slots l)] => some (false, pD (l.length ≤ 1000) (.sl false (.mics (storedV b l))))
  | _ => none
set_option maxRecDepth 20000 in
theorem fast_stored.spec : FSpec Try.prog 84 fast_stored.C := by
  refine FSpec.of (ctx_ok (F := [(45, fast_Place.C), (70, micro_Check.C)]) (S := []) (by simpa using ⟨fast_Place.spec, micro_Check.spec⟩) (by simp) fast_stored.loops) fast_stored.at fast_stored.nm fast_stored.bd ?_
  intro vs b S v news e hS
  unfold fast_stored.C at e
  split at e
  rotate_left
  · cases e
  cases e
  rw [fast_stored.eq]
  unfold fast_stored.H
  simp (maxSteps := 4000000) only [go_sem, Nat.reduceEqDiff, Nat.reduceLT, Nat.reduceAdd, Nat.reduceSub, Nat.reduceLeDiff, List.reduceReplicate, Int.reduceToNat, fast_Place.C, micro_Check.C]
  rename_i b _ l
  rw [joinW_eq]
  unfold fast_stored.L1
  refine loop2 (σ := Nat × Nat) (fun s => .sref false 0 s.2 0 (storedN b l s.1).length) (fun s => .int .i64 s.1) (fun s => [.row .own s.2 (.mics (storedN b l s.1))]) (fun s => l.length - s.1) (fun s => s.1 ≤ l.length) (0, 0) rfl rfl (Nat.zero_le _) ?_
  rintro I back ⟨k, v⟩ hk
  simp only [] at hk ⊢
  have hsl := storedN_len b l k
  simp only [fast_Place.C, go_sem, Nat.reduceEqDiff, Nat.reduceLT, Nat.reduceAdd, Nat.reduceSub, Nat.reduceLeDiff, List.reduceReplicate, Int.reduceToNat]
  refine ⟨fun hlt => ⟨by omega, ?_⟩, fun hge => ?_⟩
  · have ew : IntKind.i64.wrap ((k : Int) + 1) = ((k + 1 : Nat) : Int) := wnext (by omega)
    have hdec : (decide (((k + 1 : Nat) : Int) = (l.length : Int)) || !decide (IntKind.i64.wrap ((placeI b (l.getD (k + 1) ⟨0, 0⟩).at_).tdiv 8) = IntKind.i64.wrap ((placeI b (l.getD k ⟨0, 0⟩).at_).tdiv 8))) = lastB b l k := by
      unfold lastB
      have : decide (((k + 1 : Nat) : Int) = (l.length : Int)) = decide (k + 1 = l.length) := decide_eq_decide.2 (by omega)
      rw [this]; rfl
    have hnx : storedN b l (k + 1) = storedN b l k ++ ⟨1, placeI b (l.getD k ⟨0, 0⟩).at_, (l.getD k ⟨0, 0⟩).val⟩ :: (if lastB b l k = true then [⟨2, sLine b (l.getD k ⟨0, 0⟩), 0⟩] else []) := rfl
    have hl1 := storedN_len b l (k + 1)
    rw [ew, Int.toNat_natCast, hdec]
    refine ⟨by unfold roomy; simp; omega, fun h => ⟨by omega, by decide⟩, ?_⟩
    rw [joinW_eq]
    refine ⟨fun h => ⟨by decide, ?_, ?_⟩, fun h => ?_⟩
    · rw [h] at hnx
      have : storedN b l (k + 1) = storedN b l k ++ [⟨1, placeI b (l.getD k ⟨0, 0⟩).at_, (l.getD k ⟨0, 0⟩).val⟩, ⟨2, IntKind.i64.wrap ((placeI b (l.getD k ⟨0, 0⟩).at_).tdiv 8), 0⟩] := hnx
      rw [← this]; unfold roomy; omega
    · rw [h] at hnx
      have : storedN b l (k + 1) = storedN b l k ++ [⟨1, placeI b (l.getD k ⟨0, 0⟩).at_, (l.getD k ⟨0, 0⟩).val⟩, ⟨2, IntKind.i64.wrap ((placeI b (l.getD k ⟨0, 0⟩).at_).tdiv 8), 0⟩] := hnx
      rw [← this]
      simp only [go_sem, Nat.reduceEqDiff, Nat.reduceLT, Nat.reduceAdd, Nat.reduceSub, Nat.reduceLeDiff, List.reduceReplicate, Int.reduceToNat]
      exact back (k + 1, v + 1 + 1) (by show _ - (k + 1) < _ - k; omega) rfl rfl (by show k + 1 ≤ _; omega)
    · rw [h] at hnx
      have : storedN b l (k + 1) = storedN b l k ++ [⟨1, placeI b (l.getD k ⟨0, 0⟩).at_, (l.getD k ⟨0, 0⟩).val⟩] := hnx
      rw [← this]
      simp only [go_sem, Nat.reduceEqDiff, Nat.reduceLT, Nat.reduceAdd, Nat.reduceSub, Nat.reduceLeDiff, List.reduceReplicate, Int.reduceToNat]
      exact back (k + 1, v + 1) (by show _ - (k + 1) < _ - k; omega) rfl rfl (by show k + 1 ≤ _; omega)
  · obtain rfl : k = l.length := by omega
    have hst : (sizedB 4096 && (storedN b l l.length).all fun x => mmay x 4096) = stepsB (storedN b l l.length) 4096 := rfl
    simp only [micro_Check.C, hst, List.take_length, go_sem, Nat.reduceEqDiff, Nat.reduceLT, Nat.reduceAdd, Nat.reduceSub, Nat.reduceLeDiff, List.reduceReplicate, Int.reduceToNat]
    unfold storedV
    refine ⟨by unfold roomy; omega, fun h => ?_, fun h => ?_⟩
    · rw [h]; exact post_val rfl rfl
    · rw [h]
      refine post_val ?_ rfl
      simp only [go_sem, Nat.reduceEqDiff, Nat.reduceLT, Nat.reduceAdd, Nat.reduceSub, Nat.reduceLeDiff, List.reduceReplicate, Int.reduceToNat, List.take_length, if_true]
def insertV (b : Int) (l : List Int) (pos ref : Int) : AV :=
  if (fmayB b l && decide (1 ≤ ref) && decide (0 ≤ pos) && decide (pos ≤ (l.length : Int))) = true then (if l.length = 13 then .tup [.sl false (.mics []), .int .i64 100] else .tup [.sl false (.mics (storedV b (insS l pos.toNat ref))), .int .i64 0]) else .tup [.sl false (.mics []), .int .i64 1]
def deleteV (b : Int) (l : List Int) (pos : Int) : AV :=
  if (fmayB b l && decide (0 ≤ pos) && decide (pos < (l.length : Int))) = true then .tup [.sl false (.mics (storedV b (delS l pos.toNat))), .int .i64 0] else .tup [.sl false (.mics []), .int .i64 1]
def swapV (b : Int) (l : List Int) (pos ref : Int) : AV :=
  if (fmayB b l && decide (1 ≤ ref) && decide (0 ≤ pos) && decide (pos < (l.length : Int))) = true then .tup [.sl false (.mics (storedV b [⟨pos, ref⟩])), .int .i64 0] else .tup [.sl false (.mics []), .int .i64 1]
def cutV (b : Int) (l : List Int) (n : Int) : AV :=
  if (fmayB b l && decide (0 ≤ n) && decide (n ≤ (l.length : Int))) = true then .tup [.sl false (.mics (storedV b (cutK l (l.length - n.toNat)))), .int .i64 0] else .tup [.sl false (.mics []), .int .i64 1]
def fast_Insert.C : Contract
  | [.int .i64 b, .sl _ (.ints .i64 l), .int .i64 pos, .int .i64 ref] => some (false, pD (roomy l.length) (insertV b l pos ref))
  | _ => none
set_option maxRecDepth 20000 in
theorem fast_Insert.spec : FSpec Try.prog 37 fast_Insert.C := by
  refine FSpec.of (ctx_ok (F := [(83, fast_may.C), (84, fast_stored.C)]) (S := []) (by simpa using ⟨fast_may.spec, fast_stored.spec⟩) (by simp) fast_Insert.loops) fast_Insert.at fast_Insert.nm fast_Insert.bd ?_
  intro vs b S v news e hS
  unfold fast_Insert.C at e
  split at e
  rotate_left
  · cases e
  cases e
  rw [fast_Insert.eq]
  unfold fast_Insert.H
  simp (maxSteps := 4000000) only [go_sem, Nat.reduceEqDiff, Nat.reduceLT, Nat.reduceAdd, Nat.reduceSub, Nat.reduceLeDiff, List.reduceReplicate, Int.reduceToNat, fast_may.C, fast_stored.C]
  rename_i b _ l pos ref
  have e : (!fmayB b l || decide (ref < 1) || decide (pos < 0) || decide ((l.length : Int) < pos)) = !(fmayB b l && decide (1 ≤ ref) && decide (0 ≤ pos) && decide (pos ≤ (l.length : Int))) := by
    rw [Bool.eq_iff_iff]; cases fmayB b l <;> simp <;> omega
  rw [e]
  refine ⟨hS, fun h => ?_, fun h => ⟨fun h13 => ?_, fun h13 => ?_⟩⟩
  · unfold insertV; rw [Bool.not_eq_true'] at h; rw [h]; exact post_val rfl rfl
  · unfold insertV; rw [Bool.not_eq_false'] at h; rw [if_pos h, if_pos (by omega)]; exact post_val rfl rfl
  · rw [Bool.not_eq_false'] at h
    have hv : insertV b l pos ref = .tup [.sl false (.mics (storedV b (insS l pos.toNat ref))), .int .i64 0] := by
      unfold insertV; rw [if_pos h, if_neg (by omega)]
    simp only [Bool.and_eq_true, decide_eq_true_eq, fmayB] at h
    have hl : l.length ≤ 13 := h.1.1.1.1.2
    obtain ⟨p, rfl⟩ := Int.eq_ofNat_of_zero_le h.1.2
    have hp : p ≤ l.length := by have := h.2; omega
    rw [w64 (n := (l.length : Int) - (p : Nat)) (by omega) (by omega), hv]
    rw [joinW_eq]
    unfold fast_Insert.L1
    refine loop2 (σ := Nat × Nat) (fun s => .sref false 0 s.2 0 s.1) (fun s => .int .i64 s.1) (fun s => [.row .own s.2 (.slots (insK l s.1))]) (fun s => l.length - p - s.1) (fun s => s.1 ≤ l.length - p) (0, 0) rfl rfl (Nat.zero_le _) ?_
    rintro I back ⟨k, v⟩ hk
    simp only [] at hk ⊢
    have hkl := insK_len l k
    simp only [go_sem, Nat.reduceEqDiff, Nat.reduceLT, Nat.reduceAdd, Nat.reduceSub, Nat.reduceLeDiff, List.reduceReplicate, Int.reduceToNat, hkl]
    refine ⟨fun hlt => ?_, fun hge => ?_⟩
    · rw [w64 (n := (l.length : Int) - k) (by omega) (by omega), w64 (n := (l.length : Int) - k - 1) (by omega) (by omega)]
      have e1 : ((l.length : Int) - k - 1).toNat = l.length - k - 1 := by omega
      have e2 : (l.length : Int) - k = (l.length - k : Nat) := by omega
      rw [e1, e2, ← insK_next, insK_len]
      refine ⟨by omega, by unfold roomy; omega, ?_⟩
      exact back (k + 1, v + 1) (by show _ - (k + 1) < _ - k; omega) (by rw [wnext (by omega)]) rfl (by show k + 1 ≤ _; omega)
    · obtain rfl : k = l.length - p := by omega
      have e3 : insK l (l.length - p) ++ [⟨(p : Int), ref⟩] = insS l p ref := rfl
      rw [e3]
      have hlen : (insS l p ref).length = l.length - p + 1 := by unfold insS; rw [List.length_append, insK_len]; rfl
      simp only [fast_stored.C, go_sem, Nat.reduceEqDiff, Nat.reduceLT, Nat.reduceAdd, Nat.reduceSub, Nat.reduceLeDiff, List.reduceReplicate, Int.reduceToNat]
      exact ⟨by unfold roomy; omega, by omega, post_val rfl rfl⟩
def fast_Delete.C : Contract
  | [.int .i64 b, .sl _ (.ints .i64 l), .int .i64 pos] => some (false, pD (roomy l.length) (deleteV b l pos))
  | _ => none
set_option maxRecDepth 20000 in
theorem fast_Delete.spec : FSpec Try.prog 39 fast_Delete.C := by
  refine FSpec.of (ctx_ok (F := [(83, fast_may.C), (84, fast_stored.C)]) (S := []) (by simpa using ⟨fast_may.spec, fast_stored.spec⟩) (by simp) fast_Delete.loops) fast_Delete.at fast_Delete.nm fast_Delete.bd ?_
  intro vs b S v news e hS
  unfold fast_Delete.C at e
  split at e
  rotate_left
  · cases e
  cases e
  rw [fast_Delete.eq]
  unfold fast_Delete.H
  simp (maxSteps := 4000000) only [go_sem, Nat.reduceEqDiff, Nat.reduceLT, Nat.reduceAdd, Nat.reduceSub, Nat.reduceLeDiff, List.reduceReplicate, Int.reduceToNat, fast_may.C, fast_stored.C]
  rename_i b _ l pos
  have e : (!fmayB b l || decide (pos < 0) || decide ((l.length : Int) ≤ pos)) = !(fmayB b l && decide (0 ≤ pos) && decide (pos < (l.length : Int))) := by
    rw [Bool.eq_iff_iff]; cases fmayB b l <;> simp <;> omega
  rw [e]
  refine ⟨hS, fun h => ?_, fun h => ?_⟩
  · unfold deleteV; rw [Bool.not_eq_true'] at h; rw [h]; exact post_val rfl rfl
  · rw [Bool.not_eq_false'] at h
    have hv : deleteV b l pos = .tup [.sl false (.mics (storedV b (delS l pos.toNat))), .int .i64 0] := by
      unfold deleteV; rw [if_pos h]
    simp only [Bool.and_eq_true, decide_eq_true_eq, fmayB] at h
    have hl : l.length ≤ 13 := h.1.1.1.2
    obtain ⟨p, rfl⟩ := Int.eq_ofNat_of_zero_le h.1.2
    have hp : p < l.length := by have := h.2; omega
    rw [w64 (n := (l.length : Int) - 1) (by omega) (by omega), w64 (n := (l.length : Int) - 1 - (p : Nat)) (by omega) (by omega), hv]
    rw [joinW_eq]
    unfold fast_Delete.L1
    refine loop2 (σ := Nat × Nat) (fun s => .sref false 0 s.2 0 s.1) (fun s => .int .i64 s.1) (fun s => [.row .own s.2 (.slots (delK l p s.1))]) (fun s => l.length - 1 - p - s.1) (fun s => s.1 ≤ l.length - 1 - p) (0, 0) rfl rfl (Nat.zero_le _) ?_
    rintro I back ⟨k, v⟩ hk
    simp only [] at hk ⊢
    have hkl := delK_len l p k
    simp only [go_sem, Nat.reduceEqDiff, Nat.reduceLT, Nat.reduceAdd, Nat.reduceSub, Nat.reduceLeDiff, List.reduceReplicate, Int.reduceToNat, hkl]
    refine ⟨fun hlt => ?_, fun hge => ?_⟩
    · rw [w64 (n := (p : Int) + k) (by omega) (by omega), w64 (n := (p : Int) + k + 1) (by omega) (by omega)]
      have e1 : ((p : Int) + k + 1).toNat = p + k + 1 := by omega
      have e2 : (p : Int) + k = (p + k : Nat) := by omega
      rw [e1, e2, ← delK_next, delK_len]
      refine ⟨by omega, by unfold roomy; omega, ?_⟩
      exact back (k + 1, v + 1) (by show _ - (k + 1) < _ - k; omega) (by rw [wnext (by omega)]) rfl (by show k + 1 ≤ _; omega)
    · obtain rfl : k = l.length - 1 - p := by omega
      have e2 : (l.length : Int) - 1 = (l.length - 1 : Nat) := by omega
      rw [w64 (n := (l.length : Int) - 1) (by omega) (by omega), e2]
      have e3 : delK l p (l.length - 1 - p) ++ [⟨((l.length - 1 : Nat) : Int), 0⟩] = delS l p := rfl
      rw [e3]
      have hlen : (delS l p).length = l.length - 1 - p + 1 := by unfold delS; rw [List.length_append, delK_len]; rfl
      simp only [fast_stored.C, go_sem, Nat.reduceEqDiff, Nat.reduceLT, Nat.reduceAdd, Nat.reduceSub, Nat.reduceLeDiff, List.reduceReplicate, Int.reduceToNat]
      exact ⟨by unfold roomy; omega, by omega, post_val rfl rfl⟩
def fast_Swap.C : Contract
  | [.int .i64 b, .sl _ (.ints .i64 l), .int .i64 pos, .int .i64 ref] => some (false, pD (roomy l.length) (swapV b l pos ref))
  | _ => none
set_option maxRecDepth 20000 in
theorem fast_Swap.spec : FSpec Try.prog 41 fast_Swap.C := by
  refine FSpec.of (ctx_ok (F := [(83, fast_may.C), (84, fast_stored.C)]) (S := []) (by simpa using ⟨fast_may.spec, fast_stored.spec⟩) (by simp) fast_Swap.loops) fast_Swap.at fast_Swap.nm fast_Swap.bd ?_
  intro vs b S v news e hS
  unfold fast_Swap.C at e
  split at e
  rotate_left
  · cases e
  cases e
  rw [fast_Swap.eq]
  unfold fast_Swap.H
  simp (maxSteps := 4000000) only [go_sem, Nat.reduceEqDiff, Nat.reduceLT, Nat.reduceAdd, Nat.reduceSub, Nat.reduceLeDiff, List.reduceReplicate, Int.reduceToNat, fast_may.C, fast_stored.C]
  rename_i b _ l pos ref
  have e : (!fmayB b l || decide (ref < 1) || decide (pos < 0) || decide ((l.length : Int) ≤ pos)) = !(fmayB b l && decide (1 ≤ ref) && decide (0 ≤ pos) && decide (pos < (l.length : Int))) := by
    rw [Bool.eq_iff_iff]; cases fmayB b l <;> simp <;> omega
  rw [e]
  refine ⟨hS, fun h => ?_, fun h => ?_⟩
  · unfold swapV; rw [Bool.not_eq_true'] at h; rw [h]; exact post_val rfl rfl
  · rw [Bool.not_eq_false'] at h
    unfold swapV; rw [if_pos h]
    exact post_val rfl rfl
def fast_Cut.C : Contract
  | [.int .i64 b, .sl _ (.ints .i64 l), .int .i64 n] => some (false, pD (roomy l.length) (cutV b l n))
  | _ => none
set_option maxRecDepth 20000 in
theorem fast_Cut.spec : FSpec Try.prog 43 fast_Cut.C := by
  refine FSpec.of (ctx_ok (F := [(83, fast_may.C), (84, fast_stored.C)]) (S := []) (by simpa using ⟨fast_may.spec, fast_stored.spec⟩) (by simp) fast_Cut.loops) fast_Cut.at fast_Cut.nm fast_Cut.bd ?_
  intro vs b S v news e hS
  unfold fast_Cut.C at e
  split at e
  rotate_left
  · cases e
  cases e
  rw [fast_Cut.eq]
  unfold fast_Cut.H
  simp (maxSteps := 4000000) only [go_sem, Nat.reduceEqDiff, Nat.reduceLT, Nat.reduceAdd, Nat.reduceSub, Nat.reduceLeDiff, List.reduceReplicate, Int.reduceToNat, fast_may.C, fast_stored.C]
  rename_i b _ l n
  have e : (!fmayB b l || decide (n < 0) || decide ((l.length : Int) < n)) = !(fmayB b l && decide (0 ≤ n) && decide (n ≤ (l.length : Int))) := by
    rw [Bool.eq_iff_iff]; cases fmayB b l <;> simp <;> omega
  rw [e]
  refine ⟨hS, fun h => ?_, fun h => ?_⟩
  · unfold cutV; rw [Bool.not_eq_true'] at h; rw [h]; exact post_val rfl rfl
  · rw [Bool.not_eq_false'] at h
    have hv : cutV b l n = .tup [.sl false (.mics (storedV b (cutK l (l.length - n.toNat)))), .int .i64 0] := by
      unfold cutV; rw [if_pos h]
    simp only [Bool.and_eq_true, decide_eq_true_eq, fmayB] at h
    have hl : l.length ≤ 13 := h.1.1.1.2
    obtain ⟨p, rfl⟩ := Int.eq_ofNat_of_zero_le h.1.2
    have hp : p ≤ l.length := by have := h.2; omega
    rw [w64 (n := (l.length : Int) - (p : Nat)) (by omega) (by omega), hv]
    rw [joinW_eq]
    unfold fast_Cut.L1
    refine loop2 (σ := Nat × Nat) (fun s => .sref false 0 s.2 0 s.1) (fun s => .int .i64 s.1) (fun s => [.row .own s.2 (.slots (cutK l s.1))]) (fun s => l.length - p - s.1) (fun s => s.1 ≤ l.length - p) (0, 0) rfl rfl (Nat.zero_le _) ?_
    rintro I back ⟨k, v⟩ hk
    simp only [] at hk ⊢
    have hkl := cutK_len l k
    simp only [go_sem, Nat.reduceEqDiff, Nat.reduceLT, Nat.reduceAdd, Nat.reduceSub, Nat.reduceLeDiff, List.reduceReplicate, Int.reduceToNat, hkl]
    refine ⟨fun hlt => ?_, fun hge => ?_⟩
    · rw [w64 (n := (l.length : Int) - 1) (by omega) (by omega), w64 (n := (l.length : Int) - 1 - k) (by omega) (by omega)]
      have e2 : (l.length : Int) - 1 - k = (l.length - 1 - k : Nat) := by omega
      rw [e2, ← cutK_next, cutK_len]
      refine ⟨by unfold roomy; omega, ?_⟩
      exact back (k + 1, v + 1) (by show _ - (k + 1) < _ - k; omega) (by rw [wnext (by omega)]) rfl (by show k + 1 ≤ _; omega)
    · obtain rfl : k = l.length - p := by omega
      have e4 : (cutK l (l.length - p)).take (l.length - p) = cutK l (l.length - p) := List.take_of_length_le (by rw [cutK_len]; exact Nat.le_refl _)
      rw [e4]
      simp only [fast_stored.C, go_sem, Nat.reduceEqDiff, Nat.reduceLT, Nat.reduceAdd, Nat.reduceSub, Nat.reduceLeDiff, List.reduceReplicate, Int.reduceToNat]
      exact ⟨by rw [cutK_len]; omega, post_val rfl rfl⟩
end Lam
namespace Lam
open Go Go.Proofs
set_option linter.unusedVariables false
set_option linter.unnecessarySimpa false
set_option linter.unusedSimpArgs false
def node_Check.C : Contract
  | [.agg [.int .i64 a, .int .i64 b, .int .i64 c, .int .i64 d, .sl false (.ints .i64 l)]] => some (false, pD True (.bool (ndB ⟨a, b, c, d, l⟩)))
  | _ => none
set_option maxRecDepth 20000 in
theorem node_Check.spec : FSpec Try.prog 32 node_Check.C := by
  refine FSpec.of (ctx_ok (F := [(79, node_block.C), (81, slices_ContainsFunc_sl_int_int.C)]) (S := []) (by simpa using ⟨node_block.spec, slices_ContainsFunc_sl_int_int.spec⟩) (by simp) node_Check.loops) node_Check.at node_Check.nm node_Check.bd ?_
  intro vs b S v news e hS
  unfold node_Check.C at e
  split at e
  rotate_left
  · cases e
  cases e
  rw [node_Check.eq]
  unfold node_Check.H
  simp (maxSteps := 4000000) only [go_sem, Nat.reduceEqDiff, Nat.reduceLT, Nat.reduceAdd, Nat.reduceSub, Nat.reduceLeDiff, List.reduceReplicate, Int.reduceToNat, node_block.C, slices_ContainsFunc_sl_int_int.C]
  rename_i a b c d l
  have h1 : (a < 0 ∨ 9 < a ∨ b < 0 ∨ 1099511627776 < b ∨ blockB c = false ∨ blockB d = false ∨ 13 < (l.length : Int)) → ndB ⟨a, b, c, d, l⟩ = false := by
    intro h
    rw [Bool.eq_false_iff]
    intro hh
    obtain ⟨q1, q2, q3, q4, q5, q6, q7, q8⟩ := nd_iff.1 hh
    simp only at q1 q2 q3 q4 q5 q6 q7 q8
    unfold blockB at h
    simp only [Bool.and_eq_false_iff, decide_eq_false_iff_not] at h
    omega
  have h2 : ¬ (a < 0 ∨ 9 < a ∨ b < 0 ∨ 1099511627776 < b ∨ blockB c = false ∨ blockB d = false ∨ 13 < (l.length : Int)) → ndB ⟨a, b, c, d, l⟩ = !l.any noBlock := by
    intro h
    simp only [not_or, Bool.not_eq_false] at h
    obtain ⟨q1, q2, q3, q4, q5, q6, q7⟩ := h
    unfold ndB
    rw [decide_eq_true (show 0 ≤ a by omega), decide_eq_true (show a ≤ 9 by omega), decide_eq_true (show 0 ≤ b by omega), decide_eq_true (show b ≤ 1099511627776 by omega), q5, q6, decide_eq_true (show l.length ≤ 13 by omega)]
    rfl
  generalize ndB ⟨a, b, c, d, l⟩ = R at *
  simp only [node_block.C, slices_ContainsFunc_sl_int_int.C, joinW_eq, guard_tt, guard_tf, guard_ft, guard_ff, Int.reduceEq, Int.reduceLT, Int.reduceLE, decide_false, decide_true, Bool.not_false, Bool.not_true, Bool.not_not, not_true_eq_false, not_false_eq_true, true_implies, false_implies, implies_true, and_true, true_and, reduceCtorEq, Bool.and_self, Bool.or_self, Bool.and_true, Bool.true_and, Bool.false_eq_true, if_true, if_false, go_sem, Nat.reduceEqDiff, Nat.reduceLT, Nat.reduceAdd, Nat.reduceSub, Nat.reduceLeDiff, List.reduceReplicate, Int.reduceToNat]
  repeat' (first | (with_reducible apply And.intro) | (with_reducible intro _))
  all_goals first
    | omega
    | (unfold roomy; omega)
    | (exfalso; simp_all; done)
    | (rw [h1 (by grind)]; exact post_val rfl rfl)
    | (rw [h2 (by grind)]; exact post_val rfl rfl)
    | skip
  all_goals trace_state
def node_first.C : Contract
  | [.agg [.int .i64 a, .int .i64 b, .int .i64 c, .int .i64 d, .sl false (.ints .i64 l)]] => some (false, pD (0 ≤ a ∧ a ≤ 9 ∧ 0 ≤ b ∧ b ≤ 1099511627776) (.int .i64 (firstN ⟨a, b, c, d, l⟩)))
  | _ => none
set_option maxRecDepth 20000 in
theorem node_first.spec : FSpec Try.prog 76 node_first.C := by
  refine FSpec.of (ctx_ok (F := []) (S := []) (by simp) (by simp) node_first.loops) node_first.at node_first.nm node_first.bd ?_
  intro vs b S v news e hS
  unfold node_first.C at e
  split at e
  rotate_left
  · cases e
  cases e
  rw [node_first.eq]
  unfold node_first.H
  simp (maxSteps := 4000000) only [go_sem, Nat.reduceEqDiff, Nat.reduceLT, Nat.reduceAdd, Nat.reduceSub, Nat.reduceLeDiff, List.reduceReplicate, Int.reduceToNat]
  rename_i a b c d l
  rw [first_bits hS.1 (by omega) hS.2.2.1 hS.2.2.2]
  exact ⟨by decide, post_val rfl rfl⟩
def wordsV (n : Nd) : AV := if ndB n = true then .tup [.sl false (.ints .i64 (wordsNd n)), .int .i64 0] else .tup [.sl false (.ints .i64 []), .int .i64 90]
def node_Words.C : Contract
  | [.agg [.int .i64 a, .int .i64 b, .int .i64 c, .int .i64 d, .sl false (.ints .i64 l)]] => some (false, pD True (wordsV ⟨a, b, c, d, l⟩))
  | _ => none
set_option maxRecDepth 20000 in
theorem node_Words.spec : FSpec Try.prog 25 node_Words.C := by
  refine FSpec.of (ctx_ok (F := [(32, node_Check.C), (76, node_first.C)]) (S := []) (by simpa using ⟨node_Check.spec, node_first.spec⟩) (by simp) node_Words.loops) node_Words.at node_Words.nm node_Words.bd ?_
  intro vs b S v news e hS
  unfold node_Words.C at e
  split at e
  rotate_left
  · cases e
  cases e
  rw [node_Words.eq]
  unfold node_Words.H
  simp (maxSteps := 4000000) only [go_sem, Nat.reduceEqDiff, Nat.reduceLT, Nat.reduceAdd, Nat.reduceSub, Nat.reduceLeDiff, List.reduceReplicate, Int.reduceToNat, node_Check.C, node_first.C]
  rename_i a b c d l
  refine ⟨fun h => ?_, fun h => ?_⟩
  · unfold wordsV; rw [h]; exact post_val rfl rfl
  · have hok := nd_iff.1 h
    obtain ⟨q1, q2, q3, q4, _, _, q7, _⟩ := hok
    simp only at q1 q2 q3 q4 q7
    have hw : firstN ⟨a, b, c, d, l⟩ :: c :: d :: (l.take 13 ++ List.take (16 - (3 + min 13 l.length)) (List.drop (3 + min 13 l.length) [firstN ⟨a, b, c, d, l⟩, c, d, 0, 0, 0, 0, 0, 0, 0, 0, 0, 0, 0, 0, 0])) = wordsNd ⟨a, b, c, d, l⟩ := by
      unfold wordsNd
      simp only
      rw [take_len l q7, Nat.min_eq_right q7]
      congr 4
      have : ∀ k, k ≤ 13 → List.take (16 - (3 + k)) (List.drop (3 + k) [firstN ⟨a, b, c, d, l⟩, c, d, 0, 0, 0, 0, 0, 0, 0, 0, 0, 0, 0, 0, 0]) = List.replicate (13 - k) 0 := by
        intro k hk
        rcases k with _|_|_|_|_|_|_|_|_|_|_|_|_|_|k <;> first | rfl | omega
      exact this _ q7
    rw [hw]
    unfold wordsV; simp only [h, if_true]
    refine ⟨⟨by decide, by decide, by unfold roomy; omega⟩, ⟨q1, q2, q3, q4⟩, ⟨by decide, by decide⟩, ⟨by decide, by decide⟩, ⟨by decide, by decide⟩, rfl, rfl, rfl, ⟨by decide, by decide⟩, post_val ?_ rfl⟩
    simp only [go_sem, Nat.reduceEqDiff, Nat.reduceLT, Nat.reduceAdd, Nat.reduceSub, Nat.reduceLeDiff, List.reduceReplicate, Int.reduceToNat]
    rw [take_len _ (Nat.le_of_eq (words_len (nd_iff.1 h)))]
def nextV (at_ next : Int) : AV := if (blockB at_ && blockB next) = true then .tup [.sl false (.mics [⟨1, 16 * at_ + 1, next⟩, ⟨2, 2 * at_, 0⟩]), .int .i64 0] else .tup [.sl false (.mics []), .int .i64 1]
def node_Next.C : Contract
  | [.int .i64 a, .int .i64 b] => some (false, pD True (nextV a b))
  | _ => none
set_option maxRecDepth 20000 in
theorem node_Next.spec : FSpec Try.prog 29 node_Next.C := by
  refine FSpec.of (ctx_ok (F := [(79, node_block.C)]) (S := []) (by simpa using node_block.spec) (by simp) node_Next.loops) node_Next.at node_Next.nm node_Next.bd ?_
  intro vs b S v news e hS
  unfold node_Next.C at e
  split at e
  rotate_left
  · cases e
  cases e
  rw [node_Next.eq]
  unfold node_Next.H
  simp (maxSteps := 4000000) only [go_sem, Nat.reduceEqDiff, Nat.reduceLT, Nat.reduceAdd, Nat.reduceSub, Nat.reduceLeDiff, List.reduceReplicate, Int.reduceToNat, node_block.C]
  rename_i a b
  have e : (!blockB a || !blockB b) = !(blockB a && blockB b) := by rw [Bool.not_and]
  rw [e]
  unfold nextV
  cases h : (blockB a && blockB b) with
  | false => exact ⟨fun _ => post_val rfl rfl, fun h' => (by cases h')⟩
  | true =>
    have h' := h
    unfold blockB at h'
    simp only [Bool.and_eq_true, decide_eq_true_eq] at h'
    refine ⟨fun h' => (by cases h'), fun _ => ?_⟩
    rw [w64 (n := 16 * a) (by omega) (by omega), w64 (n := 16 * a + 1) (by omega) (by omega), w64 (n := 2 * a) (by omega) (by omega)]
    exact post_val rfl rfl
def turnS (at_ : Int) (n : Nd) (down : Bool) : List Mic := if (blockB at_ && ndB n && !decide (decide (n.turn % 2 = 1) = down)) = true then [⟨1, 16 * at_, firstN (turnedN n)⟩] else []
def node_Turn.C : Contract
  | [.int .i64 t, .agg [.int .i64 a, .int .i64 b, .int .i64 c, .int .i64 d, .sl false (.ints .i64 l)], .bool down] => some (false, pD True (.sl false (.mics (turnS t ⟨a, b, c, d, l⟩ down))))
  | _ => none
set_option maxRecDepth 20000 in
theorem node_Turn.spec : FSpec Try.prog 34 node_Turn.C := by
  refine FSpec.of (ctx_ok (F := [(79, node_block.C), (32, node_Check.C), (76, node_first.C)]) (S := []) (by simpa using ⟨node_block.spec, node_Check.spec, node_first.spec⟩) (by simp) node_Turn.loops) node_Turn.at node_Turn.nm node_Turn.bd ?_
  intro vs b S v news e hS
  unfold node_Turn.C at e
  split at e
  rotate_left
  · cases e
  cases e
  rw [node_Turn.eq]
  unfold node_Turn.H
  simp (maxSteps := 4000000) only [go_sem, Nat.reduceEqDiff, Nat.reduceLT, Nat.reduceAdd, Nat.reduceSub, Nat.reduceLeDiff, List.reduceReplicate, Int.reduceToNat, node_block.C, node_Check.C, node_first.C]
  rename_i t a b c d l down
  refine ⟨fun h => ?_, fun h => ?_⟩
  · have : turnS t ⟨a, b, c, d, l⟩ down = [] := by
      unfold turnS
      rw [if_neg]
      intro h'
      simp only [Bool.and_eq_true, Bool.not_eq_true', decide_eq_false_iff_not] at h'
      obtain ⟨⟨h1, h2⟩, h3⟩ := h'
      have hok := nd_iff.1 h2
      have q3 := hok.2.2.1
      have q4 := hok.2.2.2.1
      simp only at q3 q4
      rw [h1, h2, bit0 q3 q4] at h
      simp only [Bool.not_true, Bool.false_or, beq_iff_eq] at h
      exact h3 h
    rw [this]; exact post_val rfl rfl
  · simp only [Bool.or_eq_false_iff, Bool.not_eq_false'] at h
    obtain ⟨⟨h1, h2⟩, h3⟩ := h
    have hok := nd_iff.1 h2
    have q1 := hok.1
    have q2 := hok.2.1
    have q3 := hok.2.2.1
    have q4 := hok.2.2.2.1
    simp only at q1 q2 q3 q4
    rw [bit0 q3 q4] at h3
    have hb := h1
    unfold blockB at hb
    simp only [Bool.and_eq_true, decide_eq_true_eq] at hb
    have : turnS t ⟨a, b, c, d, l⟩ down = [⟨1, 16 * t, firstN (turnedN ⟨a, b, c, d, l⟩)⟩] := by
      unfold turnS
      rw [if_pos]
      rw [h1, h2]
      simp only [Bool.true_and, Bool.not_eq_true', decide_eq_false_iff_not]
      simpa using h3
    rw [this, Int.tmod_eq_emod_of_nonneg q3, w64 (n := b % 1099511627776 + 1) (by omega) (by omega), w64 (n := 16 * t) (by omega) (by omega)]
    exact ⟨by decide, ⟨q1, q2, by omega, by omega⟩, post_val rfl rfl⟩
def readV (words : List Int) (at_ : Int) : AV := if (decide (at_ < 0) || decide (((words.length / 16 : Nat) : Int) ≤ at_)) = true then .tup [zeroNd.V, .int .i64 1] else match readN (blockAt words at_.toNat) with
  | some n => .tup [n.V, .int .i64 0]
  | none => .tup [zeroNd.V, .int .i64 90]
def node_Read.C : Contract
  | [.sl _ (.ints .i64 l), .int .i64 k] => some (false, pD (roomy l.length) (readV l k))
  | _ => none
set_option maxRecDepth 20000 in
theorem node_Read.spec : FSpec Try.prog 27 node_Read.C := by
  refine FSpec.of (ctx_ok (F := [(47, fast_Slots.C), (25, node_Words.C), (78, slices_Equal_sl_int_int.C)]) (S := []) (by simpa using ⟨fast_Slots.spec, node_Words.spec, slices_Equal_sl_int_int.spec⟩) (by simp) node_Read.loops) node_Read.at node_Read.nm node_Read.bd ?_
  intro vs b S v news e hS
  unfold node_Read.C at e
  split at e
  rotate_left
  · cases e
  cases e
  rw [node_Read.eq]
  unfold node_Read.H
  simp (maxSteps := 4000000) only [go_sem, Nat.reduceEqDiff, Nat.reduceLT, Nat.reduceAdd, Nat.reduceSub, Nat.reduceLeDiff, List.reduceReplicate, Int.reduceToNat, fast_Slots.C, node_Words.C, slices_Equal_sl_int_int.C]
  rename_i l k
  have hrl := hS
  unfold roomy at hS
  have e0 : IntKind.i64.wrap ((l.length : Int).tdiv 16) = ((l.length / 16 : Nat) : Int) := by
    rw [Int.tdiv_eq_ediv_of_nonneg (by omega)]; exact w64 (by omega) (by omega)
  rw [e0]
  unfold readV
  refine ⟨fun _ => by decide, fun h => ?_, fun h => ?_⟩
  · rw [if_pos h]
    refine post_val ?_ rfl
    simp only [zeroNd, go_sem, Nat.reduceEqDiff, Nat.reduceLT, Nat.reduceAdd, Nat.reduceSub, Nat.reduceLeDiff, List.reduceReplicate, Int.reduceToNat]
  · rw [h]
    simp only [Bool.or_eq_false_iff, decide_eq_false_iff_not] at h
    obtain ⟨k, rfl⟩ := Int.eq_ofNat_of_zero_le (show 0 ≤ k by omega)
    have hk : 16 * k + 16 ≤ l.length := by omega
    have e1 : IntKind.i64.wrap (16 * (k : Int)) = 16 * (k : Int) := w64 (by omega) (by omega)
    have e2 : IntKind.i64.wrap ((k : Int) + 1) = (k : Int) + 1 := w64 (by omega) (by omega)
    have e3 : IntKind.i64.wrap (16 * ((k : Int) + 1)) = 16 * ((k : Int) + 1) := w64 (by omega) (by omega)
    have e4 : (16 * ((k : Int) + 1)).toNat - (16 * (k : Int)).toNat = 16 := by omega
    have e5 : (16 * (k : Int)).toNat = 16 * k := by omega
    have eb : (l.drop (16 * k)).take 16 = blockAt l k := rfl
    have hbl : (blockAt l k).length = 16 := by unfold blockAt; simp; omega
    rw [e2, e1, e3, e4, e5, eb, Int.toNat_natCast]
    generalize blockAt l k = w at *
    have hdp : (⟨andI .i64 (w.getD 0 0) 15, (andNotI .i64 (w.getD 0 0) 1152921504606846976).fdiv (2 ^ min 4 64), w.getD 1 0, w.getD 2 0, slotsOf w 0⟩ : Nd) = decP w := rfl
    have hV : (decP w).V = .agg [.int .i64 (andI .i64 (w.getD 0 0) 15), .int .i64 ((andNotI .i64 (w.getD 0 0) 1152921504606846976).fdiv (2 ^ min 4 64)), .int .i64 (w.getD 1 0), .int .i64 (w.getD 2 0), .sl false (.ints .i64 (slotsOf w 0))] := rfl
    rw [hdp, hbl, ← readP_eq]
    have hsr := slotsOf_roomy w 0
    refine ⟨by omega, by omega, by omega, by decide, by omega, by omega, ⟨by unfold roomy; omega, by decide⟩, ?_⟩
    unfold readBy wordsV
    cases hd : ndB (decP w) with
    | false =>
      simp only [Bool.false_eq_true, if_false, Bool.false_and, joinW_eq, joinW_eq, guard_tt, guard_tf, guard_ft, guard_ff, Int.reduceEq, Int.reduceLT, Int.reduceLE, decide_false, decide_true, Bool.not_false, Bool.not_true, Bool.not_not, not_true_eq_false, not_false_eq_true, true_implies, false_implies, implies_true, and_true, true_and, reduceCtorEq, Bool.and_self, Bool.or_self, Bool.and_true, Bool.true_and, Bool.false_eq_true, if_true, if_false, go_sem, Nat.reduceEqDiff, Nat.reduceLT, Nat.reduceAdd, Nat.reduceSub, Nat.reduceLeDiff, List.reduceReplicate, Int.reduceToNat]
      refine post_val ?_ rfl
      simp only [zeroNd, go_sem, Nat.reduceEqDiff, Nat.reduceLT, Nat.reduceAdd, Nat.reduceSub, Nat.reduceLeDiff, List.reduceReplicate, Int.reduceToNat]
    | true =>
      have hok := nd_iff.1 hd
      have hwl := words_len hok
      simp only [if_true, Bool.true_and, slices_Equal_sl_int_int.C, hwl, hbl, joinW_eq, guard_tt, guard_tf, guard_ft, guard_ff, Int.reduceEq, Int.reduceLT, Int.reduceLE, decide_false, decide_true, Bool.not_false, Bool.not_true, Bool.not_not, not_true_eq_false, not_false_eq_true, true_implies, false_implies, implies_true, and_true, true_and, reduceCtorEq, Bool.and_self, Bool.or_self, Bool.and_true, Bool.true_and, Bool.false_eq_true, if_true, if_false, go_sem, Nat.reduceEqDiff, Nat.reduceLT, Nat.reduceAdd, Nat.reduceSub, Nat.reduceLeDiff, List.reduceReplicate, Int.reduceToNat]
      refine ⟨by unfold roomy; omega, fun h => ?_, fun h => ?_⟩
      · rw [if_neg h]
        refine post_val ?_ rfl
        simp only [zeroNd, go_sem, Nat.reduceEqDiff, Nat.reduceLT, Nat.reduceAdd, Nat.reduceSub, Nat.reduceLeDiff, List.reduceReplicate, Int.reduceToNat]
      · rw [if_pos h]
        exact post_val rfl rfl
end Lam
namespace Lam
open Go Go.Proofs
set_option linter.unusedVariables false
def lamplighterref02_Numbers.loops : Nat → LInfo
  | 4 => ⟨[5], [false], [0, 1], [], []⟩
  | _ => ⟨[], [], [], [], []⟩
def lamplighterref02_Numbers.L1 (c : Ctx) (J1 : List AObj → Prop) (K : AOut → List AObj → Prop) (lv : List AV) (h0 : List AObj) (n0 : Nat) (c0 : AV) (c1 : AV) : Prop :=
  ∃ I : Nat → List AV → List AObj → Prop, (∃ n, I n lv h0) ∧ ∀ n h, ∀ t5, I n [t5] h →
    runD (lenD T_sl_int h c0) h fun t13 h =>
    runD (binD T_int .lss t5 t13) h fun t14 h =>
    condW t14
    (runD (indexAddrD T_sl_int h c0 t5) h fun t19 h =>
    runD (fitD T_int (loadD h t19)) h fun t20 h =>
    runD (indexAddrD T_sl_int h c1 t5) h fun t23 h =>
    runD (fitD T_int (loadD h t23)) h fun t24 h =>
    runD (binD T_int .neq t20 t24) h fun t25 h =>
    condW t25
    (K (.ret (.bool false)) h)
    (runD (binD T_int .add t5 (.int .i64 1)) h fun t16 h =>
    (∃ m, m < n ∧ I m (AV.norms n0 h [t16]) (normH n0 h)) ∧ AV.norms n0 h [c0, c1] = [c0, c1]))
    (J1 h)
def lamplighterref02_Numbers.H (c : Ctx) (t0 : AV) (t1 : AV) (h : List AObj) (K : AOut → List AObj → Prop) : Prop :=
  runD (lenD T_sl_int h t0) h fun t7 h =>
  runD (lenD T_sl_int h t1) h fun t9 h =>
  runD (binD T_int .neq t7 t9) h fun t10 h =>
  condW t10
  (K (.ret (.bool false)) h)
  (joinW (fun (J1 : List AObj → Prop) =>
  promV [false] [(.int .i64 0)] h fun lv h => lamplighterref02_Numbers.L1 c J1 K (AV.norms h.length h lv) (normH h.length h) h.length (AV.norm h.length h t0) (AV.norm h.length h t1))
  (fun h => K (.ret (.bool true)) h))
def lamplighterref02_Text.loops : Nat → LInfo
  | 1 => ⟨[], [], [], [(3, none), (5, some [15, 20])], []⟩
  | 5 => ⟨[6, 7], [true, false], [0, 1], [], []⟩
  | 12 => ⟨[8, 9, 10], [false, false, false], [0, 1, 6, 7], [], []⟩
  | _ => ⟨[], [], [], [], []⟩
def lamplighterref02_Text.L2 (c : Ctx) (J4 : AV → AV → AV → AV → AV → List AObj → Prop) (K : AOut → List AObj → Prop) (lv : List AV) (h0 : List AObj) (n0 : Nat) (c0 : AV) (c1 : AV) (c6 : AV) (c7 : AV) : Prop :=
  ∃ I : Nat → List AV → List AObj → Prop, (∃ n, I n lv h0) ∧ ∀ n h, ∀ t8, ∀ t9, ∀ t10, I n [t8, t9, t10] h →
    runD (binD T_int .lss t10 (.int .i64 7)) h fun t38 h =>
    condW t38
    (runD (binD T_int .rem t9 (.int .i64 256)) h fun t42 h =>
    runD (convD h T_int T_uint8 t42) h fun t43 h =>
    runD (buildSliceD T_sl_uint8 1 [(0, t43)] h.length) h fun t44 h =>
    runDM (appendD T_sl_uint8 h t44 t8 h.length) (appendH T_sl_uint8 h t44 t8) h fun t46 h =>
    runD (binD T_int .quo t9 (.int .i64 256)) h fun t48 h =>
    runD (binD T_int .add t10 (.int .i64 1)) h fun t40 h =>
    (∃ m, m < n ∧ I m (AV.norms n0 h [t46, t48, t40]) (normH n0 h)) ∧ AV.norms n0 h [c0, c1, c6, c7] = [c0, c1, c6, c7])
    (J4 c0 c1 c6 c7 t8 h)
def lamplighterref02_Text.L1 (c : Ctx) (J2 : AV → AV → AV → List AObj → Prop) (K : AOut → List AObj → Prop) (lv : List AV) (h0 : List AObj) (n0 : Nat) (c0 : AV) (c1 : AV) : Prop :=
  ∃ I : Nat → List AV → List AObj → Prop, (∃ n, I n lv h0) ∧ ∀ n h, ∀ t6, ∀ t7, I n [t6, t7] h →
    runD (lenD T_sl_int h c0) h fun t24 h =>
    runD (binD T_int .lss t7 t24) h fun t25 h =>
    condW t25
    (joinW (fun (J3 : AV → AV → AV → AV → List AObj → Prop) =>
    runD (indexAddrD T_sl_int h c0 t7) h fun t30 h =>
    runD (fitD T_int (loadD h t30)) h fun t31 h =>
    runD (binD T_int .lss t31 (.int .i64 0)) h fun t32 h =>
    condW t32
    (K (.ret (.tup [(.str []), (.int .i64 20)])) h)
    (runD (indexAddrD T_sl_int h c0 t7) h fun t35 h =>
    runD (fitD T_int (loadD h t35)) h fun t36 h =>
    joinW (fun (J4 : AV → AV → AV → AV → AV → List AObj → Prop) =>
    promV [false, false, false] [(.sl true (.ints .u8 [])), t36, (.int .i64 0)] h fun lv h => lamplighterref02_Text.L2 c J4 K (AV.norms h.length h lv) (normH h.length h) h.length (AV.norm h.length h c0) (AV.norm h.length h c1) (AV.norm h.length h t6) (AV.norm h.length h t7))
    (fun t0 t1 t6 t7 t8 h => runDM (appendD T_sl_uint8 h t6 t8 h.length) (appendH T_sl_uint8 h t6 t8) h fun t51 h =>
    J3 t0 t1 t51 t7 h)))
    (fun t0 t1 t6 t7 h => runD (binD T_int .add t7 (.int .i64 1)) h fun t27 h =>
    (∃ m, m < n ∧ I m (AV.norms n0 h [t6, t27]) (normH n0 h)) ∧ AV.norms n0 h [t0, t1] = [c0, c1]))
    (J2 c0 c1 t6 h)
def lamplighterref02_Text.H (c : Ctx) (t0 : AV) (t1 : AV) (h : List AObj) (K : AOut → List AObj → Prop) : Prop :=
  runD (binD T_int .lss t1 (.int .i64 0)) h fun t14 h =>
  joinW (fun (J1 : AV → AV → List AObj → Prop) =>
  guardW t14 false
  (runD (lenD T_sl_int h t0) h fun t18 h =>
    runD (binD T_int .mul (.int .i64 7) t18) h fun t19 h =>
    runD (binD T_int .gtr t1 t19) h fun t20 h =>
    J1 (.bool false) t20 h)
  (J1 (.bool true) .und h))
  (fun t15 t20 h => runD (pickD t15 (.bool true) t20) h fun t21 h =>
  condW t21
  (K (.ret (.tup [(.str []), (.int .i64 20)])) h)
  (joinW (fun (J2 : AV → AV → AV → List AObj → Prop) =>
  promV [true, false] [(.sl true (.ints .u8 [])), (.int .i64 0)] h fun lv h => lamplighterref02_Text.L1 c J2 K (AV.norms h.length h lv) (normH h.length h) h.length (AV.norm h.length h t0) (AV.norm h.length h t1))
  (fun t0 t1 t6 h => runD (sliceD T_sl_uint8 h t6 none (some t1) none) h fun t54 h =>
  runD (convD h T_sl_uint8 T_string t54) h fun t55 h =>
  callW c (.fn (.func 121) [] []) [t55] h (fun t57 h =>
  callW c (.fn (.func 22) [] []) [t57, t0] h (fun t60 h =>
  runD (unD .not t60) h fun t61 h =>
  condW t61
  (K (.ret (.tup [(.str []), (.int .i64 20)])) h)
  (K (.ret (.tup [t55, (.int .i64 0)])) h))
  (fun v h => K (.pan v) h))
  (fun v h => K (.pan v) h))))
def lamplighterref02_Check.loops : Nat → LInfo
  | 1 => ⟨[], [], [], [(4, none), (3, some [6, 9])], []⟩
  | _ => ⟨[], [], [], [], []⟩
def lamplighterref02_Check.H (c : Ctx) (t0 : AV) (h : List AObj) (K : AOut → List AObj → Prop) : Prop :=
  runD (lenD T_string h t0) h fun t4 h =>
  runD (binD T_int .geq t4 (.int .i64 1)) h fun t5 h =>
  joinW (fun (J1 : AV → AV → List AObj → Prop) =>
  guardW t5 true
  (runD (lenD T_string h t0) h fun t8 h =>
    runD (binD T_int .leq t8 (.int .i64 21)) h fun t9 h =>
    J1 (.bool true) t9 h)
  (J1 (.bool false) .und h))
  (fun t6 t9 h => runD (pickD t6 t9 (.bool false)) h fun t10 h =>
  K (.ret t10) h)
def lamplighterref02_CheckVal.loops : Nat → LInfo
  | _ => ⟨[], [], [], [], []⟩
def lamplighterref02_CheckVal.H (c : Ctx) (t0 : AV) (h : List AObj) (K : AOut → List AObj → Prop) : Prop :=
  runD (lenD T_string h t0) h fun t4 h =>
  runD (binD T_int .leq t4 (.int .i64 21)) h fun t5 h =>
  K (.ret t5) h
def lamplighterref02_Words.loops : Nat → LInfo
  | 3 => ⟨[3, 4], [true, false], [0], [], []⟩
  | 7 => ⟨[5, 6], [false, false], [0, 3, 4], [], []⟩
  | _ => ⟨[], [], [], [], []⟩
def lamplighterref02_Words.L2 (c : Ctx) (J3 : AV → AV → AV → AV → List AObj → Prop) (K : AOut → List AObj → Prop) (lv : List AV) (h0 : List AObj) (n0 : Nat) (c0 : AV) (c3 : AV) (c4 : AV) : Prop :=
  ∃ I : Nat → List AV → List AObj → Prop, (∃ n, I n lv h0) ∧ ∀ n h, ∀ t5, ∀ t6, I n [t5, t6] h →
    runD (binD T_int .add c4 (.int .i64 7)) h fun t16 h =>
    runD (binD T_int .lss t6 t16) h fun t17 h =>
    condW t17
    (runD (binD T_int .mul t5 (.int .i64 256)) h fun t21 h =>
    runD (lenD T_string h c0) h fun t24 h =>
    runD (binD T_int .lss t6 t24) h fun t25 h =>
    joinW (fun (J4 : AV → List AObj → Prop) =>
    condW t25
    (runD (indexD T_string c0 t6) h fun t29 h =>
      runD (convD h T_uint8 T_int t29) h fun t30 h =>
      runD (binD T_int .add t21 t30) h fun t31 h =>
      J4 t31 h)
    (J4 t21 h))
    (fun t5 h => runD (binD T_int .add t6 (.int .i64 1)) h fun t19 h =>
    (∃ m, m < n ∧ I m (AV.norms n0 h [t5, t19]) (normH n0 h)) ∧ AV.norms n0 h [c0, c3, c4] = [c0, c3, c4]))
    (J3 c0 c3 c4 t5 h)
def lamplighterref02_Words.L1 (c : Ctx) (J1 : AV → List AObj → Prop) (K : AOut → List AObj → Prop) (lv : List AV) (h0 : List AObj) (n0 : Nat) (c0 : AV) : Prop :=
  ∃ I : Nat → List AV → List AObj → Prop, (∃ n, I n lv h0) ∧ ∀ n h, ∀ t3, ∀ t4, I n [t3, t4] h →
    runD (lenD T_string h c0) h fun t9 h =>
    runD (binD T_int .lss t4 t9) h fun t10 h =>
    condW t10
    (joinW (fun (J2 : AV → AV → AV → List AObj → Prop) =>
    joinW (fun (J3 : AV → AV → AV → AV → List AObj → Prop) =>
    promV [false, false] [(.int .i64 0), t4] h fun lv h => lamplighterref02_Words.L2 c J3 K (AV.norms h.length h lv) (normH h.length h) h.length (AV.norm h.length h c0) (AV.norm h.length h t3) (AV.norm h.length h t4))
    (fun t0 t3 t4 t5 h => runD (buildSliceD T_sl_int 1 [(0, t5)] h.length) h fun t34 h =>
    runDM (appendD T_sl_int h t3 t34 h.length) (appendH T_sl_int h t3 t34) h fun t35 h =>
    J2 t0 t35 t4 h))
    (fun t0 t3 t4 h => runD (binD T_int .add t4 (.int .i64 7)) h fun t12 h =>
    (∃ m, m < n ∧ I m (AV.norms n0 h [t3, t12]) (normH n0 h)) ∧ AV.norms n0 h [t0] = [c0]))
    (J1 t3 h)
def lamplighterref02_Words.H (c : Ctx) (t0 : AV) (h : List AObj) (K : AOut → List AObj → Prop) : Prop :=
  joinW (fun (J1 : AV → List AObj → Prop) =>
  promV [true, false] [(.sl true (.ints .i64 [])), (.int .i64 0)] h fun lv h => lamplighterref02_Words.L1 c J1 K (AV.norms h.length h lv) (normH h.length h) h.length (AV.norm h.length h t0))
  (fun t3 h => K (.ret t3) h)
theorem lamplighterref02_Numbers.eq (F : List (FuncId × Contract)) (S : List (FuncId × Con)) (t0 t1 : AV) (h : List AObj) (K : AOut → List AObj → Prop) : funW (ctx F S lamplighterref02_Numbers.loops) Try.f22 [t0, t1] h K = lamplighterref02_Numbers.H (ctx F S lamplighterref02_Numbers.loops) t0 t1 h K := by kernel_rfl
theorem lamplighterref02_Text.eq (F : List (FuncId × Contract)) (S : List (FuncId × Con)) (t0 t1 : AV) (h : List AObj) (K : AOut → List AObj → Prop) : funW (ctx F S lamplighterref02_Text.loops) Try.f98 [t0, t1] h K = lamplighterref02_Text.H (ctx F S lamplighterref02_Text.loops) t0 t1 h K := by kernel_rfl
theorem lamplighterref02_Check.eq (F : List (FuncId × Contract)) (S : List (FuncId × Con)) (t0 : AV) (h : List AObj) (K : AOut → List AObj → Prop) : funW (ctx F S lamplighterref02_Check.loops) Try.f101 [t0] h K = lamplighterref02_Check.H (ctx F S lamplighterref02_Check.loops) t0 h K := by kernel_rfl
theorem lamplighterref02_CheckVal.eq (F : List (FuncId × Contract)) (S : List (FuncId × Con)) (t0 : AV) (h : List AObj) (K : AOut → List AObj → Prop) : funW (ctx F S lamplighterref02_CheckVal.loops) Try.f102 [t0] h K = lamplighterref02_CheckVal.H (ctx F S lamplighterref02_CheckVal.loops) t0 h K := by kernel_rfl
theorem lamplighterref02_Words.eq (F : List (FuncId × Contract)) (S : List (FuncId × Con)) (t0 : AV) (h : List AObj) (K : AOut → List AObj → Prop) : funW (ctx F S lamplighterref02_Words.loops) Try.f121 [t0] h K = lamplighterref02_Words.H (ctx F S lamplighterref02_Words.loops) t0 h K := by kernel_rfl
theorem lamplighterref02_Numbers.at : Try.prog.funcs[22]? = some Try.f22 := by kernel_rfl
theorem lamplighterref02_Numbers.nm : (Try.f22.name == "runtime.NumGoroutine") = false := by kernel_rfl
theorem lamplighterref02_Numbers.bd : Try.f22.body.isNone = false := by kernel_rfl
theorem lamplighterref02_Text.at : Try.prog.funcs[98]? = some Try.f98 := by kernel_rfl
theorem lamplighterref02_Text.nm : (Try.f98.name == "runtime.NumGoroutine") = false := by kernel_rfl
theorem lamplighterref02_Text.bd : Try.f98.body.isNone = false := by kernel_rfl
theorem lamplighterref02_Check.at : Try.prog.funcs[101]? = some Try.f101 := by kernel_rfl
theorem lamplighterref02_Check.nm : (Try.f101.name == "runtime.NumGoroutine") = false := by kernel_rfl
theorem lamplighterref02_Check.bd : Try.f101.body.isNone = false := by kernel_rfl
theorem lamplighterref02_CheckVal.at : Try.prog.funcs[102]? = some Try.f102 := by kernel_rfl
theorem lamplighterref02_CheckVal.nm : (Try.f102.name == "runtime.NumGoroutine") = false := by kernel_rfl
theorem lamplighterref02_CheckVal.bd : Try.f102.body.isNone = false := by kernel_rfl
theorem lamplighterref02_Words.at : Try.prog.funcs[121]? = some Try.f121 := by kernel_rfl
theorem lamplighterref02_Words.nm : (Try.f121.name == "runtime.NumGoroutine") = false := by kernel_rfl
theorem lamplighterref02_Words.bd : Try.f121.body.isNone = false := by kernel_rfl
end Lam
namespace Lam
open Go Go.Proofs
set_option linter.unusedVariables false
set_option linter.unnecessarySimpa false
set_option linter.unusedSimpArgs false
def lamplighterref02_Numbers.C : Contract
  | [.sl _ (.ints .i64 a), .sl _ (.ints .i64 b)] => some (false, pD (roomy a.length) (.bool (decide (a = b))))
  | _ => none
set_option maxRecDepth 20000 in
theorem lamplighterref02_Numbers.spec : FSpec Try.prog 22 lamplighterref02_Numbers.C := by
  refine FSpec.of (ctx_ok (F := []) (S := []) (by simp) (by simp) lamplighterref02_Numbers.loops) lamplighterref02_Numbers.at lamplighterref02_Numbers.nm lamplighterref02_Numbers.bd ?_
  intro vs b S v news e hS
  unfold lamplighterref02_Numbers.C at e
  split at e
  rotate_left
  · cases e
  cases e
  rw [lamplighterref02_Numbers.eq]
  unfold lamplighterref02_Numbers.H
  simp (maxSteps := 4000000) only [go_sem, Nat.reduceEqDiff, Nat.reduceLT, Nat.reduceAdd, Nat.reduceSub, Nat.reduceLeDiff, List.reduceReplicate, Int.reduceToNat]
  rename_i a _ b
  unfold roomy at hS
  refine ⟨fun hne => ?_, fun heq => ?_⟩
  · have : decide (a = b) = false := by rw [decide_eq_false_iff_not]; rintro rfl; exact hne rfl
    rw [this]; exact post_val rfl rfl
  rw [joinW_eq]
  unfold lamplighterref02_Numbers.L1
  have hlen : a.length = b.length := by omega
  refine loop1 (fun k : Nat => .int .i64 k) (fun _ => []) (fun k => a.length - k) (fun k => k ≤ a.length ∧ ∀ i, i < k → a.getD i 0 = b.getD i 0) 0 rfl rfl ⟨Nat.zero_le _, fun i hi => absurd hi (Nat.not_lt_zero i)⟩ ?_
  rintro I back k ⟨hk, hall⟩
  simp only [go_sem, Nat.reduceEqDiff, Nat.reduceLT, Nat.reduceAdd, Nat.reduceSub, Nat.reduceLeDiff, List.reduceReplicate, Int.reduceToNat]
  refine ⟨fun hlt => ⟨by omega, by omega, fun h0 => ?_, fun h0 => ?_⟩, fun hge => ?_⟩
  · have : decide (a = b) = false := by rw [decide_eq_false_iff_not]; rintro rfl; exact h0 rfl
    rw [this]; exact post_val rfl rfl
  · refine back (k + 1) (by omega) (by rw [wnext (by omega)]) rfl ⟨by omega, fun i hi => ?_⟩
    by_cases e : i = k
    · subst e; exact h0
    · exact hall i (by omega)
  · rw [decide_eq_true (ext_d 0 hlen fun i hi => hall i (by omega))]; exact post_val rfl rfl
end Lam
