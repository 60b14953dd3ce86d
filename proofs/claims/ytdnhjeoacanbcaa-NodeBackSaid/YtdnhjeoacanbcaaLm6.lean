/- What functions of the program come to, each proved from its code. -/
import Derived.Test.YtdnhjeoacanbcaaLm5
namespace Lam
open Go Go.Proofs
set_option linter.unusedVariables false
def lamplighterref09_Words.loops : Nat → LInfo
  | 5 => ⟨[5], [true], [], [], []⟩
  | _ => ⟨[], [], [], [], []⟩
def lamplighterref09_Words.L1 (c : Ctx) (J1 : AV → List AObj → Prop) (K : AOut → List AObj → Prop) (lv : List AV) (h0 : List AObj) (n0 : Nat) : Prop :=
  ∃ I : Nat → List AV → List AObj → Prop, (∃ n, I n lv h0) ∧ ∀ n h, ∀ t5, I n [t5] h →
    runD (lenD T_sl_int h t5) h fun t21 h =>
    runD (binD T_int .lss t21 (.int .i64 16)) h fun t22 h =>
    condW t22
    (runD (buildSliceD T_sl_int 1 [(0, (.int .i64 0))] h.length) h fun t24 h =>
    runDM (appendD T_sl_int h t5 t24 h.length) (appendH T_sl_int h t5 t24) h fun t25 h =>
    (∃ m, m < n ∧ I m (AV.norms n0 h [t25]) (normH n0 h)) ∧ AV.norms n0 h [] = [])
    (J1 t5 h)
def lamplighterref09_Words.H (c : Ctx) (t0 : AV) (h : List AObj) (K : AOut → List AObj → Prop) : Prop :=
  boxW T_api_Node t0 h fun t1 h =>
  runD (fitD T_api_Node (loadD h t1)) h fun t6 h =>
  callW c (.fn (.func 33) [] []) [t6] h (fun t7 h =>
  runD (unD .not t7) h fun t9 h =>
  condW t9
  (K (.ret (.tup [(.sl true (.ints .i64 [])), (.int .i64 90)])) h)
  (runD (fitD T_api_Node (loadD h t1)) h fun t10 h =>
  callW c.noS (.fn (.func 77) [] []) [t10] h (fun t11 h =>
  runD (fieldAddrD T_api_Node t1 2) h fun t12 h =>
  runD (fitD T_int (loadD h t12)) h fun t13 h =>
  runD (fieldAddrD T_api_Node t1 3) h fun t14 h =>
  runD (fitD T_int (loadD h t14)) h fun t15 h =>
  runD (buildSliceD T_sl_int 3 [(0, t11), (1, t13), (2, t15)] h.length) h fun t16 h =>
  runD (fieldAddrD T_api_Node t1 4) h fun t17 h =>
  runD (fitD T_sl_int (loadD h t17)) h fun t18 h =>
  runDM (appendD T_sl_int h t16 t18 h.length) (appendH T_sl_int h t16 t18) h fun t19 h =>
  joinW (fun (J1 : AV → List AObj → Prop) =>
  promV [true] [t19] h fun lv h => lamplighterref09_Words.L1 c J1 K (AV.norms h.length h lv) (normH h.length h) h.length)
  (fun t5 h => K (.ret (.tup [t5, (.int .i64 0)])) h))
  (fun _ _ => False)))
  (fun v h => K (.pan v) h)
def lamplighterref09_Read.loops : Nat → LInfo
  | 1 => ⟨[], [], [], [(3, none), (2, some [14, 16]), (2, none), (6, some [18, 24])], []⟩
  | 5 => ⟨[], [], [], [(5, none), (2, some [42, 44])], []⟩
  | 9 => ⟨[9], [false], [4, 6, 8], [(3, none), (5, some [60, 65])], [8]⟩
  | 13 => ⟨[], [], [], [(3, none), (4, some [85, 89])], []⟩
  | _ => ⟨[], [], [], [], []⟩
def lamplighterref09_Read.L1 (c : Ctx) (J4 : AV → AV → AV → List AObj → Prop) (K : AOut → List AObj → Prop) (lv : List AV) (h0 : List AObj) (n0 : Nat) (c4 : AV) (c6 : AV) (c8 : AV) : Prop :=
  ∃ I : Nat → List AV → List AObj → Prop, (∃ n, I n lv h0) ∧ ∀ n h, ∀ t9, I n [t9] h →
    runD (binD T_int .lss t9 (.int .i64 16)) h fun t59 h =>
    joinW (fun (J5 : AV → AV → List AObj → Prop) =>
    guardW t59 true
    (runD (indexAddrD T_sl_int h c6 t9) h fun t63 h =>
      runD (fitD T_int (loadD h t63)) h fun t64 h =>
      runD (binD T_int .neq t64 (.int .i64 0)) h fun t65 h =>
      J5 (.bool true) t65 h)
    (J5 (.bool false) .und h))
    (fun t60 t65 h => runD (pickD t60 t65 (.bool false)) h fun t66 h =>
    condW t66
    (runD (fieldAddrD T_api_Node c8 4) h fun t69 h =>
    runD (fitD T_sl_int (loadD h t69)) h fun t70 h =>
    runD (indexAddrD T_sl_int h c6 t9) h fun t73 h =>
    runD (fitD T_int (loadD h t73)) h fun t74 h =>
    runD (buildSliceD T_sl_int 1 [(0, t74)] h.length) h fun t75 h =>
    runDM (appendD T_sl_int h t70 t75 h.length) (appendH T_sl_int h t70 t75) h fun t76 h =>
    runD (fieldAddrD T_api_Node c8 4) h fun t77 h =>
    runH (storeH T_sl_int h t77 t76) h fun _ h =>
    runD (binD T_int .add t9 (.int .i64 1)) h fun t68 h =>
    (∃ m, m < n ∧ I m (AV.norms n0 h [t68]) (normH n0 h)) ∧ AV.norms n0 h [c4, c6, c8] = [c4, c6, c8])
    (J4 c4 c6 c8 h))
def lamplighterref09_Read.H (c : Ctx) (t0 : AV) (t1 : AV) (h : List AObj) (K : AOut → List AObj → Prop) : Prop :=
  allocW T_api_Node h fun t4 h =>
  runD (binD T_int .lss t1 (.int .i64 0)) h fun t13 h =>
  joinW (fun (J1 : AV → AV → List AObj → Prop) =>
  guardW t13 false
  (runD (binD T_int .geq t1 (.int .i64 4096)) h fun t16 h =>
    J1 (.bool false) t16 h)
  (J1 (.bool true) .und h))
  (fun t14 t16 h => runD (pickD t14 (.bool true) t16) h fun t17 h =>
  joinW (fun (J2 : AV → AV → List AObj → Prop) =>
  guardW t17 false
  (runD (binD T_int .mul (.int .i64 16) t1) h fun t20 h =>
    runD (binD T_int .add t20 (.int .i64 16)) h fun t21 h =>
    runD (lenD T_sl_int h t0) h fun t23 h =>
    runD (binD T_int .gtr t21 t23) h fun t24 h =>
    J2 (.bool false) t24 h)
  (J2 (.bool true) .und h))
  (fun t18 t24 h => runD (pickD t18 (.bool true) t24) h fun t25 h =>
  condW t25
  (runD (buildD T_api_Node []) h fun t26 h =>
    runH (storeH T_api_Node h t4 t26) h fun _ h =>
    loadRes (fitD T_api_Node (loadD h t4)) fun r0 => K (.ret (.tup [r0, (.int .i64 1)])) h)
  (runD (binD T_int .mul (.int .i64 16) t1) h fun t29 h =>
  runD (binD T_int .mul (.int .i64 16) t1) h fun t31 h =>
  runD (binD T_int .add t31 (.int .i64 16)) h fun t32 h =>
  runD (sliceD T_sl_int h t0 (some t29) (some t32) none) h fun t33 h =>
  runD (indexAddrD T_sl_int h t33 (.int .i64 0)) h fun t35 h =>
  runD (fitD T_int (loadD h t35)) h fun t36 h =>
  runD (binD T_int .sub t36 (.int .i64 1152921504606846976)) h fun t37 h =>
  runD (indexAddrD T_sl_int h t33 (.int .i64 0)) h fun t39 h =>
  runD (fitD T_int (loadD h t39)) h fun t40 h =>
  runD (binD T_int .lss t40 (.int .i64 0)) h fun t41 h =>
  joinW (fun (J3 : AV → AV → List AObj → Prop) =>
  guardW t41 false
  (runD (binD T_int .lss t37 (.int .i64 0)) h fun t44 h =>
    J3 (.bool false) t44 h)
  (J3 (.bool true) .und h))
  (fun t42 t44 h => runD (pickD t42 (.bool true) t44) h fun t45 h =>
  condW t45
  (runD (buildD T_api_Node []) h fun t46 h =>
    runH (storeH T_api_Node h t4 t46) h fun _ h =>
    loadRes (fitD T_api_Node (loadD h t4)) fun r0 => K (.ret (.tup [r0, (.int .i64 90)])) h)
  (runD (binD T_int .rem t37 (.int .i64 16)) h fun t48 h =>
  runD (binD T_int .quo t37 (.int .i64 16)) h fun t50 h =>
  runD (indexAddrD T_sl_int h t33 (.int .i64 1)) h fun t52 h =>
  runD (fitD T_int (loadD h t52)) h fun t53 h =>
  runD (indexAddrD T_sl_int h t33 (.int .i64 2)) h fun t55 h =>
  runD (fitD T_int (loadD h t55)) h fun t56 h =>
  runD (buildD T_api_Node [(0, t48), (1, t50), (2, t53), (3, t56)]) h fun t57 h =>
  allocW T_api_Node h fun t8 h =>
  runH (storeH T_api_Node h t8 t57) h fun _ h =>
  joinW (fun (J4 : AV → AV → AV → List AObj → Prop) =>
  promV [false] [(.int .i64 3)] (boxH [t8] h) fun lv h => lamplighterref09_Read.L1 c J4 K (AV.norms h.length h lv) (normH h.length h) h.length (AV.norm h.length h t4) (AV.norm h.length h t33) (AV.norm h.length h t8))
  (fun t4 t6 t8 h => runD (fitD T_api_Node (loadD h t8)) h fun t79 h =>
  callW c (.fn (.func 26) [] []) [t79] h (fun t80 h =>
  runD (extractD t80 0) h fun t81 h =>
  runD (extractD t80 1) h fun t82 h =>
  runD (binD T_api_Errno .neq t82 (.int .i64 0)) h fun t84 h =>
  joinW (fun (J6 : AV → AV → List AObj → Prop) =>
  guardW t84 false
  (callW c (.fn (.func 22) [] []) [t81, t6] h (fun t88 h =>
    runD (unD .not t88) h fun t89 h =>
    J6 (.bool false) t89 h)
    (fun v h => K (.pan v) h))
  (J6 (.bool true) .und h))
  (fun t85 t89 h => runD (pickD t85 (.bool true) t89) h fun t90 h =>
  condW t90
  (runD (buildD T_api_Node []) h fun t91 h =>
    runH (storeH T_api_Node h t4 t91) h fun _ h =>
    loadRes (fitD T_api_Node (loadD h t4)) fun r0 => K (.ret (.tup [r0, (.int .i64 90)])) h)
  (runD (fitD T_api_Node (loadD h t8)) h fun t92 h =>
  runH (storeH T_api_Node h t4 t92) h fun _ h =>
  loadRes (fitD T_api_Node (loadD h t4)) fun r0 => K (.ret (.tup [r0, (.int .i64 0)])) h)))
  (fun v h => K (.pan v) h)))))))
def lamplighterref09_Next.loops : Nat → LInfo
  | 1 => ⟨[], [], [], [(4, none), (3, some [9, 12])], []⟩
  | _ => ⟨[], [], [], [], []⟩
def lamplighterref09_Next.H (c : Ctx) (t0 : AV) (t1 : AV) (h : List AObj) (K : AOut → List AObj → Prop) : Prop :=
  callW c (.fn (.func 80) [] []) [t0] h (fun t7 h =>
  runD (unD .not t7) h fun t8 h =>
  joinW (fun (J1 : AV → AV → List AObj → Prop) =>
  guardW t8 false
  (callW c (.fn (.func 80) [] []) [t1] h (fun t11 h =>
    runD (unD .not t11) h fun t12 h =>
    J1 (.bool false) t12 h)
    (fun v h => K (.pan v) h))
  (J1 (.bool true) .und h))
  (fun t9 t12 h => runD (pickD t9 (.bool true) t12) h fun t13 h =>
  condW t13
  (K (.ret (.tup [(.sl true (.mics [])), (.int .i64 1)])) h)
  (runD (binD T_int .mul (.int .i64 16) t0) h fun t15 h =>
  runD (binD T_int .add t15 (.int .i64 1)) h fun t16 h =>
  runD (buildD T_api_Micro [(0, (.int .i64 1)), (1, t16), (2, t1)]) h fun t18 h =>
  runD (binD T_int .mul (.int .i64 2) t0) h fun t20 h =>
  runD (buildD T_api_Micro [(0, (.int .i64 2)), (1, t20)]) h fun t21 h =>
  runD (buildSliceD T_sl_api_Micro 2 [(0, t18), (1, t21)] h.length) h fun t22 h =>
  K (.ret (.tup [t22, (.int .i64 0)])) h)))
  (fun v h => K (.pan v) h)
def lamplighterref09_Same.loops : Nat → LInfo
  | 1 => ⟨[], [], [], [(6, none), (5, some [10, 15]), (2, none), (5, some [17, 22]), (2, none), (5, some [24, 29]), (2, none), (5, some [31, 36])], []⟩
  | _ => ⟨[], [], [], [], []⟩
def lamplighterref09_Same.H (c : Ctx) (t0 : AV) (t1 : AV) (h : List AObj) (K : AOut → List AObj → Prop) : Prop :=
  boxW T_api_Node t0 h fun t2 h =>
  boxW T_api_Node t1 h fun t3 h =>
  runD (fieldAddrD T_api_Node t2 0) h fun t5 h =>
  runD (fitD T_int (loadD h t5)) h fun t6 h =>
  runD (fieldAddrD T_api_Node t3 0) h fun t7 h =>
  runD (fitD T_int (loadD h t7)) h fun t8 h =>
  runD (binD T_int .eql t6 t8) h fun t9 h =>
  joinW (fun (J1 : AV → AV → List AObj → Prop) =>
  guardW t9 true
  (runD (fieldAddrD T_api_Node t2 1) h fun t11 h =>
    runD (fitD T_int (loadD h t11)) h fun t12 h =>
    runD (fieldAddrD T_api_Node t3 1) h fun t13 h =>
    runD (fitD T_int (loadD h t13)) h fun t14 h =>
    runD (binD T_int .eql t12 t14) h fun t15 h =>
    J1 (.bool true) t15 h)
  (J1 (.bool false) .und h))
  (fun t10 t15 h => runD (pickD t10 t15 (.bool false)) h fun t16 h =>
  joinW (fun (J2 : AV → AV → List AObj → Prop) =>
  guardW t16 true
  (runD (fieldAddrD T_api_Node t2 2) h fun t18 h =>
    runD (fitD T_int (loadD h t18)) h fun t19 h =>
    runD (fieldAddrD T_api_Node t3 2) h fun t20 h =>
    runD (fitD T_int (loadD h t20)) h fun t21 h =>
    runD (binD T_int .eql t19 t21) h fun t22 h =>
    J2 (.bool true) t22 h)
  (J2 (.bool false) .und h))
  (fun t17 t22 h => runD (pickD t17 t22 (.bool false)) h fun t23 h =>
  joinW (fun (J3 : AV → AV → List AObj → Prop) =>
  guardW t23 true
  (runD (fieldAddrD T_api_Node t2 3) h fun t25 h =>
    runD (fitD T_int (loadD h t25)) h fun t26 h =>
    runD (fieldAddrD T_api_Node t3 3) h fun t27 h =>
    runD (fitD T_int (loadD h t27)) h fun t28 h =>
    runD (binD T_int .eql t26 t28) h fun t29 h =>
    J3 (.bool true) t29 h)
  (J3 (.bool false) .und h))
  (fun t24 t29 h => runD (pickD t24 t29 (.bool false)) h fun t30 h =>
  joinW (fun (J4 : AV → AV → List AObj → Prop) =>
  guardW t30 true
  (runD (fieldAddrD T_api_Node t2 4) h fun t32 h =>
    runD (fitD T_sl_int (loadD h t32)) h fun t33 h =>
    runD (fieldAddrD T_api_Node t3 4) h fun t34 h =>
    runD (fitD T_sl_int (loadD h t34)) h fun t35 h =>
    callW c (.fn (.func 22) [] []) [t33, t35] h (fun t36 h =>
    J4 (.bool true) t36 h)
    (fun v h => K (.pan v) h))
  (J4 (.bool false) .und h))
  (fun t31 t36 h => runD (pickD t31 t36 (.bool false)) h fun t37 h =>
  K (.ret t37) h))))
def lamplighterref09_Check.loops : Nat → LInfo
  | 1 => ⟨[], [], [], [(4, none), (3, some [7, 10]), (2, none), (3, some [12, 15]), (2, none), (3, some [17, 20]), (2, none), (4, some [22, 26]), (2, none), (4, some [28, 32]), (2, none), (4, some [34, 38])], []⟩
  | 4 => ⟨[3], [false], [1], [], []⟩
  | 6 => ⟨[], [], [], [(8, none), (6, some [54, 60])], []⟩
  | _ => ⟨[], [], [], [], []⟩
def lamplighterref09_Check.L1 (c : Ctx) (J7 : List AObj → Prop) (K : AOut → List AObj → Prop) (lv : List AV) (h0 : List AObj) (n0 : Nat) (c1 : AV) : Prop :=
  ∃ I : Nat → List AV → List AObj → Prop, (∃ n, I n lv h0) ∧ ∀ n h, ∀ t3, I n [t3] h →
    runD (fieldAddrD T_api_Node c1 4) h fun t41 h =>
    runD (fitD T_sl_int (loadD h t41)) h fun t42 h =>
    runD (lenD T_sl_int h t42) h fun t43 h =>
    runD (binD T_int .lss t3 t43) h fun t44 h =>
    condW t44
    (runD (fieldAddrD T_api_Node c1 4) h fun t47 h =>
    runD (fitD T_sl_int (loadD h t47)) h fun t48 h =>
    runD (indexAddrD T_sl_int h t48 t3) h fun t50 h =>
    runD (fitD T_int (loadD h t50)) h fun t51 h =>
    callW c (.fn (.func 80) [] []) [t51] h (fun t52 h =>
    runD (unD .not t52) h fun t53 h =>
    joinW (fun (J8 : AV → AV → List AObj → Prop) =>
    guardW t53 false
    (runD (fieldAddrD T_api_Node c1 4) h fun t55 h =>
      runD (fitD T_sl_int (loadD h t55)) h fun t56 h =>
      runD (indexAddrD T_sl_int h t56 t3) h fun t58 h =>
      runD (fitD T_int (loadD h t58)) h fun t59 h =>
      runD (binD T_int .eql t59 (.int .i64 0)) h fun t60 h =>
      J8 (.bool false) t60 h)
    (J8 (.bool true) .und h))
    (fun t54 t60 h => runD (pickD t54 (.bool true) t60) h fun t61 h =>
    condW t61
    (K (.ret (.bool false)) h)
    (runD (binD T_int .add t3 (.int .i64 1)) h fun t46 h =>
    (∃ m, m < n ∧ I m (AV.norms n0 h [t46]) (normH n0 h)) ∧ AV.norms n0 h [c1] = [c1])))
    (fun v h => K (.pan v) h))
    (J7 h)
def lamplighterref09_Check.H (c : Ctx) (t0 : AV) (h : List AObj) (K : AOut → List AObj → Prop) : Prop :=
  boxW T_api_Node t0 h fun t1 h =>
  runD (fieldAddrD T_api_Node t1 0) h fun t4 h =>
  runD (fitD T_int (loadD h t4)) h fun t5 h =>
  runD (binD T_int .lss t5 (.int .i64 0)) h fun t6 h =>
  joinW (fun (J1 : AV → AV → List AObj → Prop) =>
  guardW t6 false
  (runD (fieldAddrD T_api_Node t1 0) h fun t8 h =>
    runD (fitD T_int (loadD h t8)) h fun t9 h =>
    runD (binD T_int .gtr t9 (.int .i64 9)) h fun t10 h =>
    J1 (.bool false) t10 h)
  (J1 (.bool true) .und h))
  (fun t7 t10 h => runD (pickD t7 (.bool true) t10) h fun t11 h =>
  joinW (fun (J2 : AV → AV → List AObj → Prop) =>
  guardW t11 false
  (runD (fieldAddrD T_api_Node t1 1) h fun t13 h =>
    runD (fitD T_int (loadD h t13)) h fun t14 h =>
    runD (binD T_int .lss t14 (.int .i64 0)) h fun t15 h =>
    J2 (.bool false) t15 h)
  (J2 (.bool true) .und h))
  (fun t12 t15 h => runD (pickD t12 (.bool true) t15) h fun t16 h =>
  joinW (fun (J3 : AV → AV → List AObj → Prop) =>
  guardW t16 false
  (runD (fieldAddrD T_api_Node t1 1) h fun t18 h =>
    runD (fitD T_int (loadD h t18)) h fun t19 h =>
    runD (binD T_int .gtr t19 (.int .i64 1099511627776)) h fun t20 h =>
    J3 (.bool false) t20 h)
  (J3 (.bool true) .und h))
  (fun t17 t20 h => runD (pickD t17 (.bool true) t20) h fun t21 h =>
  joinW (fun (J4 : AV → AV → List AObj → Prop) =>
  guardW t21 false
  (runD (fieldAddrD T_api_Node t1 2) h fun t23 h =>
    runD (fitD T_int (loadD h t23)) h fun t24 h =>
    callW c (.fn (.func 80) [] []) [t24] h (fun t25 h =>
    runD (unD .not t25) h fun t26 h =>
    J4 (.bool false) t26 h)
    (fun v h => K (.pan v) h))
  (J4 (.bool true) .und h))
  (fun t22 t26 h => runD (pickD t22 (.bool true) t26) h fun t27 h =>
  joinW (fun (J5 : AV → AV → List AObj → Prop) =>
  guardW t27 false
  (runD (fieldAddrD T_api_Node t1 3) h fun t29 h =>
    runD (fitD T_int (loadD h t29)) h fun t30 h =>
    callW c (.fn (.func 80) [] []) [t30] h (fun t31 h =>
    runD (unD .not t31) h fun t32 h =>
    J5 (.bool false) t32 h)
    (fun v h => K (.pan v) h))
  (J5 (.bool true) .und h))
  (fun t28 t32 h => runD (pickD t28 (.bool true) t32) h fun t33 h =>
  joinW (fun (J6 : AV → AV → List AObj → Prop) =>
  guardW t33 false
  (runD (fieldAddrD T_api_Node t1 4) h fun t35 h =>
    runD (fitD T_sl_int (loadD h t35)) h fun t36 h =>
    runD (lenD T_sl_int h t36) h fun t37 h =>
    runD (binD T_int .gtr t37 (.int .i64 13)) h fun t38 h =>
    J6 (.bool false) t38 h)
  (J6 (.bool true) .und h))
  (fun t34 t38 h => runD (pickD t34 (.bool true) t38) h fun t39 h =>
  condW t39
  (K (.ret (.bool false)) h)
  (joinW (fun (J7 : List AObj → Prop) =>
  promV [false] [(.int .i64 0)] h fun lv h => lamplighterref09_Check.L1 c J7 K (AV.norms h.length h lv) (normH h.length h) h.length (AV.norm h.length h t1))
  (fun h => K (.ret (.bool true)) h))))))))
def lamplighterref09_Turn.loops : Nat → LInfo
  | 2 => ⟨[], [], [], [(4, none), (2, some [13, 15]), (2, none), (6, some [17, 23])], []⟩
  | _ => ⟨[], [], [], [], []⟩
def lamplighterref09_Turn.H (c : Ctx) (t0 : AV) (t1 : AV) (t2 : AV) (h : List AObj) (K : AOut → List AObj → Prop) : Prop :=
  boxW T_api_Node t1 h fun t4 h =>
  runD (fitD T_api_Node (loadD h t4)) h fun t8 h =>
  callW c (.fn (.func 33) [] []) [t8] h (fun t9 h =>
  callW c (.fn (.func 80) [] []) [t0] h (fun t11 h =>
  runD (unD .not t11) h fun t12 h =>
  joinW (fun (J1 : AV → AV → List AObj → Prop) =>
  guardW t12 false
  (runD (unD .not t9) h fun t15 h =>
    J1 (.bool false) t15 h)
  (J1 (.bool true) .und h))
  (fun t13 t15 h => runD (pickD t13 (.bool true) t15) h fun t16 h =>
  joinW (fun (J2 : AV → AV → List AObj → Prop) =>
  guardW t16 false
  (runD (fieldAddrD T_api_Node t4 1) h fun t18 h =>
    runD (fitD T_int (loadD h t18)) h fun t19 h =>
    runD (binD T_int .rem t19 (.int .i64 2)) h fun t20 h =>
    runD (binD T_int .eql t20 (.int .i64 1)) h fun t21 h =>
    runD (binD T_bool .eql t21 t2) h fun t23 h =>
    J2 (.bool false) t23 h)
  (J2 (.bool true) .und h))
  (fun t17 t23 h => runD (pickD t17 (.bool true) t23) h fun t24 h =>
  condW t24
  (K (.ret (.sl true (.mics []))) h)
  (runD (fieldAddrD T_api_Node t4 1) h fun t25 h =>
  runD (fitD T_int (loadD h t25)) h fun t26 h =>
  runD (binD T_int .add t26 (.int .i64 1)) h fun t27 h =>
  runD (fieldAddrD T_api_Node t4 1) h fun t28 h =>
  runH (storeH T_int h t28 t27) h fun _ h =>
  runD (fieldAddrD T_api_Node t4 1) h fun t29 h =>
  runD (fitD T_int (loadD h t29)) h fun t30 h =>
  runD (binD T_int .eql t30 (.int .i64 1099511627777)) h fun t31 h =>
  joinW (fun (J3 : List AObj → Prop) =>
  condW t31
  (runD (fieldAddrD T_api_Node t4 1) h fun t32 h =>
    runH (storeH T_int h t32 (.int .i64 1)) h fun _ h =>
    J3 h)
  (J3 h))
  (fun h => runD (binD T_int .mul (.int .i64 16) t0) h fun t34 h =>
  runD (fitD T_api_Node (loadD h t4)) h fun t35 h =>
  callW c (.fn (.func 77) [] []) [t35] h (fun t36 h =>
  runD (buildD T_api_Micro [(0, (.int .i64 1)), (1, t34), (2, t36)]) h fun t37 h =>
  runD (buildSliceD T_sl_api_Micro 1 [(0, t37)] h.length) h fun t38 h =>
  K (.ret t38) h)
  (fun v h => K (.pan v) h))))))
  (fun v h => K (.pan v) h))
  (fun v h => K (.pan v) h)
def lamplighterref09_first.loops : Nat → LInfo
  | _ => ⟨[], [], [], [], []⟩
def lamplighterref09_first.H (c : Ctx) (t0 : AV) (h : List AObj) (K : AOut → List AObj → Prop) : Prop :=
  boxW T_api_Node t0 h fun t1 h =>
  runD (fieldAddrD T_api_Node t1 1) h fun t3 h =>
  runD (fitD T_int (loadD h t3)) h fun t4 h =>
  runD (binD T_int .mul (.int .i64 16) t4) h fun t5 h =>
  runD (binD T_int .add (.int .i64 1152921504606846976) t5) h fun t6 h =>
  runD (fieldAddrD T_api_Node t1 0) h fun t7 h =>
  runD (fitD T_int (loadD h t7)) h fun t8 h =>
  runD (binD T_int .add t6 t8) h fun t9 h =>
  K (.ret t9) h
def lamplighterref09_block.loops : Nat → LInfo
  | 1 => ⟨[], [], [], [(3, none), (2, some [5, 7])], []⟩
  | _ => ⟨[], [], [], [], []⟩
def lamplighterref09_block.H (c : Ctx) (t0 : AV) (h : List AObj) (K : AOut → List AObj → Prop) : Prop :=
  runD (binD T_int .geq t0 (.int .i64 0)) h fun t4 h =>
  joinW (fun (J1 : AV → AV → List AObj → Prop) =>
  guardW t4 true
  (runD (binD T_int .leq t0 (.int .i64 255)) h fun t7 h =>
    J1 (.bool true) t7 h)
  (J1 (.bool false) .und h))
  (fun t5 t7 h => runD (pickD t5 t7 (.bool false)) h fun t8 h =>
  K (.ret t8) h)
theorem lamplighterref09_Words.eq (F : List (FuncId × Contract)) (S : List (FuncId × Con)) (t0 : AV) (h : List AObj) (K : AOut → List AObj → Prop) : funW (ctx F S lamplighterref09_Words.loops) Try.f26 [t0] h K = lamplighterref09_Words.H (ctx F S lamplighterref09_Words.loops) t0 h K := by kernel_rfl
theorem lamplighterref09_Read.eq (F : List (FuncId × Contract)) (S : List (FuncId × Con)) (t0 t1 : AV) (h : List AObj) (K : AOut → List AObj → Prop) : funW (ctx F S lamplighterref09_Read.loops) Try.f28 [t0, t1] h K = lamplighterref09_Read.H (ctx F S lamplighterref09_Read.loops) t0 t1 h K := by kernel_rfl
theorem lamplighterref09_Next.eq (F : List (FuncId × Contract)) (S : List (FuncId × Con)) (t0 t1 : AV) (h : List AObj) (K : AOut → List AObj → Prop) : funW (ctx F S lamplighterref09_Next.loops) Try.f30 [t0, t1] h K = lamplighterref09_Next.H (ctx F S lamplighterref09_Next.loops) t0 t1 h K := by kernel_rfl
theorem lamplighterref09_Same.eq (F : List (FuncId × Contract)) (S : List (FuncId × Con)) (t0 t1 : AV) (h : List AObj) (K : AOut → List AObj → Prop) : funW (ctx F S lamplighterref09_Same.loops) Try.f31 [t0, t1] h K = lamplighterref09_Same.H (ctx F S lamplighterref09_Same.loops) t0 t1 h K := by kernel_rfl
theorem lamplighterref09_Check.eq (F : List (FuncId × Contract)) (S : List (FuncId × Con)) (t0 : AV) (h : List AObj) (K : AOut → List AObj → Prop) : funW (ctx F S lamplighterref09_Check.loops) Try.f33 [t0] h K = lamplighterref09_Check.H (ctx F S lamplighterref09_Check.loops) t0 h K := by kernel_rfl
theorem lamplighterref09_Turn.eq (F : List (FuncId × Contract)) (S : List (FuncId × Con)) (t0 t1 t2 : AV) (h : List AObj) (K : AOut → List AObj → Prop) : funW (ctx F S lamplighterref09_Turn.loops) Try.f35 [t0, t1, t2] h K = lamplighterref09_Turn.H (ctx F S lamplighterref09_Turn.loops) t0 t1 t2 h K := by kernel_rfl
theorem lamplighterref09_first.eq (F : List (FuncId × Contract)) (S : List (FuncId × Con)) (t0 : AV) (h : List AObj) (K : AOut → List AObj → Prop) : funW (ctx F S lamplighterref09_first.loops) Try.f77 [t0] h K = lamplighterref09_first.H (ctx F S lamplighterref09_first.loops) t0 h K := by kernel_rfl
theorem lamplighterref09_block.eq (F : List (FuncId × Contract)) (S : List (FuncId × Con)) (t0 : AV) (h : List AObj) (K : AOut → List AObj → Prop) : funW (ctx F S lamplighterref09_block.loops) Try.f80 [t0] h K = lamplighterref09_block.H (ctx F S lamplighterref09_block.loops) t0 h K := by kernel_rfl
theorem lamplighterref09_Words.at : Try.prog.funcs[26]? = some Try.f26 := by kernel_rfl
theorem lamplighterref09_Words.nm : (Try.f26.name == "runtime.NumGoroutine") = false := by kernel_rfl
theorem lamplighterref09_Words.bd : Try.f26.body.isNone = false := by kernel_rfl
theorem lamplighterref09_Read.at : Try.prog.funcs[28]? = some Try.f28 := by kernel_rfl
theorem lamplighterref09_Read.nm : (Try.f28.name == "runtime.NumGoroutine") = false := by kernel_rfl
theorem lamplighterref09_Read.bd : Try.f28.body.isNone = false := by kernel_rfl
theorem lamplighterref09_Next.at : Try.prog.funcs[30]? = some Try.f30 := by kernel_rfl
theorem lamplighterref09_Next.nm : (Try.f30.name == "runtime.NumGoroutine") = false := by kernel_rfl
theorem lamplighterref09_Next.bd : Try.f30.body.isNone = false := by kernel_rfl
theorem lamplighterref09_Same.at : Try.prog.funcs[31]? = some Try.f31 := by kernel_rfl
theorem lamplighterref09_Same.nm : (Try.f31.name == "runtime.NumGoroutine") = false := by kernel_rfl
theorem lamplighterref09_Same.bd : Try.f31.body.isNone = false := by kernel_rfl
theorem lamplighterref09_Check.at : Try.prog.funcs[33]? = some Try.f33 := by kernel_rfl
theorem lamplighterref09_Check.nm : (Try.f33.name == "runtime.NumGoroutine") = false := by kernel_rfl
theorem lamplighterref09_Check.bd : Try.f33.body.isNone = false := by kernel_rfl
theorem lamplighterref09_Turn.at : Try.prog.funcs[35]? = some Try.f35 := by kernel_rfl
theorem lamplighterref09_Turn.nm : (Try.f35.name == "runtime.NumGoroutine") = false := by kernel_rfl
theorem lamplighterref09_Turn.bd : Try.f35.body.isNone = false := by kernel_rfl
theorem lamplighterref09_first.at : Try.prog.funcs[77]? = some Try.f77 := by kernel_rfl
theorem lamplighterref09_first.nm : (Try.f77.name == "runtime.NumGoroutine") = false := by kernel_rfl
theorem lamplighterref09_first.bd : Try.f77.body.isNone = false := by kernel_rfl
theorem lamplighterref09_block.at : Try.prog.funcs[80]? = some Try.f80 := by kernel_rfl
theorem lamplighterref09_block.nm : (Try.f80.name == "runtime.NumGoroutine") = false := by kernel_rfl
theorem lamplighterref09_block.bd : Try.f80.body.isNone = false := by kernel_rfl
end Lam
namespace Lam
open Go Go.Proofs
set_option linter.unusedVariables false
set_option linter.unnecessarySimpa false
set_option linter.unusedSimpArgs false
def lamplighterref09_Same.C : Contract
  | [.agg [.int .i64 a, .int .i64 b, .int .i64 c, .int .i64 d, .sl false (.ints .i64 l)], .agg [.int .i64 a', .int .i64 b', .int .i64 c', .int .i64 d', .sl false (.ints .i64 l')]] => some (false, pD (roomy l.length) (.bool (decide ((⟨a, b, c, d, l⟩ : Nd) = ⟨a', b', c', d', l'⟩))))
  | _ => none
set_option maxRecDepth 20000 in
theorem lamplighterref09_Same.spec : FSpec Try.prog 31 lamplighterref09_Same.C := by
  refine FSpec.of (ctx_ok (F := [(22, lamplighterref02_Numbers.C)]) (S := []) (by simpa using lamplighterref02_Numbers.spec) (by simp) lamplighterref09_Same.loops) lamplighterref09_Same.at lamplighterref09_Same.nm lamplighterref09_Same.bd ?_
  intro vs b S v news e hS
  unfold lamplighterref09_Same.C at e
  split at e
  rotate_left
  · cases e
  cases e
  rw [lamplighterref09_Same.eq]
  unfold lamplighterref09_Same.H
  simp (maxSteps := 4000000) only [go_sem, Nat.reduceEqDiff, Nat.reduceLT, Nat.reduceAdd, Nat.reduceSub, Nat.reduceLeDiff, List.reduceReplicate, Int.reduceToNat, lamplighterref02_Numbers.C]
  rename_i a b c d l a' b' c' d' l'
  refine ⟨fun _ => hS, ?_⟩
  have : decide ((⟨a, b, c, d, l⟩ : Nd) = ⟨a', b', c', d', l'⟩) = (decide (a = a') && decide (b = b') && decide (c = c') && decide (d = d') && decide (l = l')) := by
    rw [Bool.eq_iff_iff]
    simp only [decide_eq_true_eq, Bool.and_eq_true, Nd.mk.injEq, and_assoc]
  rw [this]; exact post_val rfl rfl
end Lam
namespace Lam
open Go Go.Proofs
set_option linter.unusedVariables false
def lamplighterlaw09_awake.loops : Nat → LInfo
  | 8 => ⟨[], [], [], [(4, none), (3, some [44, 47]), (2, none), (3, some [49, 52])], []⟩
  | 10 => ⟨[], [], [], [(3, none), (4, some [56, 60]), (2, none), (4, some [62, 66]), (2, none), (4, some [68, 72]), (2, none), (3, some [74, 77]), (2, none), (2, some [79, 81]), (2, none), (2, some [83, 85]), (2, none), (2, some [87, 89]), (2, none), (2, some [91, 93]), (2, none), (5, some [95, 100]), (2, none), (5, some [102, 107]), (2, none), (4, some [109, 113]), (2, none), (2, some [115, 117])], []⟩
  | _ => ⟨[], [], [], [], []⟩
def lamplighterlaw09_awake.H (c : Ctx) (h : List AObj) (K : AOut → List AObj → Prop) : Prop :=
  runD (buildSliceD T_sl_int 2 [(0, (.int .i64 7)), (1, (.int .i64 9))] h.length) h fun t13 h =>
  runD (buildD T_api_Node [(1, (.int .i64 1)), (2, (.int .i64 5)), (4, t13)]) h fun t14 h =>
  allocW T_api_Node h fun t1 h =>
  runH (storeH T_api_Node h t1 t14) h fun _ h =>
  runD (fitD T_api_Node (loadD h t1)) h fun t16 h =>
  callW c (.fn (.func 25) [] []) [t16] h (fun t17 h =>
  runD (extractD t17 0) h fun t18 h =>
  runD (extractD t17 1) h fun t19 h =>
  callW c (.fn (.func 27) [] []) [t18, (.int .i64 0)] h (fun t22 h =>
  runD (extractD t22 0) h fun t23 h =>
  runD (extractD t22 1) h fun t24 h =>
  allocW T_api_Node h fun t4 h =>
  runH (storeH T_api_Node h t4 t23) h fun _ h =>
  callW c (.fn (.func 27) [] []) [t18, (.int .i64 1)] h (fun t27 h =>
  runD (extractD t27 0) h fun t28 h =>
  runD (extractD t27 1) h fun t29 h =>
  allocW T_api_Node h fun t6 h =>
  runH (storeH T_api_Node h t6 t28) h fun _ h =>
  runD (makeSliceD T_sl_int (.int .i64 16) (.int .i64 16) h.length) h fun t31 h =>
  callW c (.fn (.func 27) [] []) [t31, (.int .i64 0)] h (fun t32 h =>
  runD (extractD t32 0) h fun t33 h =>
  runD (extractD t32 1) h fun t34 h =>
  allocW T_api_Node h fun t8 h =>
  runH (storeH T_api_Node h t8 t33) h fun _ h =>
  callW c (.fn (.func 29) [] []) [(.int .i64 2), (.int .i64 3)] h (fun t36 h =>
  runD (extractD t36 0) h fun t37 h =>
  runD (extractD t36 1) h fun t38 h =>
  runD (fitD T_api_Node (loadD h t1)) h fun t39 h =>
  callW c (.fn (.func 34) [] []) [(.int .i64 2), t39, (.bool false)] h (fun t40 h =>
  runD (lenD T_sl_int h t18) h fun t42 h =>
  runD (binD T_int .neq t42 (.int .i64 16)) h fun t43 h =>
  joinW (fun (J1 : AV → AV → List AObj → Prop) =>
  guardW t43 false
  (runD (lenD T_sl_api_Micro h t37) h fun t46 h =>
    runD (binD T_int .neq t46 (.int .i64 2)) h fun t47 h =>
    J1 (.bool false) t47 h)
  (J1 (.bool true) .und h))
  (fun t44 t47 h => runD (pickD t44 (.bool true) t47) h fun t48 h =>
  joinW (fun (J2 : AV → AV → List AObj → Prop) =>
  guardW t48 false
  (runD (lenD T_sl_api_Micro h t40) h fun t51 h =>
    runD (binD T_int .neq t51 (.int .i64 1)) h fun t52 h =>
    J2 (.bool false) t52 h)
  (J2 (.bool true) .und h))
  (fun t49 t52 h => runD (pickD t49 (.bool true) t52) h fun t53 h =>
  condW t53
  (K (.ret (.bool false)) h)
  (runD (binD T_api_Errno .eql t19 (.int .i64 0)) h fun t55 h =>
  joinW (fun (J3 : AV → AV → List AObj → Prop) =>
  guardW t55 true
  (runD (indexAddrD T_sl_int h t18 (.int .i64 0)) h fun t58 h =>
    runD (fitD T_int (loadD h t58)) h fun t59 h =>
    runD (binD T_int .eql t59 (.int .i64 1152921504606846992)) h fun t60 h =>
    J3 (.bool true) t60 h)
  (J3 (.bool false) .und h))
  (fun t56 t60 h => runD (pickD t56 t60 (.bool false)) h fun t61 h =>
  joinW (fun (J4 : AV → AV → List AObj → Prop) =>
  guardW t61 true
  (runD (indexAddrD T_sl_int h t18 (.int .i64 1)) h fun t64 h =>
    runD (fitD T_int (loadD h t64)) h fun t65 h =>
    runD (binD T_int .eql t65 (.int .i64 5)) h fun t66 h =>
    J4 (.bool true) t66 h)
  (J4 (.bool false) .und h))
  (fun t62 t66 h => runD (pickD t62 t66 (.bool false)) h fun t67 h =>
  joinW (fun (J5 : AV → AV → List AObj → Prop) =>
  guardW t67 true
  (runD (indexAddrD T_sl_int h t18 (.int .i64 3)) h fun t70 h =>
    runD (fitD T_int (loadD h t70)) h fun t71 h =>
    runD (binD T_int .eql t71 (.int .i64 7)) h fun t72 h =>
    J5 (.bool true) t72 h)
  (J5 (.bool false) .und h))
  (fun t68 t72 h => runD (pickD t68 t72 (.bool false)) h fun t73 h =>
  joinW (fun (J6 : AV → AV → List AObj → Prop) =>
  guardW t73 true
  (runD (fitD T_api_Node (loadD h t4)) h fun t75 h =>
    runD (fitD T_api_Node (loadD h t1)) h fun t76 h =>
    callW c (.fn (.func 31) [] []) [t75, t76] h (fun t77 h =>
    J6 (.bool true) t77 h)
    (fun v h => K (.pan v) h))
  (J6 (.bool false) .und h))
  (fun t74 t77 h => runD (pickD t74 t77 (.bool false)) h fun t78 h =>
  joinW (fun (J7 : AV → AV → List AObj → Prop) =>
  guardW t78 true
  (runD (binD T_api_Errno .eql t24 (.int .i64 0)) h fun t81 h =>
    J7 (.bool true) t81 h)
  (J7 (.bool false) .und h))
  (fun t79 t81 h => runD (pickD t79 t81 (.bool false)) h fun t82 h =>
  joinW (fun (J8 : AV → AV → List AObj → Prop) =>
  guardW t82 true
  (runD (binD T_api_Errno .eql t29 (.int .i64 1)) h fun t85 h =>
    J8 (.bool true) t85 h)
  (J8 (.bool false) .und h))
  (fun t83 t85 h => runD (pickD t83 t85 (.bool false)) h fun t86 h =>
  joinW (fun (J9 : AV → AV → List AObj → Prop) =>
  guardW t86 true
  (runD (binD T_api_Errno .eql t34 (.int .i64 90)) h fun t89 h =>
    J9 (.bool true) t89 h)
  (J9 (.bool false) .und h))
  (fun t87 t89 h => runD (pickD t87 t89 (.bool false)) h fun t90 h =>
  joinW (fun (J10 : AV → AV → List AObj → Prop) =>
  guardW t90 true
  (runD (binD T_api_Errno .eql t38 (.int .i64 0)) h fun t93 h =>
    J10 (.bool true) t93 h)
  (J10 (.bool false) .und h))
  (fun t91 t93 h => runD (pickD t91 t93 (.bool false)) h fun t94 h =>
  joinW (fun (J11 : AV → AV → List AObj → Prop) =>
  guardW t94 true
  (runD (indexAddrD T_sl_api_Micro h t37 (.int .i64 0)) h fun t97 h =>
    runD (fitD T_api_Micro (loadD h t97)) h fun t98 h =>
    runD (buildD T_api_Micro [(0, (.int .i64 1)), (1, (.int .i64 33)), (2, (.int .i64 3))]) h fun t99 h =>
    runD (binD T_api_Micro .eql t98 t99) h fun t100 h =>
    J11 (.bool true) t100 h)
  (J11 (.bool false) .und h))
  (fun t95 t100 h => runD (pickD t95 t100 (.bool false)) h fun t101 h =>
  joinW (fun (J12 : AV → AV → List AObj → Prop) =>
  guardW t101 true
  (runD (indexAddrD T_sl_api_Micro h t40 (.int .i64 0)) h fun t104 h =>
    runD (fieldAddrD T_api_Micro t104 2) h fun t105 h =>
    runD (fitD T_int (loadD h t105)) h fun t106 h =>
    runD (binD T_int .eql t106 (.int .i64 1152921504606847008)) h fun t107 h =>
    J12 (.bool true) t107 h)
  (J12 (.bool false) .und h))
  (fun t102 t107 h => runD (pickD t102 t107 (.bool false)) h fun t108 h =>
  joinW (fun (J13 : AV → AV → List AObj → Prop) =>
  guardW t108 true
  (runD (fitD T_api_Node (loadD h t1)) h fun t110 h =>
    callW c (.fn (.func 34) [] []) [(.int .i64 2), t110, (.bool true)] h (fun t111 h =>
    runD (lenD T_sl_api_Micro h t111) h fun t112 h =>
    runD (binD T_int .eql t112 (.int .i64 0)) h fun t113 h =>
    J13 (.bool true) t113 h)
    (fun v h => K (.pan v) h))
  (J13 (.bool false) .und h))
  (fun t109 t113 h => runD (pickD t109 t113 (.bool false)) h fun t114 h =>
  joinW (fun (J14 : AV → AV → List AObj → Prop) =>
  guardW t114 true
  (runD (fitD T_api_Node (loadD h t1)) h fun t116 h =>
    callW c (.fn (.func 32) [] []) [t116] h (fun t117 h =>
    J14 (.bool true) t117 h)
    (fun v h => K (.pan v) h))
  (J14 (.bool false) .und h))
  (fun t115 t117 h => runD (pickD t115 t117 (.bool false)) h fun t118 h =>
  runD (pickD t118 (.bool true) (.bool false)) h fun t120 h =>
  runD (pickD t120 (.bool true) (.bool false)) h fun t122 h =>
  runD (pickD t122 (.bool true) (.bool false)) h fun t124 h =>
  K (.ret t124) h))))))))))))))))
  (fun v h => K (.pan v) h))
  (fun v h => K (.pan v) h))
  (fun v h => K (.pan v) h))
  (fun v h => K (.pan v) h))
  (fun v h => K (.pan v) h))
  (fun v h => K (.pan v) h)
theorem lamplighterlaw09_awake.eq (F : List (FuncId × Contract)) (S : List (FuncId × Con)) (h : List AObj) (K : AOut → List AObj → Prop) : funW (ctx F S lamplighterlaw09_awake.loops) Try.f24 [] h K = lamplighterlaw09_awake.H (ctx F S lamplighterlaw09_awake.loops)  h K := by kernel_rfl
theorem lamplighterlaw09_awake.at : Try.prog.funcs[24]? = some Try.f24 := by kernel_rfl
theorem lamplighterlaw09_awake.nm : (Try.f24.name == "runtime.NumGoroutine") = false := by kernel_rfl
theorem lamplighterlaw09_awake.bd : Try.f24.body.isNone = false := by kernel_rfl
end Lam
namespace Lam
open Go Go.Proofs
set_option linter.unusedVariables false
set_option linter.unnecessarySimpa false
set_option linter.unusedSimpArgs false
theorem aw9_0 : wordsV ⟨0, 1, 5, 0, [7, 9]⟩ = .tup [.sl false (.ints .i64 [1152921504606846992, 5, 0, 7, 9, 0, 0, 0, 0, 0, 0, 0, 0, 0, 0, 0]), .int .i64 0] := by
  unfold wordsV; rw [if_pos (by decide +kernel), show wordsNd _ = [1152921504606846992, 5, 0, 7, 9, 0, 0, 0, 0, 0, 0, 0, 0, 0, 0, 0] from by decide +kernel]
theorem aw9_1 : readV [1152921504606846992, 5, 0, 7, 9, 0, 0, 0, 0, 0, 0, 0, 0, 0, 0, 0] 0 = .tup [Nd.V ⟨0, 1, 5, 0, [7, 9]⟩, .int .i64 0] := by
  unfold readV; rw [if_neg (by decide +kernel), show readN _ = some ⟨0, 1, 5, 0, [7, 9]⟩ from by decide +kernel]
theorem aw9_2 : readV [1152921504606846992, 5, 0, 7, 9, 0, 0, 0, 0, 0, 0, 0, 0, 0, 0, 0] 1 = .tup [zeroNd.V, .int .i64 1] := by
  unfold readV; rw [if_pos (by decide +kernel)]
theorem aw9_3 : readV [0, 0, 0, 0, 0, 0, 0, 0, 0, 0, 0, 0, 0, 0, 0, 0] 0 = .tup [zeroNd.V, .int .i64 90] := by
  unfold readV; rw [if_neg (by decide +kernel), show readN _ = none from by decide +kernel]
theorem aw9_4 : nextV 2 3 = .tup [.sl false (.mics [⟨1, 33, 3⟩, ⟨2, 4, 0⟩]), .int .i64 0] := by
  unfold nextV; rw [if_pos (by decide +kernel)]; rfl
theorem aw9_5 : turnS 2 ⟨0, 1, 5, 0, [7, 9]⟩ false = [⟨1, 32, 1152921504606847008⟩] := by decide +kernel
theorem aw9_6 : turnS 2 ⟨0, 1, 5, 0, [7, 9]⟩ true = [] := by decide +kernel
theorem aw9_7 : ndB ⟨0, 1, 5, 0, [7, 9]⟩ = true := by decide +kernel
theorem aw9_8 : (zeroNd : Nd).V = .agg [.int .i64 0, .int .i64 0, .int .i64 0, .int .i64 0, .sl false (.ints .i64 [])] := rfl
def lamplighterlaw09_awake.C : Contract
  | [] => some (false, pD True (.bool true))
  | _ => none
set_option maxRecDepth 20000 in
theorem lamplighterlaw09_awake.spec : FSpec Try.prog 24 lamplighterlaw09_awake.C := by
  refine FSpec.of (ctx_ok (F := [(25, node_Words.C), (27, node_Read.C), (29, node_Next.C), (34, node_Turn.C), (32, node_Check.C), (31, lamplighterref09_Same.C)]) (S := []) (by simpa using ⟨node_Words.spec, node_Read.spec, node_Next.spec, node_Turn.spec, node_Check.spec, lamplighterref09_Same.spec⟩) (by simp) lamplighterlaw09_awake.loops) lamplighterlaw09_awake.at lamplighterlaw09_awake.nm lamplighterlaw09_awake.bd ?_
  intro vs b S v news e hS
  unfold lamplighterlaw09_awake.C at e
  split at e
  rotate_left
  · cases e
  cases e
  rw [lamplighterlaw09_awake.eq]
  unfold lamplighterlaw09_awake.H
  simp (maxSteps := 4000000) only [go_sem, Nat.reduceEqDiff, Nat.reduceLT, Nat.reduceAdd, Nat.reduceSub, Nat.reduceLeDiff, List.reduceReplicate, Int.reduceToNat, node_Words.C, node_Read.C, node_Next.C, node_Turn.C, node_Check.C, lamplighterref09_Same.C, aw9_0, aw9_1, aw9_2, aw9_3, aw9_4, aw9_5, aw9_6, aw9_7, aw9_8]
  and_intros
  all_goals first | exact post_val rfl rfl | (simp [roomy]; done)
end Lam
namespace Lam
open Go Go.Proofs
set_option linter.unusedVariables false
set_option linter.unnecessarySimpa false
set_option linter.unusedSimpArgs false
theorem wordsV_ok {n : Nd} (h : ndB n = true) : wordsV n = .tup [.sl false (.ints .i64 (wordsNd n)), .int .i64 0] := by unfold wordsV; rw [if_pos h]
theorem wordsV_no {n : Nd} (h : ndB n = false) : wordsV n = .tup [.sl false (.ints .i64 []), .int .i64 90] := by unfold wordsV; rw [h]; rfl
theorem wordsV_ex (n : Nd) : ∃ l e, wordsV n = .tup [.sl false (.ints .i64 l), .int .i64 e] ∧ l.length ≤ 16 := by
  cases h : ndB n with
  | true => exact ⟨_, _, wordsV_ok h, by rw [words_len (nd_iff.1 h)]; exact Nat.le_refl _⟩
  | false => exact ⟨_, _, wordsV_no h, Nat.zero_le _⟩
theorem readV_cases (words : List Int) (k : Int) : (∃ e, e ≠ 0 ∧ readV words k = .tup [zeroNd.V, .int .i64 e]) ∨ (∃ y : Nd, y.ok ∧ 0 ≤ k ∧ 16 * k + 16 ≤ (words.length : Int) ∧ wordsNd y = blockAt words k.toNat ∧ readV words k = .tup [y.V, .int .i64 0]) := by
  unfold readV
  by_cases h : (decide (k < 0) || decide (((words.length / 16 : Nat) : Int) ≤ k)) = true
  · rw [if_pos h]; exact .inl ⟨1, by decide, rfl⟩
  · rw [if_neg h]
    simp only [Bool.or_eq_true, decide_eq_true_eq, not_or] at h
    cases hr : readN (blockAt words k.toNat) with
    | none => exact .inl ⟨90, by decide, rfl⟩
    | some y =>
      obtain ⟨h1, h2⟩ := readN_some hr
      exact .inr ⟨y, h1, by omega, by omega, h2, rfl⟩
theorem readV_words {n : Nd} (h : n.ok) : readV (wordsNd n) 0 = .tup [n.V, .int .i64 0] := by
  unfold readV
  have hl := words_len h
  rw [hl, if_neg (by decide)]
  have : blockAt (wordsNd n) (0 : Int).toNat = wordsNd n := by
    unfold blockAt; rw [show 16 * (0 : Int).toNat = 0 from rfl, List.drop_zero]; exact List.take_of_length_le (by omega)
  rw [this, readN_ok h]
theorem readV_nil : readV [] 0 = .tup [zeroNd.V, .int .i64 1] := rfl
theorem wordsV_zero : wordsV ⟨zeroNd.level, zeroNd.turn, zeroNd.next, zeroNd.low, zeroNd.slots⟩ = .tup [.sl false (.ints .i64 (wordsNd zeroNd)), .int .i64 0] := wordsV_ok (by decide)
end Lam
namespace Lam
open Go Go.Proofs
set_option linter.unusedVariables false
def lamplighterlaw09_NodeBack.loops : Nat → LInfo
  | 2 => ⟨[], [], [], [(5, none), (3, some [22, 25])], []⟩
  | 8 => ⟨[], [], [], [(3, none), (3, some [52, 55]), (2, none), (11, some [57, 68])], []⟩
  | 10 => ⟨[], [], [], [(2, none), (1, some [73, 74])], []⟩
  | 11 => ⟨[], [], [], [(2, none), (1, some [77, 78]), (2, none), (2, some [80, 82]), (2, none), (11, some [84, 95])], []⟩
  | _ => ⟨[], [], [], [], []⟩
def lamplighterlaw09_NodeBack.H (c : Ctx) (t0 : AV) (t1 : AV) (t2 : AV) (h : List AObj) (K : AOut → List AObj → Prop) : Prop :=
  boxW T_api_Node t0 h fun t3 h =>
  callW c (.fn (.func 24) [] []) [] h (fun t17 h =>
  runD (fieldAddrD T_api_Node t3 4) h fun t18 h =>
  runD (fitD T_sl_int (loadD h t18)) h fun t19 h =>
  runD (lenD T_sl_int h t19) h fun t20 h =>
  runD (binD T_int .gtr t20 (.int .i64 100)) h fun t21 h =>
  joinW (fun (J1 : AV → AV → List AObj → Prop) =>
  guardW t21 false
  (runD (lenD T_sl_int h t1) h fun t24 h =>
    runD (binD T_int .gtr t24 (.int .i64 300)) h fun t25 h =>
    J1 (.bool false) t25 h)
  (J1 (.bool true) .und h))
  (fun t22 t25 h => runD (pickD t22 (.bool true) t25) h fun t26 h =>
  condW t26
  (K (.ret t17) h)
  (runD (fitD T_api_Node (loadD h t3)) h fun t29 h =>
  callW c (.fn (.func 25) [] []) [t29] h (fun t30 h =>
  runD (extractD t30 0) h fun t31 h =>
  runD (extractD t30 1) h fun t32 h =>
  callW c (.fn (.func 27) [] []) [t31, (.int .i64 0)] h (fun t35 h =>
  runD (extractD t35 0) h fun t36 h =>
  runD (extractD t35 1) h fun t37 h =>
  allocW T_api_Node h fun t10 h =>
  runH (storeH T_api_Node h t10 t36) h fun _ h =>
  runD (convD h T_uint8 T_int t2) h fun t41 h =>
  callW c (.fn (.func 27) [] []) [t1, t41] h (fun t42 h =>
  runD (extractD t42 0) h fun t43 h =>
  runD (extractD t42 1) h fun t44 h =>
  allocW T_api_Node h fun t12 h =>
  runH (storeH T_api_Node h t12 t43) h fun _ h =>
  runD (fitD T_api_Node (loadD h t12)) h fun t46 h =>
  callW c (.fn (.func 25) [] []) [t46] h (fun t47 h =>
  runD (extractD t47 0) h fun t48 h =>
  runD (extractD t47 1) h fun t49 h =>
  runD (binD T_api_Errno .neq t32 (.int .i64 0)) h fun t51 h =>
  joinW (fun (J2 : AV → AV → List AObj → Prop) =>
  guardW t51 true
  (runD (fitD T_api_Node (loadD h t3)) h fun t53 h =>
    callW c (.fn (.func 32) [] []) [t53] h (fun t54 h =>
    runD (unD .not t54) h fun t55 h =>
    J2 (.bool true) t55 h)
    (fun v h => K (.pan v) h))
  (J2 (.bool false) .und h))
  (fun t52 t55 h => runD (pickD t52 t55 (.bool false)) h fun t56 h =>
  joinW (fun (J3 : AV → AV → List AObj → Prop) =>
  guardW t56 false
  (runD (binD T_api_Errno .eql t32 (.int .i64 0)) h fun t59 h =>
    joinW (fun (J4 : AV → AV → List AObj → Prop) =>
    guardW t59 true
    (runD (binD T_api_Errno .eql t37 (.int .i64 0)) h fun t62 h =>
      J4 (.bool true) t62 h)
    (J4 (.bool false) .und h))
    (fun t60 t62 h => runD (pickD t60 t62 (.bool false)) h fun t63 h =>
    joinW (fun (J5 : AV → AV → List AObj → Prop) =>
    guardW t63 true
    (runD (fitD T_api_Node (loadD h t10)) h fun t65 h =>
      runD (fitD T_api_Node (loadD h t3)) h fun t66 h =>
      callW c (.fn (.func 31) [] []) [t65, t66] h (fun t67 h =>
      J5 (.bool true) t67 h)
      (fun v h => K (.pan v) h))
    (J5 (.bool false) .und h))
    (fun t64 t67 h => runD (pickD t64 t67 (.bool false)) h fun t68 h =>
    J3 (.bool false) t68 h)))
  (J3 (.bool true) .und h))
  (fun t57 t68 h => runD (pickD t57 (.bool true) t68) h fun t69 h =>
  runD (binD T_api_Errno .neq t44 (.int .i64 0)) h fun t71 h =>
  condW t71
  (joinW (fun (J6 : AV → AV → List AObj → Prop) =>
    guardW t17 true
    (J6 (.bool true) t69 h)
    (J6 (.bool false) .und h))
    (fun t73 t74 h => runD (pickD t73 t74 (.bool false)) h fun t75 h =>
    K (.ret t75) h))
  (joinW (fun (J7 : AV → AV → List AObj → Prop) =>
  guardW t17 true
  (J7 (.bool true) t69 h)
  (J7 (.bool false) .und h))
  (fun t77 t78 h => runD (pickD t77 t78 (.bool false)) h fun t79 h =>
  joinW (fun (J8 : AV → AV → List AObj → Prop) =>
  guardW t79 true
  (runD (binD T_api_Errno .eql t49 (.int .i64 0)) h fun t82 h =>
    J8 (.bool true) t82 h)
  (J8 (.bool false) .und h))
  (fun t80 t82 h => runD (pickD t80 t82 (.bool false)) h fun t83 h =>
  joinW (fun (J9 : AV → AV → List AObj → Prop) =>
  guardW t83 true
  (runD (convD h T_uint8 T_int t2) h fun t88 h =>
    runD (binD T_int .mul (.int .i64 16) t88) h fun t89 h =>
    runD (convD h T_uint8 T_int t2) h fun t91 h =>
    runD (binD T_int .mul (.int .i64 16) t91) h fun t92 h =>
    runD (binD T_int .add t92 (.int .i64 16)) h fun t93 h =>
    runD (sliceD T_sl_int h t1 (some t89) (some t93) none) h fun t94 h =>
    callW c (.fn (.func 22) [] []) [t48, t94] h (fun t95 h =>
    J9 (.bool true) t95 h)
    (fun v h => K (.pan v) h))
  (J9 (.bool false) .und h))
  (fun t84 t95 h => runD (pickD t84 t95 (.bool false)) h fun t96 h =>
  K (.ret t96) h)))))))
  (fun v h => K (.pan v) h))
  (fun v h => K (.pan v) h))
  (fun v h => K (.pan v) h))
  (fun v h => K (.pan v) h))))
  (fun v h => K (.pan v) h)
theorem lamplighterlaw09_NodeBack.eq (F : List (FuncId × Contract)) (S : List (FuncId × Con)) (t0 t1 t2 : AV) (h : List AObj) (K : AOut → List AObj → Prop) : funW (ctx F S lamplighterlaw09_NodeBack.loops) Try.f7 [t0, t1, t2] h K = lamplighterlaw09_NodeBack.H (ctx F S lamplighterlaw09_NodeBack.loops) t0 t1 t2 h K := by kernel_rfl
theorem lamplighterlaw09_NodeBack.at : Try.prog.funcs[7]? = some Try.f7 := by kernel_rfl
theorem lamplighterlaw09_NodeBack.nm : (Try.f7.name == "runtime.NumGoroutine") = false := by kernel_rfl
theorem lamplighterlaw09_NodeBack.bd : Try.f7.body.isNone = false := by kernel_rfl
end Lam
namespace Lam
open Go Go.Proofs
set_option linter.unusedVariables false
set_option linter.unnecessarySimpa false
set_option linter.unusedSimpArgs false
abbrev NodeBack_ctx : Ctx := ctx [(24, lamplighterlaw09_awake.C), (25, node_Words.C), (27, node_Read.C), (32, node_Check.C), (31, lamplighterref09_Same.C), (22, lamplighterref02_Numbers.C)] [] lamplighterlaw09_NodeBack.loops
set_option maxRecDepth 20000 in
theorem NodeBack_vc (n_level : Int) (n_turn : Int) (n_next : Int) (n_low : Int) (n_slots : List Int) (words : List Int) (block : Int) (w_n_level : (Lit.int .i64 n_level).wf = true) (w_n_turn : (Lit.int .i64 n_turn).wf = true) (w_n_next : (Lit.int .i64 n_next).wf = true) (w_n_low : (Lit.int .i64 n_low).wf = true) (w_n_slots : wfL (.ints .i64 n_slots)) (n_n_slots : n_slots.length ≤ maxLen) (w_block : (Lit.int .u8 block).wf = true) : lamplighterlaw09_NodeBack.H NodeBack_ctx (.agg [(.int .i64 n_level), (.int .i64 n_turn), (.int .i64 n_next), (.int .i64 n_low), (.sl false (.ints .i64 n_slots))]) (.sl false (.ints .i64 words)) (.int .u8 block) [] Told := by
  unfold lamplighterlaw09_NodeBack.H
  simp (maxSteps := 4000000) only [go_sem, Nat.reduceEqDiff, Nat.reduceLT, Nat.reduceAdd, Nat.reduceSub, Nat.reduceLeDiff, List.reduceReplicate, Int.reduceToNat, lamplighterlaw09_awake.C, node_Words.C, node_Read.C, node_Check.C, lamplighterref09_Same.C, lamplighterref02_Numbers.C]
  have hb := wf_u8 w_block
  refine ⟨fun _ => rfl, fun hg => ?_⟩
  simp only [Bool.or_eq_false_iff, decide_eq_false_iff_not] at hg
  rw [w64 (n := block) (by omega) (by omega)]
  have hrn : roomy n_slots.length := by unfold roomy; omega
  have hrw : roomy words.length := by unfold roomy; omega
  generalize hn : (⟨n_level, n_turn, n_next, n_low, n_slots⟩ : Nd) = n
  obtain ⟨b, rfl⟩ := Int.eq_ofNat_of_zero_le hb.1
  have e1 : IntKind.i64.wrap (16 * (b : Int)) = 16 * (b : Int) := w64 (by omega) (by omega)
  have e2 : IntKind.i64.wrap (16 * (b : Int) + 16) = 16 * (b : Int) + 16 := w64 (by omega) (by omega)
  have e4 : (16 * (b : Int) + 16).toNat - 16 * b = 16 := by omega
  have e5 : (16 * (b : Int)).toNat = 16 * b := by omega
  have eb : (words.drop (16 * b)).take 16 = blockAt words b := rfl
  have hz : roomy zeroNd.slots.length := Nat.zero_le _
  have r0 : roomy 0 := Nat.zero_le _
  have r16 : roomy 16 := by unfold roomy; omega
  have hdz : decide (wordsNd zeroNd = wordsNd zeroNd) = true := decide_eq_true rfl
  cases h1 : ndB n with
  | false =>
    rcases readV_cases words b with ⟨e, he, hr⟩ | ⟨y, hy, _, hlen, hw, hr⟩
    · simp only [wordsV_no h1, readV_nil, hr, node_Read.C, node_Words.C, node_Check.C, wordsV_zero, hn, h1, he, decide_false, decide_true, List.length_nil, joinW_eq, guard_tt, guard_tf, guard_ft, guard_ff, Int.reduceEq, Int.reduceLT, Int.reduceLE, decide_false, decide_true, Bool.not_false, Bool.not_true, Bool.not_not, not_true_eq_false, not_false_eq_true, true_implies, false_implies, implies_true, and_true, true_and, reduceCtorEq, Bool.and_self, Bool.or_self, Bool.and_true, Bool.true_and, Bool.false_eq_true, if_true, if_false, go_sem, Nat.reduceEqDiff, Nat.reduceLT, Nat.reduceAdd, Nat.reduceSub, Nat.reduceLeDiff, List.reduceReplicate, Int.reduceToNat]
      exact ⟨hrn, r0, hrw, hz, hrn, rfl⟩
    · have hyl : roomy y.slots.length := by have := hy.2.2.2.2.2.2.1; unfold roomy; omega
      have hwl := words_len hy
      have hdy : decide (wordsNd y = blockAt words b) = true := decide_eq_true hw
      simp only [wordsV_no h1, readV_nil, hr, node_Read.C, node_Words.C, node_Check.C, lamplighterref02_Numbers.C, wordsV_ok (nd_iff.2 hy), hn, h1, e1, e2, e4, e5, eb, hwl, hdy, List.length_nil, joinW_eq, guard_tt, guard_tf, guard_ft, guard_ff, Int.reduceEq, Int.reduceLT, Int.reduceLE, decide_false, decide_true, Bool.not_false, Bool.not_true, Bool.not_not, not_true_eq_false, not_false_eq_true, true_implies, false_implies, implies_true, and_true, true_and, reduceCtorEq, Bool.and_self, Bool.or_self, Bool.and_true, Bool.true_and, Bool.false_eq_true, if_true, if_false, go_sem, Nat.reduceEqDiff, Nat.reduceLT, Nat.reduceAdd, Nat.reduceSub, Nat.reduceLeDiff, List.reduceReplicate, Int.reduceToNat]
      exact ⟨hrn, r0, hrw, hyl, hrn, ⟨by omega, by omega, by omega⟩, r16, rfl⟩
  | true =>
    have hok := nd_iff.1 h1
    have hnl := words_len hok
    have hsame : decide (n = n) = true := decide_eq_true rfl
    rcases readV_cases words b with ⟨e, he, hr⟩ | ⟨y, hy, _, hlen, hw, hr⟩
    · simp only [wordsV_ok h1, readV_words hok, hr, node_Read.C, node_Words.C, node_Check.C, lamplighterref09_Same.C, wordsV_zero, hsame, hn, h1, he, hnl, decide_false, decide_true, joinW_eq, guard_tt, guard_tf, guard_ft, guard_ff, Int.reduceEq, Int.reduceLT, Int.reduceLE, decide_false, decide_true, Bool.not_false, Bool.not_true, Bool.not_not, not_true_eq_false, not_false_eq_true, true_implies, false_implies, implies_true, and_true, true_and, reduceCtorEq, Bool.and_self, Bool.or_self, Bool.and_true, Bool.true_and, Bool.false_eq_true, if_true, if_false, go_sem, Nat.reduceEqDiff, Nat.reduceLT, Nat.reduceAdd, Nat.reduceSub, Nat.reduceLeDiff, List.reduceReplicate, Int.reduceToNat]
      exact ⟨hrn, r16, hrw, hz, by have := hok.2.2.2.2.2.2.1; unfold roomy; omega, rfl⟩
    · have hyl : roomy y.slots.length := by have := hy.2.2.2.2.2.2.1; unfold roomy; omega
      have hwl := words_len hy
      have hdy : decide (wordsNd y = blockAt words b) = true := decide_eq_true hw
      simp only [wordsV_ok h1, readV_words hok, hr, node_Read.C, node_Words.C, node_Check.C, lamplighterref09_Same.C, lamplighterref02_Numbers.C, hsame, wordsV_ok (nd_iff.2 hy), hn, h1, e1, e2, e4, e5, eb, hwl, hnl, hdy, decide_true, joinW_eq, guard_tt, guard_tf, guard_ft, guard_ff, Int.reduceEq, Int.reduceLT, Int.reduceLE, decide_false, decide_true, Bool.not_false, Bool.not_true, Bool.not_not, not_true_eq_false, not_false_eq_true, true_implies, false_implies, implies_true, and_true, true_and, reduceCtorEq, Bool.and_self, Bool.or_self, Bool.and_true, Bool.true_and, Bool.false_eq_true, if_true, if_false, go_sem, Nat.reduceEqDiff, Nat.reduceLT, Nat.reduceAdd, Nat.reduceSub, Nat.reduceLeDiff, List.reduceReplicate, Int.reduceToNat]
      exact ⟨hrn, r16, hrw, hyl, by have := hok.2.2.2.2.2.2.1; unfold roomy; omega, ⟨by omega, by omega, by omega⟩, r16, rfl⟩
theorem NodeBack_ok : Ok Try.prog NodeBack_ctx := ctx_ok (by simpa using ⟨lamplighterlaw09_awake.spec, node_Words.spec, node_Read.spec, node_Check.spec, lamplighterref09_Same.spec, lamplighterref02_Numbers.spec⟩) (by simp) _
theorem NodeBack_law (n : AV) (words : List Int) (block : Int) (g_n : GoodV T_api_Node n) (w_block : (Lit.int .u8 block).wf = true) : funW NodeBack_ctx Try.f7 [n, (.sl false (.ints .i64 words)), (.int .u8 block)] [] Told := by
  obtain ⟨_, rfl, _, _, rfl, ⟨n_level, rfl, w_n_level⟩, _, _, rfl, ⟨n_turn, rfl, w_n_turn⟩, _, _, rfl, ⟨n_next, rfl, w_n_next⟩, _, _, rfl, ⟨n_low, rfl, w_n_low⟩, _, _, rfl, ⟨n_slots, rfl, k_n_slots, w_n_slots, n_n_slots⟩, rfl⟩ := g_n
  obtain ⟨n_slots, rfl⟩ := gkind_ints k_n_slots
  rw [NodeBack_ctx, lamplighterlaw09_NodeBack.eq]
  exact NodeBack_vc n_level n_turn n_next n_low n_slots words block w_n_level w_n_turn w_n_next w_n_low w_n_slots n_n_slots w_block
end Lam
