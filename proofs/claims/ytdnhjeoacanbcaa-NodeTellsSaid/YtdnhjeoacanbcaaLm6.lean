/- What functions of the program come to, each proved from its code. -/
import Derived.Test.YtdnhjeoacanbcaaLm5
namespace Lam
open Go Go.Proofs
set_option linter.unusedVariables false
def lamplighterref09_Words.loops : Nat → LInfo
  | 5 => ⟨[5], [true], [], [], []⟩
  | _ => ⟨[], [], [], [], []⟩
def lamplighterref09_Words.L1 (c : Ctx) (J1 : AV → List AObj → Prop) (K : AOut → List AObj → Prop) (lv : List AV) (h0 : List AObj) (n0 : Nat) : Prop :=
  ∃ I : Nat → List AV → List AObj → Prop, (∃ n, I n lv h0) ∧ ∀ n h, ∀ t5, I n [t5] h →
    runD (lenD T_sl_int h t5) h fun t21 h =>
    runD (binD T_int .lss t21 (.int .i64 16)) h fun t22 h =>
    condW t22
    (runD (buildSliceD T_sl_int 1 [(0, (.int .i64 0))] h.length) h fun t24 h =>
    runDM (appendD T_sl_int h t5 t24 h.length) (appendH T_sl_int h t5 t24) h fun t25 h =>
    (∃ m, m < n ∧ I m (AV.norms n0 h [t25]) (normH n0 h)) ∧ AV.norms n0 h [] = [])
    (J1 t5 h)
def lamplighterref09_Words.H (c : Ctx) (t0 : AV) (h : List AObj) (K : AOut → List AObj → Prop) : Prop :=
  boxW T_api_Node t0 h fun t1 h =>
  runD (fitD T_api_Node (loadD h t1)) h fun t6 h =>
  callW c (.fn (.func 33) [] []) [t6] h (fun t7 h =>
  runD (unD .not t7) h fun t9 h =>
  condW t9
  (K (.ret (.tup [(.sl true (.ints .i64 [])), (.int .i64 90)])) h)
  (runD (fitD T_api_Node (loadD h t1)) h fun t10 h =>
  callW c.noS (.fn (.func 77) [] []) [t10] h (fun t11 h =>
  runD (fieldAddrD T_api_Node t1 2) h fun t12 h =>
  runD (fitD T_int (loadD h t12)) h fun t13 h =>
  runD (fieldAddrD T_api_Node t1 3) h fun t14 h =>
  runD (fitD T_int (loadD h t14)) h fun t15 h =>
  runD (buildSliceD T_sl_int 3 [(0, t11), (1, t13), (2, t15)] h.length) h fun t16 h =>
  runD (fieldAddrD T_api_Node t1 4) h fun t17 h =>
  runD (fitD T_sl_int (loadD h t17)) h fun t18 h =>
  runDM (appendD T_sl_int h t16 t18 h.length) (appendH T_sl_int h t16 t18) h fun t19 h =>
  joinW (fun (J1 : AV → List AObj → Prop) =>
  promV [true] [t19] h fun lv h => lamplighterref09_Words.L1 c J1 K (AV.norms h.length h lv) (normH h.length h) h.length)
  (fun t5 h => K (.ret (.tup [t5, (.int .i64 0)])) h))
  (fun _ _ => False)))
  (fun v h => K (.pan v) h)
def lamplighterref09_Read.loops : Nat → LInfo
  | 1 => ⟨[], [], [], [(3, none), (2, some [14, 16]), (2, none), (6, some [18, 24])], []⟩
  | 5 => ⟨[], [], [], [(5, none), (2, some [42, 44])], []⟩
  | 9 => ⟨[9], [false], [4, 6, 8], [(3, none), (5, some [60, 65])], [8]⟩
  | 13 => ⟨[], [], [], [(3, none), (4, some [85, 89])], []⟩
  | _ => ⟨[], [], [], [], []⟩
def lamplighterref09_Read.L1 (c : Ctx) (J4 : AV → AV → AV → List AObj → Prop) (K : AOut → List AObj → Prop) (lv : List AV) (h0 : List AObj) (n0 : Nat) (c4 : AV) (c6 : AV) (c8 : AV) : Prop :=
  ∃ I : Nat → List AV → List AObj → Prop, (∃ n, I n lv h0) ∧ ∀ n h, ∀ t9, I n [t9] h →
    runD (binD T_int .lss t9 (.int .i64 16)) h fun t59 h =>
    joinW (fun (J5 : AV → AV → List AObj → Prop) =>
    guardW t59 true
    (runD (indexAddrD T_sl_int h c6 t9) h fun t63 h =>
      runD (fitD T_int (loadD h t63)) h fun t64 h =>
      runD (binD T_int .neq t64 (.int .i64 0)) h fun t65 h =>
      J5 (.bool true) t65 h)
    (J5 (.bool false) .und h))
    (fun t60 t65 h => runD (pickD t60 t65 (.bool false)) h fun t66 h =>
    condW t66
    (runD (fieldAddrD T_api_Node c8 4) h fun t69 h =>
    runD (fitD T_sl_int (loadD h t69)) h fun t70 h =>
    runD (indexAddrD T_sl_int h c6 t9) h fun t73 h =>
    runD (fitD T_int (loadD h t73)) h fun t74 h =>
    runD (buildSliceD T_sl_int 1 [(0, t74)] h.length) h fun t75 h =>
    runDM (appendD T_sl_int h t70 t75 h.length) (appendH T_sl_int h t70 t75) h fun t76 h =>
    runD (fieldAddrD T_api_Node c8 4) h fun t77 h =>
    runH (storeH T_sl_int h t77 t76) h fun _ h =>
    runD (binD T_int .add t9 (.int .i64 1)) h fun t68 h =>
    (∃ m, m < n ∧ I m (AV.norms n0 h [t68]) (normH n0 h)) ∧ AV.norms n0 h [c4, c6, c8] = [c4, c6, c8])
    (J4 c4 c6 c8 h))
def lamplighterref09_Read.H (c : Ctx) (t0 : AV) (t1 : AV) (h : List AObj) (K : AOut → List AObj → Prop) : Prop :=
  allocW T_api_Node h fun t4 h =>
  runD (binD T_int .lss t1 (.int .i64 0)) h fun t13 h =>
  joinW (fun (J1 : AV → AV → List AObj → Prop) =>
  guardW t13 false
  (runD (binD T_int .geq t1 (.int .i64 4096)) h fun t16 h =>
    J1 (.bool false) t16 h)
  (J1 (.bool true) .und h))
  (fun t14 t16 h => runD (pickD t14 (.bool true) t16) h fun t17 h =>
  joinW (fun (J2 : AV → AV → List AObj → Prop) =>
  guardW t17 false
  (runD (binD T_int .mul (.int .i64 16) t1) h fun t20 h =>
    runD (binD T_int .add t20 (.int .i64 16)) h fun t21 h =>
    runD (lenD T_sl_int h t0) h fun t23 h =>
    runD (binD T_int .gtr t21 t23) h fun t24 h =>
    J2 (.bool false) t24 h)
  (J2 (.bool true) .und h))
  (fun t18 t24 h => runD (pickD t18 (.bool true) t24) h fun t25 h =>
  condW t25
  (runD (buildD T_api_Node []) h fun t26 h =>
    runH (storeH T_api_Node h t4 t26) h fun _ h =>
    loadRes (fitD T_api_Node (loadD h t4)) fun r0 => K (.ret (.tup [r0, (.int .i64 1)])) h)
  (runD (binD T_int .mul (.int .i64 16) t1) h fun t29 h =>
  runD (binD T_int .mul (.int .i64 16) t1) h fun t31 h =>
  runD (binD T_int .add t31 (.int .i64 16)) h fun t32 h =>
  runD (sliceD T_sl_int h t0 (some t29) (some t32) none) h fun t33 h =>
  runD (indexAddrD T_sl_int h t33 (.int .i64 0)) h fun t35 h =>
  runD (fitD T_int (loadD h t35)) h fun t36 h =>
  runD (binD T_int .sub t36 (.int .i64 1152921504606846976)) h fun t37 h =>
  runD (indexAddrD T_sl_int h t33 (.int .i64 0)) h fun t39 h =>
  runD (fitD T_int (loadD h t39)) h fun t40 h =>
  runD (binD T_int .lss t40 (.int .i64 0)) h fun t41 h =>
  joinW (fun (J3 : AV → AV → List AObj → Prop) =>
  guardW t41 false
  (runD (binD T_int .lss t37 (.int .i64 0)) h fun t44 h =>
    J3 (.bool false) t44 h)
  (J3 (.bool true) .und h))
  (fun t42 t44 h => runD (pickD t42 (.bool true) t44) h fun t45 h =>
  condW t45
  (runD (buildD T_api_Node []) h fun t46 h =>
    runH (storeH T_api_Node h t4 t46) h fun _ h =>
    loadRes (fitD T_api_Node (loadD h t4)) fun r0 => K (.ret (.tup [r0, (.int .i64 90)])) h)
  (runD (binD T_int .rem t37 (.int .i64 16)) h fun t48 h =>
  runD (binD T_int .quo t37 (.int .i64 16)) h fun t50 h =>
  runD (indexAddrD T_sl_int h t33 (.int .i64 1)) h fun t52 h =>
  runD (fitD T_int (loadD h t52)) h fun t53 h =>
  runD (indexAddrD T_sl_int h t33 (.int .i64 2)) h fun t55 h =>
  runD (fitD T_int (loadD h t55)) h fun t56 h =>
  runD (buildD T_api_Node [(0, t48), (1, t50), (2, t53), (3, t56)]) h fun t57 h =>
  allocW T_api_Node h fun t8 h =>
  runH (storeH T_api_Node h t8 t57) h fun _ h =>
  joinW (fun (J4 : AV → AV → AV → List AObj → Prop) =>
  promV [false] [(.int .i64 3)] (boxH [t8] h) fun lv h => lamplighterref09_Read.L1 c J4 K (AV.norms h.length h lv) (normH h.length h) h.length (AV.norm h.length h t4) (AV.norm h.length h t33) (AV.norm h.length h t8))
  (fun t4 t6 t8 h => runD (fitD T_api_Node (loadD h t8)) h fun t79 h =>
  callW c (.fn (.func 26) [] []) [t79] h (fun t80 h =>
  runD (extractD t80 0) h fun t81 h =>
  runD (extractD t80 1) h fun t82 h =>
  runD (binD T_api_Errno .neq t82 (.int .i64 0)) h fun t84 h =>
  joinW (fun (J6 : AV → AV → List AObj → Prop) =>
  guardW t84 false
  (callW c (.fn (.func 22) [] []) [t81, t6] h (fun t88 h =>
    runD (unD .not t88) h fun t89 h =>
    J6 (.bool false) t89 h)
    (fun v h => K (.pan v) h))
  (J6 (.bool true) .und h))
  (fun t85 t89 h => runD (pickD t85 (.bool true) t89) h fun t90 h =>
  condW t90
  (runD (buildD T_api_Node []) h fun t91 h =>
    runH (storeH T_api_Node h t4 t91) h fun _ h =>
    loadRes (fitD T_api_Node (loadD h t4)) fun r0 => K (.ret (.tup [r0, (.int .i64 90)])) h)
  (runD (fitD T_api_Node (loadD h t8)) h fun t92 h =>
  runH (storeH T_api_Node h t4 t92) h fun _ h =>
  loadRes (fitD T_api_Node (loadD h t4)) fun r0 => K (.ret (.tup [r0, (.int .i64 0)])) h)))
  (fun v h => K (.pan v) h)))))))
def lamplighterref09_Next.loops : Nat → LInfo
  | 1 => ⟨[], [], [], [(4, none), (3, some [9, 12])], []⟩
  | _ => ⟨[], [], [], [], []⟩
def lamplighterref09_Next.H (c : Ctx) (t0 : AV) (t1 : AV) (h : List AObj) (K : AOut → List AObj → Prop) : Prop :=
  callW c (.fn (.func 80) [] []) [t0] h (fun t7 h =>
  runD (unD .not t7) h fun t8 h =>
  joinW (fun (J1 : AV → AV → List AObj → Prop) =>
  guardW t8 false
  (callW c (.fn (.func 80) [] []) [t1] h (fun t11 h =>
    runD (unD .not t11) h fun t12 h =>
    J1 (.bool false) t12 h)
    (fun v h => K (.pan v) h))
  (J1 (.bool true) .und h))
  (fun t9 t12 h => runD (pickD t9 (.bool true) t12) h fun t13 h =>
  condW t13
  (K (.ret (.tup [(.sl true (.mics [])), (.int .i64 1)])) h)
  (runD (binD T_int .mul (.int .i64 16) t0) h fun t15 h =>
  runD (binD T_int .add t15 (.int .i64 1)) h fun t16 h =>
  runD (buildD T_api_Micro [(0, (.int .i64 1)), (1, t16), (2, t1)]) h fun t18 h =>
  runD (binD T_int .mul (.int .i64 2) t0) h fun t20 h =>
  runD (buildD T_api_Micro [(0, (.int .i64 2)), (1, t20)]) h fun t21 h =>
  runD (buildSliceD T_sl_api_Micro 2 [(0, t18), (1, t21)] h.length) h fun t22 h =>
  K (.ret (.tup [t22, (.int .i64 0)])) h)))
  (fun v h => K (.pan v) h)
def lamplighterref09_Same.loops : Nat → LInfo
  | 1 => ⟨[], [], [], [(6, none), (5, some [10, 15]), (2, none), (5, some [17, 22]), (2, none), (5, some [24, 29]), (2, none), (5, some [31, 36])], []⟩
  | _ => ⟨[], [], [], [], []⟩
def lamplighterref09_Same.H (c : Ctx) (t0 : AV) (t1 : AV) (h : List AObj) (K : AOut → List AObj → Prop) : Prop :=
  boxW T_api_Node t0 h fun t2 h =>
  boxW T_api_Node t1 h fun t3 h =>
  runD (fieldAddrD T_api_Node t2 0) h fun t5 h =>
  runD (fitD T_int (loadD h t5)) h fun t6 h =>
  runD (fieldAddrD T_api_Node t3 0) h fun t7 h =>
  runD (fitD T_int (loadD h t7)) h fun t8 h =>
  runD (binD T_int .eql t6 t8) h fun t9 h =>
  joinW (fun (J1 : AV → AV → List AObj → Prop) =>
  guardW t9 true
  (runD (fieldAddrD T_api_Node t2 1) h fun t11 h =>
    runD (fitD T_int (loadD h t11)) h fun t12 h =>
    runD (fieldAddrD T_api_Node t3 1) h fun t13 h =>
    runD (fitD T_int (loadD h t13)) h fun t14 h =>
    runD (binD T_int .eql t12 t14) h fun t15 h =>
    J1 (.bool true) t15 h)
  (J1 (.bool false) .und h))
  (fun t10 t15 h => runD (pickD t10 t15 (.bool false)) h fun t16 h =>
  joinW (fun (J2 : AV → AV → List AObj → Prop) =>
  guardW t16 true
  (runD (fieldAddrD T_api_Node t2 2) h fun t18 h =>
    runD (fitD T_int (loadD h t18)) h fun t19 h =>
    runD (fieldAddrD T_api_Node t3 2) h fun t20 h =>
    runD (fitD T_int (loadD h t20)) h fun t21 h =>
    runD (binD T_int .eql t19 t21) h fun t22 h =>
    J2 (.bool true) t22 h)
  (J2 (.bool false) .und h))
  (fun t17 t22 h => runD (pickD t17 t22 (.bool false)) h fun t23 h =>
  joinW (fun (J3 : AV → AV → List AObj → Prop) =>
  guardW t23 true
  (runD (fieldAddrD T_api_Node t2 3) h fun t25 h =>
    runD (fitD T_int (loadD h t25)) h fun t26 h =>
    runD (fieldAddrD T_api_Node t3 3) h fun t27 h =>
    runD (fitD T_int (loadD h t27)) h fun t28 h =>
    runD (binD T_int .eql t26 t28) h fun t29 h =>
    J3 (.bool true) t29 h)
  (J3 (.bool false) .und h))
  (fun t24 t29 h => runD (pickD t24 t29 (.bool false)) h fun t30 h =>
  joinW (fun (J4 : AV → AV → List AObj → Prop) =>
  guardW t30 true
  (runD (fieldAddrD T_api_Node t2 4) h fun t32 h =>
    runD (fitD T_sl_int (loadD h t32)) h fun t33 h =>
    runD (fieldAddrD T_api_Node t3 4) h fun t34 h =>
    runD (fitD T_sl_int (loadD h t34)) h fun t35 h =>
    callW c (.fn (.func 22) [] []) [t33, t35] h (fun t36 h =>
    J4 (.bool true) t36 h)
    (fun v h => K (.pan v) h))
  (J4 (.bool false) .und h))
  (fun t31 t36 h => runD (pickD t31 t36 (.bool false)) h fun t37 h =>
  K (.ret t37) h))))
def lamplighterref09_Check.loops : Nat → LInfo
  | 1 => ⟨[], [], [], [(4, none), (3, some [7, 10]), (2, none), (3, some [12, 15]), (2, none), (3, some [17, 20]), (2, none), (4, some [22, 26]), (2, none), (4, some [28, 32]), (2, none), (4, some [34, 38])], []⟩
  | 4 => ⟨[3], [false], [1], [], []⟩
  | 6 => ⟨[], [], [], [(8, none), (6, some [54, 60])], []⟩
  | _ => ⟨[], [], [], [], []⟩
def lamplighterref09_Check.L1 (c : Ctx) (J7 : List AObj → Prop) (K : AOut → List AObj → Prop) (lv : List AV) (h0 : List AObj) (n0 : Nat) (c1 : AV) : Prop :=
  ∃ I : Nat → List AV → List AObj → Prop, (∃ n, I n lv h0) ∧ ∀ n h, ∀ t3, I n [t3] h →
    runD (fieldAddrD T_api_Node c1 4) h fun t41 h =>
    runD (fitD T_sl_int (loadD h t41)) h fun t42 h =>
    runD (lenD T_sl_int h t42) h fun t43 h =>
    runD (binD T_int .lss t3 t43) h fun t44 h =>
    condW t44
    (runD (fieldAddrD T_api_Node c1 4) h fun t47 h =>
    runD (fitD T_sl_int (loadD h t47)) h fun t48 h =>
    runD (indexAddrD T_sl_int h t48 t3) h fun t50 h =>
    runD (fitD T_int (loadD h t50)) h fun t51 h =>
    callW c (.fn (.func 80) [] []) [t51] h (fun t52 h =>
    runD (unD .not t52) h fun t53 h =>
    joinW (fun (J8 : AV → AV → List AObj → Prop) =>
    guardW t53 false
    (runD (fieldAddrD T_api_Node c1 4) h fun t55 h =>
      runD (fitD T_sl_int (loadD h t55)) h fun t56 h =>
      runD (indexAddrD T_sl_int h t56 t3) h fun t58 h =>
      runD (fitD T_int (loadD h t58)) h fun t59 h =>
      runD (binD T_int .eql t59 (.int .i64 0)) h fun t60 h =>
      J8 (.bool false) t60 h)
    (J8 (.bool true) .und h))
    (fun t54 t60 h => runD (pickD t54 (.bool true) t60) h fun t61 h =>
    condW t61
    (K (.ret (.bool false)) h)
    (runD (binD T_int .add t3 (.int .i64 1)) h fun t46 h =>
    (∃ m, m < n ∧ I m (AV.norms n0 h [t46]) (normH n0 h)) ∧ AV.norms n0 h [c1] = [c1])))
    (fun v h => K (.pan v) h))
    (J7 h)
def lamplighterref09_Check.H (c : Ctx) (t0 : AV) (h : List AObj) (K : AOut → List AObj → Prop) : Prop :=
  boxW T_api_Node t0 h fun t1 h =>
  runD (fieldAddrD T_api_Node t1 0) h fun t4 h =>
  runD (fitD T_int (loadD h t4)) h fun t5 h =>
  runD (binD T_int .lss t5 (.int .i64 0)) h fun t6 h =>
  joinW (fun (J1 : AV → AV → List AObj → Prop) =>
  guardW t6 false
  (runD (fieldAddrD T_api_Node t1 0) h fun t8 h =>
    runD (fitD T_int (loadD h t8)) h fun t9 h =>
    runD (binD T_int .gtr t9 (.int .i64 9)) h fun t10 h =>
    J1 (.bool false) t10 h)
  (J1 (.bool true) .und h))
  (fun t7 t10 h => runD (pickD t7 (.bool true) t10) h fun t11 h =>
  joinW (fun (J2 : AV → AV → List AObj → Prop) =>
  guardW t11 false
  (runD (fieldAddrD T_api_Node t1 1) h fun t13 h =>
    runD (fitD T_int (loadD h t13)) h fun t14 h =>
    runD (binD T_int .lss t14 (.int .i64 0)) h fun t15 h =>
    J2 (.bool false) t15 h)
  (J2 (.bool true) .und h))
  (fun t12 t15 h => runD (pickD t12 (.bool true) t15) h fun t16 h =>
  joinW (fun (J3 : AV → AV → List AObj → Prop) =>
  guardW t16 false
  (runD (fieldAddrD T_api_Node t1 1) h fun t18 h =>
    runD (fitD T_int (loadD h t18)) h fun t19 h =>
    runD (binD T_int .gtr t19 (.int .i64 1099511627776)) h fun t20 h =>
    J3 (.bool false) t20 h)
  (J3 (.bool true) .und h))
  (fun t17 t20 h => runD (pickD t17 (.bool true) t20) h fun t21 h =>
  joinW (fun (J4 : AV → AV → List AObj → Prop) =>
  guardW t21 false
  (runD (fieldAddrD T_api_Node t1 2) h fun t23 h =>
    runD (fitD T_int (loadD h t23)) h fun t24 h =>
    callW c (.fn (.func 80) [] []) [t24] h (fun t25 h =>
    runD (unD .not t25) h fun t26 h =>
    J4 (.bool false) t26 h)
    (fun v h => K (.pan v) h))
  (J4 (.bool true) .und h))
  (fun t22 t26 h => runD (pickD t22 (.bool true) t26) h fun t27 h =>
  joinW (fun (J5 : AV → AV → List AObj → Prop) =>
  guardW t27 false
  (runD (fieldAddrD T_api_Node t1 3) h fun t29 h =>
    runD (fitD T_int (loadD h t29)) h fun t30 h =>
    callW c (.fn (.func 80) [] []) [t30] h (fun t31 h =>
    runD (unD .not t31) h fun t32 h =>
    J5 (.bool false) t32 h)
    (fun v h => K (.pan v) h))
  (J5 (.bool true) .und h))
  (fun t28 t32 h => runD (pickD t28 (.bool true) t32) h fun t33 h =>
  joinW (fun (J6 : AV → AV → List AObj → Prop) =>
  guardW t33 false
  (runD (fieldAddrD T_api_Node t1 4) h fun t35 h =>
    runD (fitD T_sl_int (loadD h t35)) h fun t36 h =>
    runD (lenD T_sl_int h t36) h fun t37 h =>
    runD (binD T_int .gtr t37 (.int .i64 13)) h fun t38 h =>
    J6 (.bool false) t38 h)
  (J6 (.bool true) .und h))
  (fun t34 t38 h => runD (pickD t34 (.bool true) t38) h fun t39 h =>
  condW t39
  (K (.ret (.bool false)) h)
  (joinW (fun (J7 : List AObj → Prop) =>
  promV [false] [(.int .i64 0)] h fun lv h => lamplighterref09_Check.L1 c J7 K (AV.norms h.length h lv) (normH h.length h) h.length (AV.norm h.length h t1))
  (fun h => K (.ret (.bool true)) h))))))))
def lamplighterref09_Turn.loops : Nat → LInfo
  | 2 => ⟨[], [], [], [(4, none), (2, some [13, 15]), (2, none), (6, some [17, 23])], []⟩
  | _ => ⟨[], [], [], [], []⟩
def lamplighterref09_Turn.H (c : Ctx) (t0 : AV) (t1 : AV) (t2 : AV) (h : List AObj) (K : AOut → List AObj → Prop) : Prop :=
  boxW T_api_Node t1 h fun t4 h =>
  runD (fitD T_api_Node (loadD h t4)) h fun t8 h =>
  callW c (.fn (.func 33) [] []) [t8] h (fun t9 h =>
  callW c (.fn (.func 80) [] []) [t0] h (fun t11 h =>
  runD (unD .not t11) h fun t12 h =>
  joinW (fun (J1 : AV → AV → List AObj → Prop) =>
  guardW t12 false
  (runD (unD .not t9) h fun t15 h =>
    J1 (.bool false) t15 h)
  (J1 (.bool true) .und h))
  (fun t13 t15 h => runD (pickD t13 (.bool true) t15) h fun t16 h =>
  joinW (fun (J2 : AV → AV → List AObj → Prop) =>
  guardW t16 false
  (runD (fieldAddrD T_api_Node t4 1) h fun t18 h =>
    runD (fitD T_int (loadD h t18)) h fun t19 h =>
    runD (binD T_int .rem t19 (.int .i64 2)) h fun t20 h =>
    runD (binD T_int .eql t20 (.int .i64 1)) h fun t21 h =>
    runD (binD T_bool .eql t21 t2) h fun t23 h =>
    J2 (.bool false) t23 h)
  (J2 (.bool true) .und h))
  (fun t17 t23 h => runD (pickD t17 (.bool true) t23) h fun t24 h =>
  condW t24
  (K (.ret (.sl true (.mics []))) h)
  (runD (fieldAddrD T_api_Node t4 1) h fun t25 h =>
  runD (fitD T_int (loadD h t25)) h fun t26 h =>
  runD (binD T_int .add t26 (.int .i64 1)) h fun t27 h =>
  runD (fieldAddrD T_api_Node t4 1) h fun t28 h =>
  runH (storeH T_int h t28 t27) h fun _ h =>
  runD (fieldAddrD T_api_Node t4 1) h fun t29 h =>
  runD (fitD T_int (loadD h t29)) h fun t30 h =>
  runD (binD T_int .eql t30 (.int .i64 1099511627777)) h fun t31 h =>
  joinW (fun (J3 : List AObj → Prop) =>
  condW t31
  (runD (fieldAddrD T_api_Node t4 1) h fun t32 h =>
    runH (storeH T_int h t32 (.int .i64 1)) h fun _ h =>
    J3 h)
  (J3 h))
  (fun h => runD (binD T_int .mul (.int .i64 16) t0) h fun t34 h =>
  runD (fitD T_api_Node (loadD h t4)) h fun t35 h =>
  callW c (.fn (.func 77) [] []) [t35] h (fun t36 h =>
  runD (buildD T_api_Micro [(0, (.int .i64 1)), (1, t34), (2, t36)]) h fun t37 h =>
  runD (buildSliceD T_sl_api_Micro 1 [(0, t37)] h.length) h fun t38 h =>
  K (.ret t38) h)
  (fun v h => K (.pan v) h))))))
  (fun v h => K (.pan v) h))
  (fun v h => K (.pan v) h)
def lamplighterref09_first.loops : Nat → LInfo
  | _ => ⟨[], [], [], [], []⟩
def lamplighterref09_first.H (c : Ctx) (t0 : AV) (h : List AObj) (K : AOut → List AObj → Prop) : Prop :=
  boxW T_api_Node t0 h fun t1 h =>
  runD (fieldAddrD T_api_Node t1 1) h fun t3 h =>
  runD (fitD T_int (loadD h t3)) h fun t4 h =>
  runD (binD T_int .mul (.int .i64 16) t4) h fun t5 h =>
  runD (binD T_int .add (.int .i64 1152921504606846976) t5) h fun t6 h =>
  runD (fieldAddrD T_api_Node t1 0) h fun t7 h =>
  runD (fitD T_int (loadD h t7)) h fun t8 h =>
  runD (binD T_int .add t6 t8) h fun t9 h =>
  K (.ret t9) h
def lamplighterref09_block.loops : Nat → LInfo
  | 1 => ⟨[], [], [], [(3, none), (2, some [5, 7])], []⟩
  | _ => ⟨[], [], [], [], []⟩
def lamplighterref09_block.H (c : Ctx) (t0 : AV) (h : List AObj) (K : AOut → List AObj → Prop) : Prop :=
  runD (binD T_int .geq t0 (.int .i64 0)) h fun t4 h =>
  joinW (fun (J1 : AV → AV → List AObj → Prop) =>
  guardW t4 true
  (runD (binD T_int .leq t0 (.int .i64 255)) h fun t7 h =>
    J1 (.bool true) t7 h)
  (J1 (.bool false) .und h))
  (fun t5 t7 h => runD (pickD t5 t7 (.bool false)) h fun t8 h =>
  K (.ret t8) h)
theorem lamplighterref09_Words.eq (F : List (FuncId × Contract)) (S : List (FuncId × Con)) (t0 : AV) (h : List AObj) (K : AOut → List AObj → Prop) : funW (ctx F S lamplighterref09_Words.loops) Try.f26 [t0] h K = lamplighterref09_Words.H (ctx F S lamplighterref09_Words.loops) t0 h K := by kernel_rfl
theorem lamplighterref09_Read.eq (F : List (FuncId × Contract)) (S : List (FuncId × Con)) (t0 t1 : AV) (h : List AObj) (K : AOut → List AObj → Prop) : funW (ctx F S lamplighterref09_Read.loops) Try.f28 [t0, t1] h K = lamplighterref09_Read.H (ctx F S lamplighterref09_Read.loops) t0 t1 h K := by kernel_rfl
theorem lamplighterref09_Next.eq (F : List (FuncId × Contract)) (S : List (FuncId × Con)) (t0 t1 : AV) (h : List AObj) (K : AOut → List AObj → Prop) : funW (ctx F S lamplighterref09_Next.loops) Try.f30 [t0, t1] h K = lamplighterref09_Next.H (ctx F S lamplighterref09_Next.loops) t0 t1 h K := by kernel_rfl
theorem lamplighterref09_Same.eq (F : List (FuncId × Contract)) (S : List (FuncId × Con)) (t0 t1 : AV) (h : List AObj) (K : AOut → List AObj → Prop) : funW (ctx F S lamplighterref09_Same.loops) Try.f31 [t0, t1] h K = lamplighterref09_Same.H (ctx F S lamplighterref09_Same.loops) t0 t1 h K := by kernel_rfl
theorem lamplighterref09_Check.eq (F : List (FuncId × Contract)) (S : List (FuncId × Con)) (t0 : AV) (h : List AObj) (K : AOut → List AObj → Prop) : funW (ctx F S lamplighterref09_Check.loops) Try.f33 [t0] h K = lamplighterref09_Check.H (ctx F S lamplighterref09_Check.loops) t0 h K := by kernel_rfl
theorem lamplighterref09_Turn.eq (F : List (FuncId × Contract)) (S : List (FuncId × Con)) (t0 t1 t2 : AV) (h : List AObj) (K : AOut → List AObj → Prop) : funW (ctx F S lamplighterref09_Turn.loops) Try.f35 [t0, t1, t2] h K = lamplighterref09_Turn.H (ctx F S lamplighterref09_Turn.loops) t0 t1 t2 h K := by kernel_rfl
theorem lamplighterref09_first.eq (F : List (FuncId × Contract)) (S : List (FuncId × Con)) (t0 : AV) (h : List AObj) (K : AOut → List AObj → Prop) : funW (ctx F S lamplighterref09_first.loops) Try.f77 [t0] h K = lamplighterref09_first.H (ctx F S lamplighterref09_first.loops) t0 h K := by kernel_rfl
theorem lamplighterref09_block.eq (F : List (FuncId × Contract)) (S : List (FuncId × Con)) (t0 : AV) (h : List AObj) (K : AOut → List AObj → Prop) : funW (ctx F S lamplighterref09_block.loops) Try.f80 [t0] h K = lamplighterref09_block.H (ctx F S lamplighterref09_block.loops) t0 h K := by kernel_rfl
theorem lamplighterref09_Words.at : Try.prog.funcs[26]? = some Try.f26 := by kernel_rfl
theorem lamplighterref09_Words.nm : (Try.f26.name == "runtime.NumGoroutine") = false := by kernel_rfl
theorem lamplighterref09_Words.bd : Try.f26.body.isNone = false := by kernel_rfl
theorem lamplighterref09_Read.at : Try.prog.funcs[28]? = some Try.f28 := by kernel_rfl
theorem lamplighterref09_Read.nm : (Try.f28.name == "runtime.NumGoroutine") = false := by kernel_rfl
theorem lamplighterref09_Read.bd : Try.f28.body.isNone = false := by kernel_rfl
theorem lamplighterref09_Next.at : Try.prog.funcs[30]? = some Try.f30 := by kernel_rfl
theorem lamplighterref09_Next.nm : (Try.f30.name == "runtime.NumGoroutine") = false := by kernel_rfl
theorem lamplighterref09_Next.bd : Try.f30.body.isNone = false := by kernel_rfl
theorem lamplighterref09_Same.at : Try.prog.funcs[31]? = some Try.f31 := by kernel_rfl
theorem lamplighterref09_Same.nm : (Try.f31.name == "runtime.NumGoroutine") = false := by kernel_rfl
theorem lamplighterref09_Same.bd : Try.f31.body.isNone = false := by kernel_rfl
theorem lamplighterref09_Check.at : Try.prog.funcs[33]? = some Try.f33 := by kernel_rfl
theorem lamplighterref09_Check.nm : (Try.f33.name == "runtime.NumGoroutine") = false := by kernel_rfl
theorem lamplighterref09_Check.bd : Try.f33.body.isNone = false := by kernel_rfl
theorem lamplighterref09_Turn.at : Try.prog.funcs[35]? = some Try.f35 := by kernel_rfl
theorem lamplighterref09_Turn.nm : (Try.f35.name == "runtime.NumGoroutine") = false := by kernel_rfl
theorem lamplighterref09_Turn.bd : Try.f35.body.isNone = false := by kernel_rfl
theorem lamplighterref09_first.at : Try.prog.funcs[77]? = some Try.f77 := by kernel_rfl
theorem lamplighterref09_first.nm : (Try.f77.name == "runtime.NumGoroutine") = false := by kernel_rfl
theorem lamplighterref09_first.bd : Try.f77.body.isNone = false := by kernel_rfl
theorem lamplighterref09_block.at : Try.prog.funcs[80]? = some Try.f80 := by kernel_rfl
theorem lamplighterref09_block.nm : (Try.f80.name == "runtime.NumGoroutine") = false := by kernel_rfl
theorem lamplighterref09_block.bd : Try.f80.body.isNone = false := by kernel_rfl
end Lam
namespace Lam
open Go Go.Proofs
set_option linter.unusedVariables false
set_option linter.unnecessarySimpa false
set_option linter.unusedSimpArgs false
def lamplighterref09_Same.C : Contract
  | [.agg [.int .i64 a, .int .i64 b, .int .i64 c, .int .i64 d, .sl false (.ints .i64 l)], .agg [.int .i64 a', .int .i64 b', .int .i64 c', .int .i64 d', .sl false (.ints .i64 l')]] => some (false, pD (roomy l.length) (.bool (decide ((⟨a, b, c, d, l⟩ : Nd) = ⟨a', b', c', d', l'⟩))))
  | _ => none
set_option maxRecDepth 20000 in
theorem lamplighterref09_Same.spec : FSpec Try.prog 31 lamplighterref09_Same.C := by
  refine FSpec.of (ctx_ok (F := [(22, lamplighterref02_Numbers.C)]) (S := []) (by simpa using lamplighterref02_Numbers.spec) (by simp) lamplighterref09_Same.loops) lamplighterref09_Same.at lamplighterref09_Same.nm lamplighterref09_Same.bd ?_
  intro vs b S v news e hS
  unfold lamplighterref09_Same.C at e
  split at e
  rotate_left
  · cases e
  cases e
  rw [lamplighterref09_Same.eq]
  unfold lamplighterref09_Same.H
  simp (maxSteps := 4000000) only [go_sem, Nat.reduceEqDiff, Nat.reduceLT, Nat.reduceAdd, Nat.reduceSub, Nat.reduceLeDiff, List.reduceReplicate, Int.reduceToNat, lamplighterref02_Numbers.C]
  rename_i a b c d l a' b' c' d' l'
  refine ⟨fun _ => hS, ?_⟩
  have : decide ((⟨a, b, c, d, l⟩ : Nd) = ⟨a', b', c', d', l'⟩) = (decide (a = a') && decide (b = b') && decide (c = c') && decide (d = d') && decide (l = l')) := by
    rw [Bool.eq_iff_iff]
    simp only [decide_eq_true_eq, Bool.and_eq_true, Nd.mk.injEq, and_assoc]
  rw [this]; exact post_val rfl rfl
end Lam
namespace Lam
open Go Go.Proofs
set_option linter.unusedVariables false
def lamplighterlaw09_awake.loops : Nat → LInfo
  | 8 => ⟨[], [], [], [(4, none), (3, some [44, 47]), (2, none), (3, some [49, 52])], []⟩
  | 10 => ⟨[], [], [], [(3, none), (4, some [56, 60]), (2, none), (4, some [62, 66]), (2, none), (4, some [68, 72]), (2, none), (3, some [74, 77]), (2, none), (2, some [79, 81]), (2, none), (2, some [83, 85]), (2, none), (2, some [87, 89]), (2, none), (2, some [91, 93]), (2, none), (5, some [95, 100]), (2, none), (5, some [102, 107]), (2, none), (4, some [109, 113]), (2, none), (2, some [115, 117])], []⟩
  | _ => ⟨[], [], [], [], []⟩
def lamplighterlaw09_awake.H (c : Ctx) (h : List AObj) (K : AOut → List AObj → Prop) : Prop :=
  runD (buildSliceD T_sl_int 2 [(0, (.int .i64 7)), (1, (.int .i64 9))] h.length) h fun t13 h =>
  runD (buildD T_api_Node [(1, (.int .i64 1)), (2, (.int .i64 5)), (4, t13)]) h fun t14 h =>
  allocW T_api_Node h fun t1 h =>
  runH (storeH T_api_Node h t1 t14) h fun _ h =>
  runD (fitD T_api_Node (loadD h t1)) h fun t16 h =>
  callW c (.fn (.func 25) [] []) [t16] h (fun t17 h =>
  runD (extractD t17 0) h fun t18 h =>
  runD (extractD t17 1) h fun t19 h =>
  callW c (.fn (.func 27) [] []) [t18, (.int .i64 0)] h (fun t22 h =>
  runD (extractD t22 0) h fun t23 h =>
  runD (extractD t22 1) h fun t24 h =>
  allocW T_api_Node h fun t4 h =>
  runH (storeH T_api_Node h t4 t23) h fun _ h =>
  callW c (.fn (.func 27) [] []) [t18, (.int .i64 1)] h (fun t27 h =>
  runD (extractD t27 0) h fun t28 h =>
  runD (extractD t27 1) h fun t29 h =>
  allocW T_api_Node h fun t6 h =>
  runH (storeH T_api_Node h t6 t28) h fun _ h =>
  runD (makeSliceD T_sl_int (.int .i64 16) (.int .i64 16) h.length) h fun t31 h =>
  callW c (.fn (.func 27) [] []) [t31, (.int .i64 0)] h (fun t32 h =>
  runD (extractD t32 0) h fun t33 h =>
  runD (extractD t32 1) h fun t34 h =>
  allocW T_api_Node h fun t8 h =>
  runH (storeH T_api_Node h t8 t33) h fun _ h =>
  callW c (.fn (.func 29) [] []) [(.int .i64 2), (.int .i64 3)] h (fun t36 h =>
  runD (extractD t36 0) h fun t37 h =>
  runD (extractD t36 1) h fun t38 h =>
  runD (fitD T_api_Node (loadD h t1)) h fun t39 h =>
  callW c (.fn (.func 34) [] []) [(.int .i64 2), t39, (.bool false)] h (fun t40 h =>
  runD (lenD T_sl_int h t18) h fun t42 h =>
  runD (binD T_int .neq t42 (.int .i64 16)) h fun t43 h =>
  joinW (fun (J1 : AV → AV → List AObj → Prop) =>
  guardW t43 false
  (runD (lenD T_sl_api_Micro h t37) h fun t46 h =>
    runD (binD T_int .neq t46 (.int .i64 2)) h fun t47 h =>
    J1 (.bool false) t47 h)
  (J1 (.bool true) .und h))
  (fun t44 t47 h => runD (pickD t44 (.bool true) t47) h fun t48 h =>
  joinW (fun (J2 : AV → AV → List AObj → Prop) =>
  guardW t48 false
  (runD (lenD T_sl_api_Micro h t40) h fun t51 h =>
    runD (binD T_int .neq t51 (.int .i64 1)) h fun t52 h =>
    J2 (.bool false) t52 h)
  (J2 (.bool true) .und h))
  (fun t49 t52 h => runD (pickD t49 (.bool true) t52) h fun t53 h =>
  condW t53
  (K (.ret (.bool false)) h)
  (runD (binD T_api_Errno .eql t19 (.int .i64 0)) h fun t55 h =>
  joinW (fun (J3 : AV → AV → List AObj → Prop) =>
  guardW t55 true
  (runD (indexAddrD T_sl_int h t18 (.int .i64 0)) h fun t58 h =>
    runD (fitD T_int (loadD h t58)) h fun t59 h =>
    runD (binD T_int .eql t59 (.int .i64 1152921504606846992)) h fun t60 h =>
    J3 (.bool true) t60 h)
  (J3 (.bool false) .und h))
  (fun t56 t60 h => runD (pickD t56 t60 (.bool false)) h fun t61 h =>
  joinW (fun (J4 : AV → AV → List AObj → Prop) =>
  guardW t61 true
  (runD (indexAddrD T_sl_int h t18 (.int .i64 1)) h fun t64 h =>
    runD (fitD T_int (loadD h t64)) h fun t65 h =>
    runD (binD T_int .eql t65 (.int .i64 5)) h fun t66 h =>
    J4 (.bool true) t66 h)
  (J4 (.bool false) .und h))
  (fun t62 t66 h => runD (pickD t62 t66 (.bool false)) h fun t67 h =>
  joinW (fun (J5 : AV → AV → List AObj → Prop) =>
  guardW t67 true
  (runD (indexAddrD T_sl_int h t18 (.int .i64 3)) h fun t70 h =>
    runD (fitD T_int (loadD h t70)) h fun t71 h =>
    runD (binD T_int .eql t71 (.int .i64 7)) h fun t72 h =>
    J5 (.bool true) t72 h)
  (J5 (.bool false) .und h))
  (fun t68 t72 h => runD (pickD t68 t72 (.bool false)) h fun t73 h =>
  joinW (fun (J6 : AV → AV → List AObj → Prop) =>
  guardW t73 true
  (runD (fitD T_api_Node (loadD h t4)) h fun t75 h =>
    runD (fitD T_api_Node (loadD h t1)) h fun t76 h =>
    callW c (.fn (.func 31) [] []) [t75, t76] h (fun t77 h =>
    J6 (.bool true) t77 h)
    (fun v h => K (.pan v) h))
  (J6 (.bool false) .und h))
  (fun t74 t77 h => runD (pickD t74 t77 (.bool false)) h fun t78 h =>
  joinW (fun (J7 : AV → AV → List AObj → Prop) =>
  guardW t78 true
  (runD (binD T_api_Errno .eql t24 (.int .i64 0)) h fun t81 h =>
    J7 (.bool true) t81 h)
  (J7 (.bool false) .und h))
  (fun t79 t81 h => runD (pickD t79 t81 (.bool false)) h fun t82 h =>
  joinW (fun (J8 : AV → AV → List AObj → Prop) =>
  guardW t82 true
  (runD (binD T_api_Errno .eql t29 (.int .i64 1)) h fun t85 h =>
    J8 (.bool true) t85 h)
  (J8 (.bool false) .und h))
  (fun t83 t85 h => runD (pickD t83 t85 (.bool false)) h fun t86 h =>
  joinW (fun (J9 : AV → AV → List AObj → Prop) =>
  guardW t86 true
  (runD (binD T_api_Errno .eql t34 (.int .i64 90)) h fun t89 h =>
    J9 (.bool true) t89 h)
  (J9 (.bool false) .und h))
  (fun t87 t89 h => runD (pickD t87 t89 (.bool false)) h fun t90 h =>
  joinW (fun (J10 : AV → AV → List AObj → Prop) =>
  guardW t90 true
  (runD (binD T_api_Errno .eql t38 (.int .i64 0)) h fun t93 h =>
    J10 (.bool true) t93 h)
  (J10 (.bool false) .und h))
  (fun t91 t93 h => runD (pickD t91 t93 (.bool false)) h fun t94 h =>
  joinW (fun (J11 : AV → AV → List AObj → Prop) =>
  guardW t94 true
  (runD (indexAddrD T_sl_api_Micro h t37 (.int .i64 0)) h fun t97 h =>
    runD (fitD T_api_Micro (loadD h t97)) h fun t98 h =>
    runD (buildD T_api_Micro [(0, (.int .i64 1)), (1, (.int .i64 33)), (2, (.int .i64 3))]) h fun t99 h =>
    runD (binD T_api_Micro .eql t98 t99) h fun t100 h =>
    J11 (.bool true) t100 h)
  (J11 (.bool false) .und h))
  (fun t95 t100 h => runD (pickD t95 t100 (.bool false)) h fun t101 h =>
  joinW (fun (J12 : AV → AV → List AObj → Prop) =>
  guardW t101 true
  (runD (indexAddrD T_sl_api_Micro h t40 (.int .i64 0)) h fun t104 h =>
    runD (fieldAddrD T_api_Micro t104 2) h fun t105 h =>
    runD (fitD T_int (loadD h t105)) h fun t106 h =>
    runD (binD T_int .eql t106 (.int .i64 1152921504606847008)) h fun t107 h =>
    J12 (.bool true) t107 h)
  (J12 (.bool false) .und h))
  (fun t102 t107 h => runD (pickD t102 t107 (.bool false)) h fun t108 h =>
  joinW (fun (J13 : AV → AV → List AObj → Prop) =>
  guardW t108 true
  (runD (fitD T_api_Node (loadD h t1)) h fun t110 h =>
    callW c (.fn (.func 34) [] []) [(.int .i64 2), t110, (.bool true)] h (fun t111 h =>
    runD (lenD T_sl_api_Micro h t111) h fun t112 h =>
    runD (binD T_int .eql t112 (.int .i64 0)) h fun t113 h =>
    J13 (.bool true) t113 h)
    (fun v h => K (.pan v) h))
  (J13 (.bool false) .und h))
  (fun t109 t113 h => runD (pickD t109 t113 (.bool false)) h fun t114 h =>
  joinW (fun (J14 : AV → AV → List AObj → Prop) =>
  guardW t114 true
  (runD (fitD T_api_Node (loadD h t1)) h fun t116 h =>
    callW c (.fn (.func 32) [] []) [t116] h (fun t117 h =>
    J14 (.bool true) t117 h)
    (fun v h => K (.pan v) h))
  (J14 (.bool false) .und h))
  (fun t115 t117 h => runD (pickD t115 t117 (.bool false)) h fun t118 h =>
  runD (pickD t118 (.bool true) (.bool false)) h fun t120 h =>
  runD (pickD t120 (.bool true) (.bool false)) h fun t122 h =>
  runD (pickD t122 (.bool true) (.bool false)) h fun t124 h =>
  K (.ret t124) h))))))))))))))))
  (fun v h => K (.pan v) h))
  (fun v h => K (.pan v) h))
  (fun v h => K (.pan v) h))
  (fun v h => K (.pan v) h))
  (fun v h => K (.pan v) h))
  (fun v h => K (.pan v) h)
theorem lamplighterlaw09_awake.eq (F : List (FuncId × Contract)) (S : List (FuncId × Con)) (h : List AObj) (K : AOut → List AObj → Prop) : funW (ctx F S lamplighterlaw09_awake.loops) Try.f24 [] h K = lamplighterlaw09_awake.H (ctx F S lamplighterlaw09_awake.loops)  h K := by kernel_rfl
theorem lamplighterlaw09_awake.at : Try.prog.funcs[24]? = some Try.f24 := by kernel_rfl
theorem lamplighterlaw09_awake.nm : (Try.f24.name == "runtime.NumGoroutine") = false := by kernel_rfl
theorem lamplighterlaw09_awake.bd : Try.f24.body.isNone = false := by kernel_rfl
end Lam
namespace Lam
open Go Go.Proofs
set_option linter.unusedVariables false
set_option linter.unnecessarySimpa false
set_option linter.unusedSimpArgs false
theorem aw9_0 : wordsV ⟨0, 1, 5, 0, [7, 9]⟩ = .tup [.sl false (.ints .i64 [1152921504606846992, 5, 0, 7, 9, 0, 0, 0, 0, 0, 0, 0, 0, 0, 0, 0]), .int .i64 0] := by
  unfold wordsV; rw [if_pos (by decide +kernel), show wordsNd _ = [1152921504606846992, 5, 0, 7, 9, 0, 0, 0, 0, 0, 0, 0, 0, 0, 0, 0] from by decide +kernel]
theorem aw9_1 : readV [1152921504606846992, 5, 0, 7, 9, 0, 0, 0, 0, 0, 0, 0, 0, 0, 0, 0] 0 = .tup [Nd.V ⟨0, 1, 5, 0, [7, 9]⟩, .int .i64 0] := by
  unfold readV; rw [if_neg (by decide +kernel), show readN _ = some ⟨0, 1, 5, 0, [7, 9]⟩ from by decide +kernel]
theorem aw9_2 : readV [1152921504606846992, 5, 0, 7, 9, 0, 0, 0, 0, 0, 0, 0, 0, 0, 0, 0] 1 = .tup [zeroNd.V, .int .i64 1] := by
  unfold readV; rw [if_pos (by decide +kernel)]
theorem aw9_3 : readV [0, 0, 0, 0, 0, 0, 0, 0, 0, 0, 0, 0, 0, 0, 0, 0] 0 = .tup [zeroNd.V, .int .i64 90] := by
  unfold readV; rw [if_neg (by decide +kernel), show readN _ = none from by decide +kernel]
theorem aw9_4 : nextV 2 3 = .tup [.sl false (.mics [⟨1, 33, 3⟩, ⟨2, 4, 0⟩]), .int .i64 0] := by
  unfold nextV; rw [if_pos (by decide +kernel)]; rfl
theorem aw9_5 : turnS 2 ⟨0, 1, 5, 0, [7, 9]⟩ false = [⟨1, 32, 1152921504606847008⟩] := by decide +kernel
theorem aw9_6 : turnS 2 ⟨0, 1, 5, 0, [7, 9]⟩ true = [] := by decide +kernel
theorem aw9_7 : ndB ⟨0, 1, 5, 0, [7, 9]⟩ = true := by decide +kernel
theorem aw9_8 : (zeroNd : Nd).V = .agg [.int .i64 0, .int .i64 0, .int .i64 0, .int .i64 0, .sl false (.ints .i64 [])] := rfl
def lamplighterlaw09_awake.C : Contract
  | [] => some (false, pD True (.bool true))
  | _ => none
set_option maxRecDepth 20000 in
theorem lamplighterlaw09_awake.spec : FSpec Try.prog 24 lamplighterlaw09_awake.C := by
  refine FSpec.of (ctx_ok (F := [(25, node_Words.C), (27, node_Read.C), (29, node_Next.C), (34, node_Turn.C), (32, node_Check.C), (31, lamplighterref09_Same.C)]) (S := []) (by simpa using ⟨node_Words.spec, node_Read.spec, node_Next.spec, node_Turn.spec, node_Check.spec, lamplighterref09_Same.spec⟩) (by simp) lamplighterlaw09_awake.loops) lamplighterlaw09_awake.at lamplighterlaw09_awake.nm lamplighterlaw09_awake.bd ?_
  intro vs b S v news e hS
  unfold lamplighterlaw09_awake.C at e
  split at e
  rotate_left
  · cases e
  cases e
  rw [lamplighterlaw09_awake.eq]
  unfold lamplighterlaw09_awake.H
  simp (maxSteps := 4000000) only [go_sem, Nat.reduceEqDiff, Nat.reduceLT, Nat.reduceAdd, Nat.reduceSub, Nat.reduceLeDiff, List.reduceReplicate, Int.reduceToNat, node_Words.C, node_Read.C, node_Next.C, node_Turn.C, node_Check.C, lamplighterref09_Same.C, aw9_0, aw9_1, aw9_2, aw9_3, aw9_4, aw9_5, aw9_6, aw9_7, aw9_8]
  and_intros
  all_goals first | exact post_val rfl rfl | (simp [roomy]; done)
end Lam
namespace Lam
open Go Go.Proofs
set_option linter.unusedVariables false
set_option linter.unnecessarySimpa false
set_option linter.unusedSimpArgs false
theorem wordsV_ok {n : Nd} (h : ndB n = true) : wordsV n = .tup [.sl false (.ints .i64 (wordsNd n)), .int .i64 0] := by unfold wordsV; rw [if_pos h]
theorem wordsV_no {n : Nd} (h : ndB n = false) : wordsV n = .tup [.sl false (.ints .i64 []), .int .i64 90] := by unfold wordsV; rw [h]; rfl
theorem wordsV_ex (n : Nd) : ∃ l e, wordsV n = .tup [.sl false (.ints .i64 l), .int .i64 e] ∧ l.length ≤ 16 := by
  cases h : ndB n with
  | true => exact ⟨_, _, wordsV_ok h, by rw [words_len (nd_iff.1 h)]; exact Nat.le_refl _⟩
  | false => exact ⟨_, _, wordsV_no h, Nat.zero_le _⟩
theorem readV_cases (words : List Int) (k : Int) : (∃ e, e ≠ 0 ∧ readV words k = .tup [zeroNd.V, .int .i64 e]) ∨ (∃ y : Nd, y.ok ∧ 0 ≤ k ∧ 16 * k + 16 ≤ (words.length : Int) ∧ wordsNd y = blockAt words k.toNat ∧ readV words k = .tup [y.V, .int .i64 0]) := by
  unfold readV
  by_cases h : (decide (k < 0) || decide (((words.length / 16 : Nat) : Int) ≤ k)) = true
  · rw [if_pos h]; exact .inl ⟨1, by decide, rfl⟩
  · rw [if_neg h]
    simp only [Bool.or_eq_true, decide_eq_true_eq, not_or] at h
    cases hr : readN (blockAt words k.toNat) with
    | none => exact .inl ⟨90, by decide, rfl⟩
    | some y =>
      obtain ⟨h1, h2⟩ := readN_some hr
      exact .inr ⟨y, h1, by omega, by omega, h2, rfl⟩
theorem readV_words {n : Nd} (h : n.ok) : readV (wordsNd n) 0 = .tup [n.V, .int .i64 0] := by
  unfold readV
  have hl := words_len h
  rw [hl, if_neg (by decide)]
  have : blockAt (wordsNd n) (0 : Int).toNat = wordsNd n := by
    unfold blockAt; rw [show 16 * (0 : Int).toNat = 0 from rfl, List.drop_zero]; exact List.take_of_length_le (by omega)
  rw [this, readN_ok h]
theorem readV_nil : readV [] 0 = .tup [zeroNd.V, .int .i64 1] := rfl
theorem wordsV_zero : wordsV ⟨zeroNd.level, zeroNd.turn, zeroNd.next, zeroNd.low, zeroNd.slots⟩ = .tup [.sl false (.ints .i64 (wordsNd zeroNd)), .int .i64 0] := wordsV_ok (by decide)
end Lam
namespace Lam
open Go Go.Proofs
set_option linter.unusedVariables false
set_option linter.unnecessarySimpa false
set_option linter.unusedSimpArgs false
def lamplighterref09_block.C : Contract
  | [.int .i64 n] => some (false, pD True (.bool (blockB n)))
  | _ => none
set_option maxRecDepth 20000 in
theorem lamplighterref09_block.spec : FSpec Try.prog 80 lamplighterref09_block.C := by
  refine FSpec.of (ctx_ok (F := []) (S := []) (by simp) (by simp) lamplighterref09_block.loops) lamplighterref09_block.at lamplighterref09_block.nm lamplighterref09_block.bd ?_
  intro vs b S v news e hS
  unfold lamplighterref09_block.C at e
  split at e
  rotate_left
  · cases e
  cases e
  rw [lamplighterref09_block.eq]
  unfold lamplighterref09_block.H
  simp (maxSteps := 4000000) only [go_sem, Nat.reduceEqDiff, Nat.reduceLT, Nat.reduceAdd, Nat.reduceSub, Nat.reduceLeDiff, List.reduceReplicate, Int.reduceToNat]
  rename_i n
  have : decide (n ≤ 255) = decide (n < 256) := decide_eq_decide.2 (by omega)
  rw [this]
  exact post_val rfl rfl
def lamplighterref09_Check.C : Contract
  | [.agg [.int .i64 a, .int .i64 b, .int .i64 c, .int .i64 d, .sl false (.ints .i64 l)]] => some (false, pD True (.bool (ndB ⟨a, b, c, d, l⟩)))
  | _ => none
set_option maxRecDepth 20000 in
theorem lamplighterref09_Check.spec : FSpec Try.prog 33 lamplighterref09_Check.C := by
  refine FSpec.of (ctx_ok (F := [(80, lamplighterref09_block.C)]) (S := []) (by simpa using lamplighterref09_block.spec) (by simp) lamplighterref09_Check.loops) lamplighterref09_Check.at lamplighterref09_Check.nm lamplighterref09_Check.bd ?_
  intro vs b S v news e hS
  unfold lamplighterref09_Check.C at e
  split at e
  rotate_left
  · cases e
  cases e
  rw [lamplighterref09_Check.eq]
  unfold lamplighterref09_Check.H
  simp (maxSteps := 4000000) only [go_sem, Nat.reduceEqDiff, Nat.reduceLT, Nat.reduceAdd, Nat.reduceSub, Nat.reduceLeDiff, List.reduceReplicate, Int.reduceToNat, lamplighterref09_block.C]
  rename_i a b c d l
  have eg : (decide (a < 0) || decide (9 < a) || decide (b < 0) || decide (1099511627776 < b) || !blockB c || !blockB d || decide (13 < (l.length : Int))) = !(decide (0 ≤ a) && decide (a ≤ 9) && decide (0 ≤ b) && decide (b ≤ 1099511627776) && blockB c && blockB d && decide (l.length ≤ 13)) := by
    rw [Bool.eq_iff_iff]
    cases blockB c <;> cases blockB d <;> simp <;> omega
  have en : ndB ⟨a, b, c, d, l⟩ = ((decide (0 ≤ a) && decide (a ≤ 9) && decide (0 ≤ b) && decide (b ≤ 1099511627776) && blockB c && blockB d && decide (l.length ≤ 13)) && !l.any noBlock) := rfl
  rw [eg, en]
  cases h : (decide (0 ≤ a) && decide (a ≤ 9) && decide (0 ≤ b) && decide (b ≤ 1099511627776) && blockB c && blockB d && decide (l.length ≤ 13)) with
  | false => exact ⟨fun _ => post_val rfl rfl, fun h => (by cases h)⟩
  | true =>
    refine ⟨fun h => (by cases h), fun _ => ?_⟩
    have hl : l.length ≤ 13 := by simp only [Bool.and_eq_true, decide_eq_true_eq] at h; exact h.2
    rw [joinW_eq]
    unfold lamplighterref09_Check.L1
    refine loop1 (σ := Nat) (fun k => .int .i64 k) (fun k => [.box (.agg [.int .i64 a, .int .i64 b, .int .i64 c, .int .i64 d, .sl false (.ints .i64 l)])]) (fun k => l.length - k) (fun k => k ≤ l.length ∧ ∀ x ∈ l.take k, noBlock x = false) 0 rfl rfl ⟨Nat.zero_le _, fun x hx => by cases hx⟩ ?_
    rintro I back k ⟨hk, hall⟩
    simp only [lamplighterref09_block.C, go_sem, Nat.reduceEqDiff, Nat.reduceLT, Nat.reduceAdd, Nat.reduceSub, Nat.reduceLeDiff, List.reduceReplicate, Int.reduceToNat]
    have hnb : ∀ x, (!blockB x || decide (x = 0)) = noBlock x := fun x => by unfold noBlock blockB; rw [Bool.or_comm]
    rw [hnb]
    refine ⟨fun hlt => ⟨by omega, fun _ => by omega, fun hb => ?_, fun hb => ?_⟩, fun hge => ?_⟩
    · have : l.any noBlock = true := List.any_eq_true.2 ⟨_, getD_mem l k 0 (by omega), hb⟩
      rw [this]; exact post_val rfl rfl
    · refine back (k + 1) (by omega) (by rw [wnext (by omega)]) rfl ⟨by omega, fun x hx => ?_⟩
      rw [take_next l k 0 (by omega)] at hx
      rcases List.mem_append.1 hx with hx | hx
      · exact hall x hx
      · rw [List.mem_singleton] at hx; subst hx; exact hb
    · obtain rfl : k = l.length := by omega
      rw [List.take_length] at hall
      have : l.any noBlock = false := List.any_eq_false.2 fun x hx => by rw [hall x hx]; decide
      rw [this]; exact post_val rfl rfl
def lamplighterref09_first.C : Contract
  | [.agg [.int .i64 a, .int .i64 b, .int .i64 c, .int .i64 d, .sl false (.ints .i64 l)]] => some (false, pD (0 ≤ a ∧ a ≤ 9 ∧ 0 ≤ b ∧ b ≤ 1099511627776) (.int .i64 (firstN ⟨a, b, c, d, l⟩)))
  | _ => none
set_option maxRecDepth 20000 in
theorem lamplighterref09_first.spec : FSpec Try.prog 77 lamplighterref09_first.C := by
  refine FSpec.of (ctx_ok (F := []) (S := []) (by simp) (by simp) lamplighterref09_first.loops) lamplighterref09_first.at lamplighterref09_first.nm lamplighterref09_first.bd ?_
  intro vs b S v news e hS
  unfold lamplighterref09_first.C at e
  split at e
  rotate_left
  · cases e
  cases e
  rw [lamplighterref09_first.eq]
  unfold lamplighterref09_first.H
  simp (maxSteps := 4000000) only [go_sem, Nat.reduceEqDiff, Nat.reduceLT, Nat.reduceAdd, Nat.reduceSub, Nat.reduceLeDiff, List.reduceReplicate, Int.reduceToNat]
  rename_i a b c d l
  have : IntKind.i64.wrap (IntKind.i64.wrap (1152921504606846976 + IntKind.i64.wrap (16 * b)) + a) = firstN ⟨a, b, c, d, l⟩ := by
    obtain ⟨h1, h2, h3, h4⟩ := hS
    rw [w64 (n := 16 * b) (by omega) (by omega), w64 (n := 1152921504606846976 + 16 * b) (by omega) (by omega), w64 (by omega) (by omega)]; rfl
  rw [this]; exact post_val rfl rfl
def lamplighterref09_Words.C : Contract
  | [.agg [.int .i64 a, .int .i64 b, .int .i64 c, .int .i64 d, .sl false (.ints .i64 l)]] => some (false, pD True (wordsV ⟨a, b, c, d, l⟩))
  | _ => none
set_option maxRecDepth 20000 in
theorem lamplighterref09_Words.spec : FSpec Try.prog 26 lamplighterref09_Words.C := by
  refine FSpec.of (ctx_ok (F := [(33, lamplighterref09_Check.C), (77, lamplighterref09_first.C)]) (S := []) (by simpa using ⟨lamplighterref09_Check.spec, lamplighterref09_first.spec⟩) (by simp) lamplighterref09_Words.loops) lamplighterref09_Words.at lamplighterref09_Words.nm lamplighterref09_Words.bd ?_
  intro vs b S v news e hS
  unfold lamplighterref09_Words.C at e
  split at e
  rotate_left
  · cases e
  cases e
  rw [lamplighterref09_Words.eq]
  unfold lamplighterref09_Words.H
  simp (maxSteps := 4000000) only [go_sem, Nat.reduceEqDiff, Nat.reduceLT, Nat.reduceAdd, Nat.reduceSub, Nat.reduceLeDiff, List.reduceReplicate, Int.reduceToNat, lamplighterref09_Check.C, lamplighterref09_first.C]
  rename_i a b c d l
  refine ⟨fun h => ?_, fun h => ?_⟩
  · rw [wordsV_no h]; exact post_val rfl rfl
  · have hok := nd_iff.1 h
    have q7 := hok.2.2.2.2.2.2.1
    simp only at q7
    rw [wordsV_ok h]
    refine ⟨⟨hok.1, hok.2.1, hok.2.2.1, hok.2.2.2.1⟩, by unfold roomy; omega, ?_⟩
    rw [joinW_eq]
    unfold lamplighterref09_Words.L1
    refine loop1 (σ := Nat) (fun k => .sref false 1 (1 + k) 0 (l.length + 3 + k)) (fun k => [.box (.agg [.int .i64 a, .int .i64 b, .int .i64 c, .int .i64 d, .sl false (.ints .i64 l)]), .row .own (1 + k) (.ints .i64 (firstN ⟨a, b, c, d, l⟩ :: c :: d :: (l ++ List.replicate k 0)))]) (fun k => 13 - l.length - k) (fun k => l.length + k ≤ 13) 0 ?_ ?_ q7 ?_
    · rfl
    · simp
    intro I back k hk
    simp only [go_sem, Nat.reduceEqDiff, Nat.reduceLT, Nat.reduceAdd, Nat.reduceSub, Nat.reduceLeDiff, List.reduceReplicate, Int.reduceToNat]
    have hlk : (l ++ List.replicate k 0).length = l.length + k := by simp
    have hrep : List.replicate k (0 : Int) ++ [0] = List.replicate (k + 1) 0 := List.replicate_succ'.symm
    have hlk1 : (l ++ List.replicate (k + 1) 0).length = l.length + (k + 1) := by simp
    rw [hlk, hrep, hlk1]
    refine ⟨fun hlt => ⟨⟨by omega, by unfold roomy; omega⟩, ?_⟩, fun hge => ?_⟩
    · refine back (k + 1) (by omega) ?_ rfl (by omega)
      rw [show l.length + (k + 1) + 1 + 1 + 1 = l.length + 3 + (k + 1) from by omega, Nat.add_assoc 1 k 1]
    · obtain rfl : k = 13 - l.length := by omega
      refine post_val ?_ rfl
      simp only [go_sem, Nat.reduceEqDiff, Nat.reduceLT, Nat.reduceAdd, Nat.reduceSub, Nat.reduceLeDiff, List.reduceReplicate, Int.reduceToNat]
      unfold wordsNd
      simp only
      rw [take_len]
      simp; omega
def upNZ (l : List Int) : List Int := l.takeWhile fun x => !decide (x = 0)
def decR (w : List Int) : Nd := ⟨(w.getD 0 0 - 1152921504606846976) % 16, (w.getD 0 0 - 1152921504606846976) / 16, w.getD 1 0, w.getD 2 0, upNZ (w.drop 3)⟩
theorem decR_words {n : Nd} (h : n.ok) : decR (wordsNd n) = n := by
  have hd := decN_words h
  unfold decN at hd
  unfold decR
  have : upNZ ((wordsNd n).drop 3) = upTo ((wordsNd n).drop 3) := by
    rw [upTo_words h]
    show upNZ (n.slots ++ List.replicate _ 0) = _
    have hp := h.2.2.2.2.2.2.2
    generalize 13 - n.slots.length = m
    generalize n.slots = l at *
    clear hd h
    unfold upNZ
    induction l with
    | nil => cases m with
      | zero => rfl
      | succ m => rw [List.nil_append, List.replicate_succ, List.takeWhile_cons]; rfl
    | cons a r ih =>
      have ha := hp a (by simp)
      rw [List.cons_append, List.takeWhile_cons, decide_eq_false (show ¬ a = 0 by omega), ih fun x hx => hp x (by simp [hx])]; rfl
  rw [this]; exact hd
theorem readR_eq (w : List Int) : readBy decR w = readN w := readBy_eq (fun n h => decR_words h) (fun n h => decN_words h) w
theorem readN_small {w : List Int} (h : w.getD 0 0 < 1152921504606846976) : readN w = none := by
  cases e : readN w with
  | none => rfl
  | some n =>
    obtain ⟨h1, rfl⟩ := readN_some e
    have : (wordsNd n).getD 0 0 = 1152921504606846976 + 16 * n.turn + n.level := rfl
    have := h1.1; have := h1.2.2.1
    omega
theorem upNZ_at {l : List Int} {k : Nat} (hk : k ≤ l.length) (h : ∀ i, i < k → l.getD i 0 ≠ 0) (he : k = l.length ∨ l.getD k 0 = 0) : upNZ l = l.take k := by
  unfold upNZ
  induction l generalizing k with
  | nil => simp
  | cons a r ih =>
    cases k with
    | zero =>
      have : a = 0 := by rcases he with h | h; cases h; exact h
      rw [List.takeWhile_cons, this]; rfl
    | succ k =>
      have h0 := h 0 (by omega)
      have h0 : a ≠ 0 := h0
      rw [List.takeWhile_cons, decide_eq_false h0, List.take_succ_cons, ih (k := k) (by simpa using hk) (fun i hi => h (i + 1) (by omega)) (by rcases he with h | h; left; simpa using h; right; exact h)]
      rfl
def lamplighterref09_Read.C : Contract
  | [.sl _ (.ints .i64 l), .int .i64 k] => some (false, pD (l.length ≤ 65536 ∧ i64s l) (readV l k))
  | _ => none
set_option maxRecDepth 20000 in
theorem lamplighterref09_Read.spec : FSpec Try.prog 28 lamplighterref09_Read.C := by
  refine FSpec.of (ctx_ok (F := [(26, lamplighterref09_Words.C), (22, lamplighterref02_Numbers.C)]) (S := []) (by simpa using ⟨lamplighterref09_Words.spec, lamplighterref02_Numbers.spec⟩) (by simp) lamplighterref09_Read.loops) lamplighterref09_Read.at lamplighterref09_Read.nm lamplighterref09_Read.bd ?_
  intro vs b S v news e hS
  unfold lamplighterref09_Read.C at e
  split at e
  rotate_left
  · cases e
  cases e
  rw [lamplighterref09_Read.eq]
  unfold lamplighterref09_Read.H
  simp (maxSteps := 4000000) only [go_sem, Nat.reduceEqDiff, Nat.reduceLT, Nat.reduceAdd, Nat.reduceSub, Nat.reduceLeDiff, List.reduceReplicate, Int.reduceToNat, lamplighterref09_Words.C, lamplighterref02_Numbers.C]
  rename_i l k
  obtain ⟨hS, hi64⟩ := hS
  have eg : (decide (k < 0) || decide (4096 ≤ k) || decide ((l.length : Int) < IntKind.i64.wrap (IntKind.i64.wrap (16 * k) + 16))) = (decide (k < 0) || decide (((l.length / 16 : Nat) : Int) ≤ k)) := by
    rw [Bool.eq_iff_iff]
    simp only [Bool.or_eq_true, decide_eq_true_eq]
    by_cases h : 0 ≤ k ∧ k < 4096
    · rw [w64 (n := 16 * k) (by omega) (by omega), w64 (by omega) (by omega)]; omega
    · omega
  rw [eg]
  unfold readV
  refine ⟨fun h => ?_, fun h => ?_⟩
  · rw [if_pos h]
    refine post_val ?_ rfl
    simp only [zeroNd, go_sem, Nat.reduceEqDiff, Nat.reduceLT, Nat.reduceAdd, Nat.reduceSub, Nat.reduceLeDiff, List.reduceReplicate, Int.reduceToNat]
  · rw [h]
    simp only [Bool.or_eq_false_iff, decide_eq_false_iff_not] at h
    obtain ⟨k, rfl⟩ := Int.eq_ofNat_of_zero_le (show 0 ≤ k by omega)
    have hk : 16 * k + 16 ≤ l.length := by omega
    have e1 : IntKind.i64.wrap (16 * (k : Int)) = 16 * (k : Int) := w64 (by omega) (by omega)
    have e3 : IntKind.i64.wrap (16 * (k : Int) + 16) = 16 * (k : Int) + 16 := w64 (by omega) (by omega)
    have e4 : (16 * (k : Int) + 16).toNat - (16 * (k : Int)).toNat = 16 := by omega
    have e5 : (16 * (k : Int)).toNat = 16 * k := by omega
    have eb : (l.drop (16 * k)).take 16 = blockAt l k := rfl
    have hbl : (blockAt l k).length = 16 := by unfold blockAt; simp; omega
    have hw0 : (blockAt l k).getD 0 0 < 9223372036854775808 := hi64 _ (List.drop_subset _ _ (List.take_subset _ _ (getD_mem (blockAt l k) 0 0 (by omega))))
    rw [e1, e3, e4, e5, eb, Int.toNat_natCast]
    generalize blockAt l k = w at *
    rw [hbl, ← readR_eq]
    refine ⟨by omega, by omega, by omega, fun hc => ?_, fun hc => ?_⟩
    · have : readBy decR w = none := by
        rw [readR_eq]
        apply readN_small
        simp only [Bool.or_eq_true, decide_eq_true_eq] at hc
        rcases Int.lt_or_le (w.getD 0 0) 0 with h0 | h0
        · omega
        · rw [w64 (by omega) (by omega)] at hc; omega
      rw [this]
      refine post_val ?_ rfl
      simp only [zeroNd, go_sem, Nat.reduceEqDiff, Nat.reduceLT, Nat.reduceAdd, Nat.reduceSub, Nat.reduceLeDiff, List.reduceReplicate, Int.reduceToNat]
    · simp only [Bool.or_eq_false_iff, decide_eq_false_iff_not] at hc
      have e6 : IntKind.i64.wrap (w.getD 0 0 - 1152921504606846976) = w.getD 0 0 - 1152921504606846976 := w64 (by omega) (by omega)
      rw [e6] at hc
      have e7 : IntKind.i64.wrap ((w.getD 0 0 - 1152921504606846976).tdiv 16) = (w.getD 0 0 - 1152921504606846976) / 16 := by
        rw [Int.tdiv_eq_ediv_of_nonneg (by omega)]; exact w64 (by omega) (by omega)
      have e8 : (w.getD 0 0 - 1152921504606846976).tmod 16 = (w.getD 0 0 - 1152921504606846976) % 16 := Int.tmod_eq_emod_of_nonneg (by omega)
      rw [e6, e7, e8]
      refine ⟨by decide, by decide, by omega, by omega, ?_⟩
      rw [joinW_eq]
      unfold lamplighterref09_Read.L1
      have hdl : (w.drop 3).length = 13 := by simp; omega
      refine loop1 (σ := Nat) (fun i => .int .i64 (3 + i : Nat)) (fun i => [.box (.agg [.int .i64 0, .int .i64 0, .int .i64 0, .int .i64 0, .sl false (.ints .i64 [])]), .box (.agg [.int .i64 ((w.getD 0 0 - 1152921504606846976) % 16), .int .i64 ((w.getD 0 0 - 1152921504606846976) / 16), .int .i64 (w.getD 1 0), .int .i64 (w.getD 2 0), .sref false 2 i 0 i]), .row .own i (.ints .i64 ((w.drop 3).take i))]) (fun i => 13 - i) (fun i => i ≤ 13 ∧ ∀ j, j < i → (w.drop 3).getD j 0 ≠ 0) 0 rfl rfl ⟨by omega, fun j hj => absurd hj (Nat.not_lt_zero j)⟩ ?_
      rintro I back i ⟨hi, hall⟩
      have htl : ((w.drop 3).take i).length = i := by rw [List.length_take]; omega
      simp only [htl, hbl, go_sem, Nat.reduceEqDiff, Nat.reduceLT, Nat.reduceAdd, Nat.reduceSub, Nat.reduceLeDiff, List.reduceReplicate, Int.reduceToNat]
      have hgd : (w.drop 3).getD i 0 = w.getD (3 + i) 0 := getD_drop w 3 i
      refine ⟨fun _ => by omega, fun hc2 => ?_, fun hc2 => ?_⟩
      · simp only [Bool.and_eq_true, decide_eq_true_eq, Bool.not_eq_true', decide_eq_false_iff_not] at hc2
        have htn := take_next (w.drop 3) i 0 (by omega)
        rw [hgd] at htn
        rw [← htn]
        have htl1 : ((w.drop 3).take (i + 1)).length = i + 1 := by rw [List.length_take]; omega
        rw [htl1]
        refine ⟨by omega, by unfold roomy; omega, back (i + 1) (by omega) ?_ rfl ⟨by omega, fun j hj => ?_⟩⟩
        · rw [wnext (by omega)]; rfl
        · by_cases e : j = i
          · subst e; rw [hgd]; exact hc2.2
          · exact hall j (by omega)
      · have hup : upNZ (w.drop 3) = (w.drop 3).take i := by
          refine upNZ_at (by omega) hall ?_
          rw [hgd]
          simp only [Bool.and_eq_false_iff, decide_eq_false_iff_not, Bool.not_eq_false', decide_eq_true_eq] at hc2
          rcases hc2 with h | h
          · left; omega
          · right; exact h
        rw [List.take_take, Nat.min_self, ← hup]
        have hdp : (⟨(w.getD 0 0 - 1152921504606846976) % 16, (w.getD 0 0 - 1152921504606846976) / 16, w.getD 1 0, w.getD 2 0, upNZ (w.drop 3)⟩ : Nd) = decR w := rfl
        have hil : i = (upNZ (w.drop 3)).length := by rw [hup, htl]
        have htk : (upNZ (w.drop 3)).take i = upNZ (w.drop 3) := take_len _ (by omega)
        unfold readBy
        cases hd : ndB (decR w) with
        | false =>
          simp only [lamplighterref09_Words.C, hdp, wordsV_no hd, Bool.false_eq_true, if_false, Bool.false_and, joinW_eq, joinW_eq, guard_tt, guard_tf, guard_ft, guard_ff, Int.reduceEq, Int.reduceLT, Int.reduceLE, decide_false, decide_true, Bool.not_false, Bool.not_true, Bool.not_not, not_true_eq_false, not_false_eq_true, true_implies, false_implies, implies_true, and_true, true_and, reduceCtorEq, Bool.and_self, Bool.or_self, Bool.and_true, Bool.true_and, Bool.false_eq_true, if_true, if_false, go_sem, Nat.reduceEqDiff, Nat.reduceLT, Nat.reduceAdd, Nat.reduceSub, Nat.reduceLeDiff, List.reduceReplicate, Int.reduceToNat]
          refine post_val ?_ rfl
          simp only [zeroNd, go_sem, Nat.reduceEqDiff, Nat.reduceLT, Nat.reduceAdd, Nat.reduceSub, Nat.reduceLeDiff, List.reduceReplicate, Int.reduceToNat]
        | true =>
          have hok := nd_iff.1 hd
          have hwl := words_len hok
          simp only [lamplighterref09_Words.C, hdp, wordsV_ok hd, if_true, Bool.true_and, lamplighterref02_Numbers.C, hwl, hbl, htk, joinW_eq, guard_tt, guard_tf, guard_ft, guard_ff, Int.reduceEq, Int.reduceLT, Int.reduceLE, decide_false, decide_true, Bool.not_false, Bool.not_true, Bool.not_not, not_true_eq_false, not_false_eq_true, true_implies, false_implies, implies_true, and_true, true_and, reduceCtorEq, Bool.and_self, Bool.or_self, Bool.and_true, Bool.true_and, Bool.false_eq_true, if_true, if_false, go_sem, Nat.reduceEqDiff, Nat.reduceLT, Nat.reduceAdd, Nat.reduceSub, Nat.reduceLeDiff, List.reduceReplicate, Int.reduceToNat]
          refine ⟨by unfold roomy; omega, fun h => ?_, fun h => ?_⟩
          · rw [if_neg h]
            refine post_val ?_ rfl
            simp only [zeroNd, go_sem, Nat.reduceEqDiff, Nat.reduceLT, Nat.reduceAdd, Nat.reduceSub, Nat.reduceLeDiff, List.reduceReplicate, Int.reduceToNat]
          · rw [if_pos h]
            refine post_val ?_ rfl
            simp only [htk, go_sem, Nat.reduceEqDiff, Nat.reduceLT, Nat.reduceAdd, Nat.reduceSub, Nat.reduceLeDiff, List.reduceReplicate, Int.reduceToNat]
            rfl
def lamplighterref09_Next.C : Contract
  | [.int .i64 a, .int .i64 b] => some (false, pD True (nextV a b))
  | _ => none
set_option maxRecDepth 20000 in
theorem lamplighterref09_Next.spec : FSpec Try.prog 30 lamplighterref09_Next.C := by
  refine FSpec.of (ctx_ok (F := [(80, lamplighterref09_block.C)]) (S := []) (by simpa using lamplighterref09_block.spec) (by simp) lamplighterref09_Next.loops) lamplighterref09_Next.at lamplighterref09_Next.nm lamplighterref09_Next.bd ?_
  intro vs b S v news e hS
  unfold lamplighterref09_Next.C at e
  split at e
  rotate_left
  · cases e
  cases e
  rw [lamplighterref09_Next.eq]
  unfold lamplighterref09_Next.H
  simp (maxSteps := 4000000) only [go_sem, Nat.reduceEqDiff, Nat.reduceLT, Nat.reduceAdd, Nat.reduceSub, Nat.reduceLeDiff, List.reduceReplicate, Int.reduceToNat, lamplighterref09_block.C]
  rename_i a b
  have e : (!blockB a || !blockB b) = !(blockB a && blockB b) := by rw [Bool.not_and]
  rw [e]
  unfold nextV
  cases h : (blockB a && blockB b) with
  | false => exact ⟨fun _ => post_val rfl rfl, fun h' => (by cases h')⟩
  | true =>
    have h' := h
    unfold blockB at h'
    simp only [Bool.and_eq_true, decide_eq_true_eq] at h'
    refine ⟨fun h' => (by cases h'), fun _ => ?_⟩
    rw [w64 (n := 16 * a) (by omega) (by omega), w64 (n := 16 * a + 1) (by omega) (by omega), w64 (n := 2 * a) (by omega) (by omega)]
    exact post_val rfl rfl
def lamplighterref09_Turn.C : Contract
  | [.int .i64 t, .agg [.int .i64 a, .int .i64 b, .int .i64 c, .int .i64 d, .sl false (.ints .i64 l)], .bool down] => some (false, pD True (.sl false (.mics (turnS t ⟨a, b, c, d, l⟩ down))))
  | _ => none
set_option maxRecDepth 20000 in
theorem lamplighterref09_Turn.spec : FSpec Try.prog 35 lamplighterref09_Turn.C := by
  refine FSpec.of (ctx_ok (F := [(80, lamplighterref09_block.C), (33, lamplighterref09_Check.C), (77, lamplighterref09_first.C)]) (S := []) (by simpa using ⟨lamplighterref09_block.spec, lamplighterref09_Check.spec, lamplighterref09_first.spec⟩) (by simp) lamplighterref09_Turn.loops) lamplighterref09_Turn.at lamplighterref09_Turn.nm lamplighterref09_Turn.bd ?_
  intro vs b S v news e hS
  unfold lamplighterref09_Turn.C at e
  split at e
  rotate_left
  · cases e
  cases e
  rw [lamplighterref09_Turn.eq]
  unfold lamplighterref09_Turn.H
  simp (maxSteps := 4000000) only [go_sem, Nat.reduceEqDiff, Nat.reduceLT, Nat.reduceAdd, Nat.reduceSub, Nat.reduceLeDiff, List.reduceReplicate, Int.reduceToNat, lamplighterref09_block.C, lamplighterref09_Check.C, lamplighterref09_first.C]
  rename_i t a b c d l down
  refine ⟨fun _ => by decide, fun h => ?_, fun h => ?_⟩
  · have : turnS t ⟨a, b, c, d, l⟩ down = [] := by
      unfold turnS
      rw [if_neg]
      intro h'
      simp only [Bool.and_eq_true, Bool.not_eq_true', decide_eq_false_iff_not] at h'
      obtain ⟨⟨h1, h2⟩, h3⟩ := h'
      have hok := nd_iff.1 h2
      have q3 := hok.2.2.1
      simp only at q3
      rw [h1, h2, Int.tmod_eq_emod_of_nonneg q3] at h
      simp only [Bool.not_true, Bool.false_or, beq_iff_eq] at h
      exact h3 h
    rw [this]; exact post_val rfl rfl
  · simp only [Bool.or_eq_false_iff, Bool.not_eq_false'] at h
    obtain ⟨⟨h1, h2⟩, h3⟩ := h
    have hok := nd_iff.1 h2
    have q1 := hok.1
    have q2 := hok.2.1
    have q3 := hok.2.2.1
    have q4 := hok.2.2.2.1
    simp only at q1 q2 q3 q4
    rw [Int.tmod_eq_emod_of_nonneg q3] at h3
    have hb := h1
    unfold blockB at hb
    simp only [Bool.and_eq_true, decide_eq_true_eq] at hb
    have : turnS t ⟨a, b, c, d, l⟩ down = [⟨1, 16 * t, firstN (turnedN ⟨a, b, c, d, l⟩)⟩] := by
      unfold turnS
      rw [if_pos]
      rw [h1, h2]
      simp only [Bool.true_and, Bool.not_eq_true', decide_eq_false_iff_not]
      simpa using h3
    have et : turnedN ⟨a, b, c, d, l⟩ = ⟨a, b % 1099511627776 + 1, c, d, l⟩ := rfl
    rw [this, et, joinW_eq, w64 (n := b + 1) (by omega) (by omega), w64 (n := 16 * t) (by omega) (by omega)]
    refine ⟨fun e => ?_, fun e => ?_⟩
    · rw [show b % 1099511627776 + 1 = 1 from by omega]
      simp only [lamplighterref09_first.C, go_sem, Nat.reduceEqDiff, Nat.reduceLT, Nat.reduceAdd, Nat.reduceSub, Nat.reduceLeDiff, List.reduceReplicate, Int.reduceToNat]
      exact ⟨⟨q1, q2, by omega, by omega⟩, post_val rfl rfl⟩
    · rw [show b % 1099511627776 + 1 = b + 1 from by omega]
      simp only [lamplighterref09_first.C, go_sem, Nat.reduceEqDiff, Nat.reduceLT, Nat.reduceAdd, Nat.reduceSub, Nat.reduceLeDiff, List.reduceReplicate, Int.reduceToNat]
      exact ⟨⟨q1, q2, by omega, by omega⟩, post_val rfl rfl⟩
end Lam
namespace Lam
open Go Go.Proofs
set_option linter.unusedVariables false
def lamplighterref04_Few.loops : Nat → LInfo
  | 1 => ⟨[], [], [], [(5, none), (4, some [7, 11]), (2, none), (4, some [13, 17])], []⟩
  | _ => ⟨[], [], [], [], []⟩
def lamplighterref04_Few.H (c : Ctx) (t0 : AV) (h : List AObj) (K : AOut → List AObj → Prop) : Prop :=
  boxW T_api_Mem t0 h fun t1 h =>
  runD (fieldAddrD T_api_Mem t1 0) h fun t3 h =>
  runD (fitD T_sl_int (loadD h t3)) h fun t4 h =>
  runD (lenD T_sl_int h t4) h fun t5 h =>
  runD (binD T_int .leq t5 (.int .i64 300)) h fun t6 h =>
  joinW (fun (J1 : AV → AV → List AObj → Prop) =>
  guardW t6 true
  (runD (fieldAddrD T_api_Mem t1 1) h fun t8 h =>
    runD (fitD T_sl_int (loadD h t8)) h fun t9 h =>
    runD (lenD T_sl_int h t9) h fun t10 h =>
    runD (binD T_int .leq t10 (.int .i64 300)) h fun t11 h =>
    J1 (.bool true) t11 h)
  (J1 (.bool false) .und h))
  (fun t7 t11 h => runD (pickD t7 t11 (.bool false)) h fun t12 h =>
  joinW (fun (J2 : AV → AV → List AObj → Prop) =>
  guardW t12 true
  (runD (fieldAddrD T_api_Mem t1 2) h fun t14 h =>
    runD (fitD T_sl_api_Pending (loadD h t14)) h fun t15 h =>
    runD (lenD T_sl_api_Pending h t15) h fun t16 h =>
    runD (binD T_int .leq t16 (.int .i64 100)) h fun t17 h =>
    J2 (.bool true) t17 h)
  (J2 (.bool false) .und h))
  (fun t13 t17 h => runD (pickD t13 t17 (.bool false)) h fun t18 h =>
  K (.ret t18) h))
def lamplighterref04_Same.loops : Nat → LInfo
  | 3 => ⟨[], [], [], [(3, none), (2, some [20, 22]), (2, none), (7, some [24, 31])], []⟩
  | 6 => ⟨[7], [false], [2, 3], [], []⟩
  | _ => ⟨[], [], [], [], []⟩
def lamplighterref04_Same.L1 (c : Ctx) (J3 : List AObj → Prop) (K : AOut → List AObj → Prop) (lv : List AV) (h0 : List AObj) (n0 : Nat) (c2 : AV) (c3 : AV) : Prop :=
  ∃ I : Nat → List AV → List AObj → Prop, (∃ n, I n lv h0) ∧ ∀ n h, ∀ t7, I n [t7] h →
    runD (fieldAddrD T_api_Mem c2 2) h fun t34 h =>
    runD (fitD T_sl_api_Pending (loadD h t34)) h fun t35 h =>
    runD (lenD T_sl_api_Pending h t35) h fun t36 h =>
    runD (binD T_int .lss t7 t36) h fun t37 h =>
    condW t37
    (runD (fieldAddrD T_api_Mem c2 2) h fun t40 h =>
    runD (fitD T_sl_api_Pending (loadD h t40)) h fun t41 h =>
    runD (indexAddrD T_sl_api_Pending h t41 t7) h fun t43 h =>
    runD (fitD T_api_Pending (loadD h t43)) h fun t44 h =>
    runD (fieldAddrD T_api_Mem c3 2) h fun t45 h =>
    runD (fitD T_sl_api_Pending (loadD h t45)) h fun t46 h =>
    runD (indexAddrD T_sl_api_Pending h t46 t7) h fun t48 h =>
    runD (fitD T_api_Pending (loadD h t48)) h fun t49 h =>
    runD (binD T_api_Pending .neq t44 t49) h fun t50 h =>
    condW t50
    (K (.ret (.bool false)) h)
    (runD (binD T_int .add t7 (.int .i64 1)) h fun t39 h =>
    (∃ m, m < n ∧ I m (AV.norms n0 h [t39]) (normH n0 h)) ∧ AV.norms n0 h [c2, c3] = [c2, c3]))
    (J3 h)
def lamplighterref04_Same.H (c : Ctx) (t0 : AV) (t1 : AV) (h : List AObj) (K : AOut → List AObj → Prop) : Prop :=
  boxW T_api_Mem t0 h fun t2 h =>
  boxW T_api_Mem t1 h fun t3 h =>
  runD (fieldAddrD T_api_Mem t2 0) h fun t8 h =>
  runD (fitD T_sl_int (loadD h t8)) h fun t9 h =>
  runD (fieldAddrD T_api_Mem t3 0) h fun t10 h =>
  runD (fitD T_sl_int (loadD h t10)) h fun t11 h =>
  callW c (.fn (.func 22) [] []) [t9, t11] h (fun t12 h =>
  runD (fieldAddrD T_api_Mem t2 1) h fun t13 h =>
  runD (fitD T_sl_int (loadD h t13)) h fun t14 h =>
  runD (fieldAddrD T_api_Mem t3 1) h fun t15 h =>
  runD (fitD T_sl_int (loadD h t15)) h fun t16 h =>
  callW c (.fn (.func 22) [] []) [t14, t16] h (fun t17 h =>
  runD (unD .not t12) h fun t19 h =>
  joinW (fun (J1 : AV → AV → List AObj → Prop) =>
  guardW t19 false
  (runD (unD .not t17) h fun t22 h =>
    J1 (.bool false) t22 h)
  (J1 (.bool true) .und h))
  (fun t20 t22 h => runD (pickD t20 (.bool true) t22) h fun t23 h =>
  joinW (fun (J2 : AV → AV → List AObj → Prop) =>
  guardW t23 false
  (runD (fieldAddrD T_api_Mem t2 2) h fun t25 h =>
    runD (fitD T_sl_api_Pending (loadD h t25)) h fun t26 h =>
    runD (lenD T_sl_api_Pending h t26) h fun t27 h =>
    runD (fieldAddrD T_api_Mem t3 2) h fun t28 h =>
    runD (fitD T_sl_api_Pending (loadD h t28)) h fun t29 h =>
    runD (lenD T_sl_api_Pending h t29) h fun t30 h =>
    runD (binD T_int .neq t27 t30) h fun t31 h =>
    J2 (.bool false) t31 h)
  (J2 (.bool true) .und h))
  (fun t24 t31 h => runD (pickD t24 (.bool true) t31) h fun t32 h =>
  condW t32
  (K (.ret (.bool false)) h)
  (joinW (fun (J3 : List AObj → Prop) =>
  promV [false] [(.int .i64 0)] h fun lv h => lamplighterref04_Same.L1 c J3 K (AV.norms h.length h lv) (normH h.length h) h.length (AV.norm h.length h t2) (AV.norm h.length h t3))
  (fun h => K (.ret (.bool true)) h)))))
  (fun v h => K (.pan v) h))
  (fun v h => K (.pan v) h)
def lamplighterref04_Check.loops : Nat → LInfo
  | 2 => ⟨[], [], [], [(6, none), (2, some [16, 18]), (2, none), (3, some [20, 23])], []⟩
  | 6 => ⟨[5], [false], [1, 3, 4], [], []⟩
  | 9 => ⟨[], [], [], [(4, none), (4, some [44, 48])], []⟩
  | 12 => ⟨[7], [false], [1, 3, 4, 5, 6], [(4, none), (2, some [53, 55])], []⟩
  | _ => ⟨[], [], [], [], []⟩
def lamplighterref04_Check.L2 (c : Ctx) (J6 : AV → AV → AV → AV → AV → List AObj → Prop) (K : AOut → List AObj → Prop) (lv : List AV) (h0 : List AObj) (n0 : Nat) (c1 : AV) (c3 : AV) (c4 : AV) (c5 : AV) (c6 : AV) : Prop :=
  ∃ I : Nat → List AV → List AObj → Prop, (∃ n, I n lv h0) ∧ ∀ n h, ∀ t7, I n [t7] h →
    runD (binD T_int .lss t7 c5) h fun t52 h =>
    joinW (fun (J7 : AV → AV → List AObj → Prop) =>
    guardW t52 true
    (runD (fieldAddrD T_api_Pending c6 2) h fun t54 h =>
      runD (fitD T_bool (loadD h t54)) h fun t55 h =>
      J7 (.bool true) t55 h)
    (J7 (.bool false) .und h))
    (fun t53 t55 h => runD (pickD t53 t55 (.bool false)) h fun t56 h =>
    condW t56
    (runD (fieldAddrD T_api_Mem c1 2) h fun t59 h =>
    runD (fitD T_sl_api_Pending (loadD h t59)) h fun t60 h =>
    runD (indexAddrD T_sl_api_Pending h t60 t7) h fun t62 h =>
    runD (fieldAddrD T_api_Pending t62 0) h fun t63 h =>
    runD (fitD T_int (loadD h t63)) h fun t64 h =>
    runD (binD T_int .quo t64 (.int .i64 8)) h fun t65 h =>
    runD (fieldAddrD T_api_Pending c6 0) h fun t66 h =>
    runD (fitD T_int (loadD h t66)) h fun t67 h =>
    runD (binD T_int .quo t67 (.int .i64 8)) h fun t68 h =>
    runD (binD T_int .eql t65 t68) h fun t69 h =>
    joinW (fun (J8 : AV → AV → List AObj → Prop) =>
    guardW t69 true
    (runD (fieldAddrD T_api_Mem c1 2) h fun t71 h =>
      runD (fitD T_sl_api_Pending (loadD h t71)) h fun t72 h =>
      runD (indexAddrD T_sl_api_Pending h t72 t7) h fun t74 h =>
      runD (fieldAddrD T_api_Pending t74 2) h fun t75 h =>
      runD (fitD T_bool (loadD h t75)) h fun t76 h =>
      runD (unD .not t76) h fun t77 h =>
      J8 (.bool true) t77 h)
    (J8 (.bool false) .und h))
    (fun t70 t77 h => runD (pickD t70 t77 (.bool false)) h fun t78 h =>
    condW t78
    (K (.ret (.bool false)) h)
    (runD (binD T_int .add t7 (.int .i64 1)) h fun t58 h =>
    (∃ m, m < n ∧ I m (AV.norms n0 h [t58]) (normH n0 h)) ∧ AV.norms n0 h [c1, c3, c4, c5, c6] = [c1, c3, c4, c5, c6])))
    (J6 c1 c3 c4 c5 c6 h))
def lamplighterref04_Check.L1 (c : Ctx) (J3 : AV → AV → List AObj → Prop) (K : AOut → List AObj → Prop) (lv : List AV) (h0 : List AObj) (n0 : Nat) (c1 : AV) (c3 : AV) (c4 : AV) : Prop :=
  ∃ I : Nat → List AV → List AObj → Prop, (∃ n, I n lv h0) ∧ ∀ n h, ∀ t5, I n [t5] h →
    runD (fieldAddrD T_api_Mem c1 2) h fun t30 h =>
    runD (fitD T_sl_api_Pending (loadD h t30)) h fun t31 h =>
    runD (lenD T_sl_api_Pending h t31) h fun t32 h =>
    runD (binD T_int .lss t5 t32) h fun t33 h =>
    condW t33
    (joinW (fun (J4 : AV → AV → AV → AV → List AObj → Prop) =>
    runD (fieldAddrD T_api_Mem c1 2) h fun t36 h =>
    runD (fitD T_sl_api_Pending (loadD h t36)) h fun t37 h =>
    runD (indexAddrD T_sl_api_Pending h t37 t5) h fun t39 h =>
    runD (fitD T_api_Pending (loadD h t39)) h fun t40 h =>
    allocW T_api_Pending h fun t6 h =>
    runH (storeH T_api_Pending h t6 t40) h fun _ h =>
    runD (fieldAddrD T_api_Pending t6 0) h fun t41 h =>
    runD (fitD T_int (loadD h t41)) h fun t42 h =>
    runD (binD T_int .lss t42 (.int .i64 0)) h fun t43 h =>
    joinW (fun (J5 : AV → AV → List AObj → Prop) =>
    guardW t43 false
    (runD (fieldAddrD T_api_Pending t6 0) h fun t45 h =>
      runD (fitD T_int (loadD h t45)) h fun t46 h =>
      runD (binD T_int .geq t46 c3) h fun t48 h =>
      J5 (.bool false) t48 h)
    (J5 (.bool true) .und h))
    (fun t44 t48 h => runD (pickD t44 (.bool true) t48) h fun t49 h =>
    condW t49
    (K (.ret (.bool false)) h)
    (joinW (fun (J6 : AV → AV → AV → AV → AV → List AObj → Prop) =>
    promV [false] [(.int .i64 0)] h fun lv h => lamplighterref04_Check.L2 c J6 K (AV.norms h.length h lv) (normH h.length h) h.length (AV.norm h.length h c1) (AV.norm h.length h c3) (AV.norm h.length h c4) (AV.norm h.length h t5) (AV.norm h.length h t6))
    (fun t1 t3 t4 t5 t6 h => runD (fieldAddrD T_api_Pending t6 0) h fun t80 h =>
    runD (fitD T_int (loadD h t80)) h fun t81 h =>
    runD (fieldAddrD T_api_Pending t6 1) h fun t82 h =>
    runD (fitD T_int (loadD h t82)) h fun t83 h =>
    runD (indexAddrD T_sl_int h t4 t81) h fun t84 h =>
    runH (storeH T_int h t84 t83) h fun _ h =>
    J4 t1 t3 t4 t5 h))))
    (fun t1 t3 t4 t5 h => runD (binD T_int .add t5 (.int .i64 1)) h fun t35 h =>
    (∃ m, m < n ∧ I m (AV.norms n0 h [t35]) (normH n0 h)) ∧ AV.norms n0 h [t1, t3, t4] = [c1, c3, c4]))
    (J3 c1 c4 h)
def lamplighterref04_Check.H (c : Ctx) (t0 : AV) (h : List AObj) (K : AOut → List AObj → Prop) : Prop :=
  boxW T_api_Mem t0 h fun t1 h =>
  runD (fieldAddrD T_api_Mem t1 0) h fun t8 h =>
  runD (fitD T_sl_int (loadD h t8)) h fun t9 h =>
  runD (lenD T_sl_int h t9) h fun t10 h =>
  runD (fieldAddrD T_api_Mem t1 1) h fun t12 h =>
  runD (fitD T_sl_int (loadD h t12)) h fun t13 h =>
  runD (lenD T_sl_int h t13) h fun t14 h =>
  runD (binD T_int .neq t10 t14) h fun t15 h =>
  joinW (fun (J1 : AV → AV → List AObj → Prop) =>
  guardW t15 false
  (runD (binD T_int .gtr t10 (.int .i64 4096)) h fun t18 h =>
    J1 (.bool false) t18 h)
  (J1 (.bool true) .und h))
  (fun t16 t18 h => runD (pickD t16 (.bool true) t18) h fun t19 h =>
  joinW (fun (J2 : AV → AV → List AObj → Prop) =>
  guardW t19 false
  (runD (binD T_int .rem t10 (.int .i64 8)) h fun t22 h =>
    runD (binD T_int .neq t22 (.int .i64 0)) h fun t23 h =>
    J2 (.bool false) t23 h)
  (J2 (.bool true) .und h))
  (fun t20 t23 h => runD (pickD t20 (.bool true) t23) h fun t24 h =>
  condW t24
  (K (.ret (.bool false)) h)
  (runD (buildSliceD T_sl_int 0 [] h.length) h fun t25 h =>
  runD (fieldAddrD T_api_Mem t1 1) h fun t26 h =>
  runD (fitD T_sl_int (loadD h t26)) h fun t27 h =>
  runDM (appendD T_sl_int h t25 t27 h.length) (appendH T_sl_int h t25 t27) h fun t28 h =>
  joinW (fun (J3 : AV → AV → List AObj → Prop) =>
  promV [false] [(.int .i64 0)] h fun lv h => lamplighterref04_Check.L1 c J3 K (AV.norms h.length h lv) (normH h.length h) h.length (AV.norm h.length h t1) (AV.norm h.length h t10) (AV.norm h.length h t28))
  (fun t1 t4 h => runD (fieldAddrD T_api_Mem t1 0) h fun t86 h =>
  runD (fitD T_sl_int (loadD h t86)) h fun t87 h =>
  callW c (.fn (.func 22) [] []) [t4, t87] h (fun t88 h =>
  K (.ret t88) h)
  (fun v h => K (.pan v) h)))))
def lamplighterref04_Put.loops : Nat → LInfo
  | 2 => ⟨[], [], [], [(3, none), (2, some [13, 15]), (2, none), (5, some [17, 22])], []⟩
  | _ => ⟨[], [], [], [], []⟩
def lamplighterref04_Put.H (c : Ctx) (t0 : AV) (t1 : AV) (t2 : AV) (h : List AObj) (K : AOut → List AObj → Prop) : Prop :=
  boxW T_api_Mem t0 h fun t3 h =>
  allocW T_api_Mem h fun t6 h =>
  runD (fitD T_api_Mem (loadD h t3)) h fun t9 h =>
  callW c (.fn (.func 106) [] []) [t9] h (fun t10 h =>
  runD (unD .not t10) h fun t12 h =>
  joinW (fun (J1 : AV → AV → List AObj → Prop) =>
  guardW t12 false
  (runD (binD T_int .lss t1 (.int .i64 0)) h fun t15 h =>
    J1 (.bool false) t15 h)
  (J1 (.bool true) .und h))
  (fun t13 t15 h => runD (pickD t13 (.bool true) t15) h fun t16 h =>
  joinW (fun (J2 : AV → AV → List AObj → Prop) =>
  guardW t16 false
  (runD (fieldAddrD T_api_Mem t3 0) h fun t19 h =>
    runD (fitD T_sl_int (loadD h t19)) h fun t20 h =>
    runD (lenD T_sl_int h t20) h fun t21 h =>
    runD (binD T_int .geq t1 t21) h fun t22 h =>
    J2 (.bool false) t22 h)
  (J2 (.bool true) .und h))
  (fun t17 t22 h => runD (pickD t17 (.bool true) t22) h fun t23 h =>
  condW t23
  (runD (fitD T_api_Mem (loadD h t3)) h fun t24 h =>
    runH (storeH T_api_Mem h t6 t24) h fun _ h =>
    loadRes (fitD T_api_Mem (loadD h t6)) fun r0 => K (.ret (.tup [r0, (.int .i64 40)])) h)
  (runD (fieldAddrD T_api_Mem t3 0) h fun t25 h =>
  runD (fitD T_sl_int (loadD h t25)) h fun t26 h =>
  callW c.noS (.fn (.func 126) [] []) [t26, t1, t2] h (fun t29 h =>
  runD (fieldAddrD T_api_Mem t3 1) h fun t30 h =>
  runD (fitD T_sl_int (loadD h t30)) h fun t31 h =>
  runD (buildSliceD T_sl_api_Pending 0 [] h.length) h fun t32 h =>
  runD (fieldAddrD T_api_Mem t3 2) h fun t33 h =>
  runD (fitD T_sl_api_Pending (loadD h t33)) h fun t34 h =>
  runDM (appendD T_sl_api_Pending h t32 t34 h.length) (appendH T_sl_api_Pending h t32 t34) h fun t35 h =>
  runD (buildD T_api_Pending [(0, t1), (1, t2)]) h fun t38 h =>
  runD (buildSliceD T_sl_api_Pending 1 [(0, t38)] h.length) h fun t39 h =>
  runDM (appendD T_sl_api_Pending h t35 t39 h.length) (appendH T_sl_api_Pending h t35 t39) h fun t40 h =>
  runD (buildD T_api_Mem [(0, t29), (1, t31), (2, t40)]) h fun t41 h =>
  runH (storeH T_api_Mem h t6 t41) h fun _ h =>
  sepB t32 [t30] = true ∧ sepB t35 [t30] = true ∧ loadRes (fitD T_api_Mem (loadD h t6)) fun r0 => K (.ret (.tup [r0, (.int .i64 0)])) h)
  (fun _ _ => False)))))
  (fun v h => K (.pan v) h)
def lamplighterref04_Flush.loops : Nat → LInfo
  | 2 => ⟨[], [], [], [(3, none), (4, some [14, 18])], []⟩
  | 6 => ⟨[8], [false], [1, 2, 4, 7], [], [7]⟩
  | 9 => ⟨[], [], [], [(9, none), (5, some [46, 51])], []⟩
  | _ => ⟨[], [], [], [], []⟩
def lamplighterref04_Flush.L1 (c : Ctx) (J2 : AV → AV → List AObj → Prop) (K : AOut → List AObj → Prop) (lv : List AV) (h0 : List AObj) (n0 : Nat) (c1 : AV) (c2 : AV) (c4 : AV) (c7 : AV) : Prop :=
  ∃ I : Nat → List AV → List AObj → Prop, (∃ n, I n lv h0) ∧ ∀ n h, ∀ t8, I n [t8] h →
    runD (fieldAddrD T_api_Mem c2 2) h fun t27 h =>
    runD (fitD T_sl_api_Pending (loadD h t27)) h fun t28 h =>
    runD (lenD T_sl_api_Pending h t28) h fun t29 h =>
    runD (binD T_int .lss t8 t29) h fun t30 h =>
    condW t30
    (runD (fieldAddrD T_api_Mem c2 2) h fun t33 h =>
    runD (fitD T_sl_api_Pending (loadD h t33)) h fun t34 h =>
    runD (indexAddrD T_sl_api_Pending h t34 t8) h fun t36 h =>
    runD (fitD T_api_Pending (loadD h t36)) h fun t37 h =>
    allocW T_api_Pending h fun t9 h =>
    runH (storeH T_api_Pending h t9 t37) h fun _ h =>
    runD (fieldAddrD T_api_Mem c7 2) h fun t38 h =>
    runD (fitD T_sl_api_Pending (loadD h t38)) h fun t39 h =>
    runD (fieldAddrD T_api_Pending t9 0) h fun t40 h =>
    runD (fitD T_int (loadD h t40)) h fun t41 h =>
    runD (fieldAddrD T_api_Pending t9 1) h fun t42 h =>
    runD (fitD T_int (loadD h t42)) h fun t43 h =>
    runD (fieldAddrD T_api_Pending t9 2) h fun t44 h =>
    runD (fitD T_bool (loadD h t44)) h fun t45 h =>
    joinW (fun (J3 : AV → AV → List AObj → Prop) =>
    guardW t45 false
    (runD (fieldAddrD T_api_Pending t9 0) h fun t47 h =>
      runD (fitD T_int (loadD h t47)) h fun t48 h =>
      runD (binD T_int .quo t48 (.int .i64 8)) h fun t49 h =>
      runD (binD T_int .eql t49 c1) h fun t51 h =>
      J3 (.bool false) t51 h)
    (J3 (.bool true) .und h))
    (fun t46 t51 h => runD (pickD t46 (.bool true) t51) h fun t52 h =>
    runD (buildD T_api_Pending [(0, t41), (1, t43), (2, t52)]) h fun t53 h =>
    runD (buildSliceD T_sl_api_Pending 1 [(0, t53)] h.length) h fun t54 h =>
    runDM (appendD T_sl_api_Pending h t39 t54 h.length) (appendH T_sl_api_Pending h t39 t54) h fun t55 h =>
    runD (fieldAddrD T_api_Mem c7 2) h fun t56 h =>
    runH (storeH T_sl_api_Pending h t56 t55) h fun _ h =>
    runD (binD T_int .add t8 (.int .i64 1)) h fun t32 h =>
    (∃ m, m < n ∧ I m (AV.norms n0 h [t32]) (normH n0 h)) ∧ AV.norms n0 h [c1, c2, c4, c7] = [c1, c2, c4, c7]))
    (J2 c4 c7 h)
def lamplighterref04_Flush.H (c : Ctx) (t0 : AV) (t1 : AV) (h : List AObj) (K : AOut → List AObj → Prop) : Prop :=
  boxW T_api_Mem t0 h fun t2 h =>
  allocW T_api_Mem h fun t4 h =>
  runD (fitD T_api_Mem (loadD h t2)) h fun t10 h =>
  callW c (.fn (.func 106) [] []) [t10] h (fun t11 h =>
  runD (unD .not t11) h fun t13 h =>
  joinW (fun (J1 : AV → AV → List AObj → Prop) =>
  guardW t13 false
  (runD (fitD T_api_Mem (loadD h t2)) h fun t15 h =>
    callW c (.fn (.func 127) [] []) [t15, t1] h (fun t17 h =>
    runD (unD .not t17) h fun t18 h =>
    J1 (.bool false) t18 h)
    (fun v h => K (.pan v) h))
  (J1 (.bool true) .und h))
  (fun t14 t18 h => runD (pickD t14 (.bool true) t18) h fun t19 h =>
  condW t19
  (runD (fitD T_api_Mem (loadD h t2)) h fun t20 h =>
    runH (storeH T_api_Mem h t4 t20) h fun _ h =>
    loadRes (fitD T_api_Mem (loadD h t4)) fun r0 => K (.ret (.tup [r0, (.int .i64 40)])) h)
  (runD (fieldAddrD T_api_Mem t2 0) h fun t21 h =>
  runD (fitD T_sl_int (loadD h t21)) h fun t22 h =>
  runD (fieldAddrD T_api_Mem t2 1) h fun t23 h =>
  runD (fitD T_sl_int (loadD h t23)) h fun t24 h =>
  runD (buildD T_api_Mem [(0, t22), (1, t24)]) h fun t25 h =>
  allocW T_api_Mem h fun t7 h =>
  runH (storeH T_api_Mem h t7 t25) h fun _ h =>
  joinW (fun (J2 : AV → AV → List AObj → Prop) =>
  promV [false] [(.int .i64 0)] (boxH [t7] h) fun lv h => lamplighterref04_Flush.L1 c J2 K (AV.norms h.length h lv) (normH h.length h) h.length (AV.norm h.length h t1) (AV.norm h.length h t2) (AV.norm h.length h t4) (AV.norm h.length h t7))
  (fun t4 t7 h => runD (fitD T_api_Mem (loadD h t7)) h fun t57 h =>
  runH (storeH T_api_Mem h t4 t57) h fun _ h =>
  loadRes (fitD T_api_Mem (loadD h t4)) fun r0 => K (.ret (.tup [r0, (.int .i64 0)])) h))))
  (fun v h => K (.pan v) h)
def lamplighterref04_Fence.loops : Nat → LInfo
  | 6 => ⟨[5, 6], [true, false], [1, 2], [], []⟩
  | _ => ⟨[], [], [], [], []⟩
def lamplighterref04_Fence.L1 (c : Ctx) (J1 : AV → AV → AV → List AObj → Prop) (K : AOut → List AObj → Prop) (lv : List AV) (h0 : List AObj) (n0 : Nat) (c1 : AV) (c2 : AV) : Prop :=
  ∃ I : Nat → List AV → List AObj → Prop, (∃ n, I n lv h0) ∧ ∀ n h, ∀ t5, ∀ t6, I n [t5, t6] h →
    runD (fieldAddrD T_api_Mem c1 2) h fun t13 h =>
    runD (fitD T_sl_api_Pending (loadD h t13)) h fun t14 h =>
    runD (lenD T_sl_api_Pending h t14) h fun t15 h =>
    runD (binD T_int .lss t6 t15) h fun t16 h =>
    condW t16
    (runD (fieldAddrD T_api_Mem c1 2) h fun t20 h =>
    runD (fitD T_sl_api_Pending (loadD h t20)) h fun t21 h =>
    runD (indexAddrD T_sl_api_Pending h t21 t6) h fun t23 h =>
    runD (fieldAddrD T_api_Pending t23 2) h fun t24 h =>
    runD (fitD T_bool (loadD h t24)) h fun t25 h =>
    runD (buildSliceD T_sl_bool 1 [(0, t25)] h.length) h fun t26 h =>
    runDM (appendD T_sl_bool h t5 t26 h.length) (appendH T_sl_bool h t5 t26) h fun t27 h =>
    runD (binD T_int .add t6 (.int .i64 1)) h fun t18 h =>
    (∃ m, m < n ∧ I m (AV.norms n0 h [t27, t18]) (normH n0 h)) ∧ AV.norms n0 h [c1, c2] = [c1, c2])
    (J1 c1 c2 t5 h)
def lamplighterref04_Fence.H (c : Ctx) (t0 : AV) (h : List AObj) (K : AOut → List AObj → Prop) : Prop :=
  boxW T_api_Mem t0 h fun t1 h =>
  allocW T_api_Mem h fun t2 h =>
  runD (fitD T_api_Mem (loadD h t1)) h fun t7 h =>
  callW c (.fn (.func 106) [] []) [t7] h (fun t8 h =>
  runD (unD .not t8) h fun t10 h =>
  condW t10
  (runD (fitD T_api_Mem (loadD h t1)) h fun t11 h =>
    runH (storeH T_api_Mem h t2 t11) h fun _ h =>
    loadRes (fitD T_api_Mem (loadD h t2)) fun r0 => K (.ret (.tup [r0, (.int .i64 40)])) h)
  (joinW (fun (J1 : AV → AV → AV → List AObj → Prop) =>
  promV [true, false] [(.sl true (.bools [])), (.int .i64 0)] h fun lv h => lamplighterref04_Fence.L1 c J1 K (AV.norms h.length h lv) (normH h.length h) h.length (AV.norm h.length h t1) (AV.norm h.length h t2))
  (fun t1 t2 t5 h => runD (fitD T_api_Mem (loadD h t1)) h fun t28 h =>
  callW c (.fn (.func 128) [] []) [t28, t5] h (fun t30 h =>
  runH (storeH T_api_Mem h t2 t30) h fun _ h =>
  loadRes (fitD T_api_Mem (loadD h t2)) fun r0 => K (.ret (.tup [r0, (.int .i64 0)])) h)
  (fun v h => K (.pan v) h))))
  (fun v h => K (.pan v) h)
def lamplighterref04_Crash.loops : Nat → LInfo
  | 6 => ⟨[7, 8], [true, false], [1, 2], [], []⟩
  | 11 => ⟨[10, 11], [false, false], [1, 2, 7, 8, 9], [], []⟩
  | 15 => ⟨[], [], [], [(6, none), (10, some [51, 61])], []⟩
  | _ => ⟨[], [], [], [], []⟩
def lamplighterref04_Crash.L2 (c : Ctx) (J3 : AV → AV → AV → AV → AV → AV → List AObj → Prop) (K : AOut → List AObj → Prop) (lv : List AV) (h0 : List AObj) (n0 : Nat) (c1 : AV) (c2 : AV) (c7 : AV) (c8 : AV) (c9 : AV) : Prop :=
  ∃ I : Nat → List AV → List AObj → Prop, (∃ n, I n lv h0) ∧ ∀ n h, ∀ t10, ∀ t11, I n [t10, t11] h →
    runD (binD T_int .lss t11 c8) h fun t32 h =>
    condW t32
    (runD (fieldAddrD T_api_Mem c2 2) h fun t35 h =>
    runD (fitD T_sl_api_Pending (loadD h t35)) h fun t36 h =>
    runD (indexAddrD T_sl_api_Pending h t36 t11) h fun t38 h =>
    runD (fieldAddrD T_api_Pending t38 0) h fun t39 h =>
    runD (fitD T_int (loadD h t39)) h fun t40 h =>
    runD (binD T_int .quo t40 (.int .i64 8)) h fun t41 h =>
    runD (binD T_int .eql t41 c9) h fun t43 h =>
    joinW (fun (J4 : AV → List AObj → Prop) =>
    condW t43
    (runD (binD T_int .add t10 (.int .i64 1)) h fun t45 h =>
      J4 t45 h)
    (J4 t10 h))
    (fun t10 h => runD (binD T_int .add t11 (.int .i64 1)) h fun t34 h =>
    (∃ m, m < n ∧ I m (AV.norms n0 h [t10, t34]) (normH n0 h)) ∧ AV.norms n0 h [c1, c2, c7, c8, c9] = [c1, c2, c7, c8, c9]))
    (J3 c1 c2 c7 c8 c9 t10 h)
def lamplighterref04_Crash.L1 (c : Ctx) (J1 : AV → AV → List AObj → Prop) (K : AOut → List AObj → Prop) (lv : List AV) (h0 : List AObj) (n0 : Nat) (c1 : AV) (c2 : AV) : Prop :=
  ∃ I : Nat → List AV → List AObj → Prop, (∃ n, I n lv h0) ∧ ∀ n h, ∀ t7, ∀ t8, I n [t7, t8] h →
    runD (fieldAddrD T_api_Mem c2 2) h fun t17 h =>
    runD (fitD T_sl_api_Pending (loadD h t17)) h fun t18 h =>
    runD (lenD T_sl_api_Pending h t18) h fun t19 h =>
    runD (binD T_int .lss t8 t19) h fun t20 h =>
    condW t20
    (joinW (fun (J2 : AV → AV → AV → AV → List AObj → Prop) =>
    runD (fieldAddrD T_api_Mem c2 2) h fun t23 h =>
    runD (fitD T_sl_api_Pending (loadD h t23)) h fun t24 h =>
    runD (indexAddrD T_sl_api_Pending h t24 t8) h fun t26 h =>
    runD (fieldAddrD T_api_Pending t26 0) h fun t27 h =>
    runD (fitD T_int (loadD h t27)) h fun t28 h =>
    runD (binD T_int .quo t28 (.int .i64 8)) h fun t29 h =>
    joinW (fun (J3 : AV → AV → AV → AV → AV → AV → List AObj → Prop) =>
    promV [false, false] [(.int .i64 0), (.int .i64 0)] h fun lv h => lamplighterref04_Crash.L2 c J3 K (AV.norms h.length h lv) (normH h.length h) h.length (AV.norm h.length h c1) (AV.norm h.length h c2) (AV.norm h.length h t7) (AV.norm h.length h t8) (AV.norm h.length h t29))
    (fun t1 t2 t7 t8 t9 t10 h => runD (lenD T_sl_int h t1) h fun t49 h =>
    runD (binD T_int .lss t9 t49) h fun t50 h =>
    joinW (fun (J5 : AV → AV → List AObj → Prop) =>
    guardW t50 true
    (runD (lenD T_sl_int h t1) h fun t56 h =>
      runD (binD T_int .sub t56 (.int .i64 1)) h fun t57 h =>
      runD (minD t9 t57) h fun t58 h =>
      runD (indexAddrD T_sl_int h t1 t58) h fun t59 h =>
      runD (fitD T_int (loadD h t59)) h fun t60 h =>
      runD (binD T_int .lss t10 t60) h fun t61 h =>
      J5 (.bool true) t61 h)
    (J5 (.bool false) .und h))
    (fun t51 t61 h => runD (pickD t51 t61 (.bool false)) h fun t62 h =>
    runD (buildSliceD T_sl_bool 1 [(0, t62)] h.length) h fun t63 h =>
    runDM (appendD T_sl_bool h t7 t63 h.length) (appendH T_sl_bool h t7 t63) h fun t64 h =>
    J2 t1 t2 t64 t8 h)))
    (fun t1 t2 t7 t8 h => runD (binD T_int .add t8 (.int .i64 1)) h fun t22 h =>
    (∃ m, m < n ∧ I m (AV.norms n0 h [t7, t22]) (normH n0 h)) ∧ AV.norms n0 h [t1, t2] = [c1, c2]))
    (J1 c2 t7 h)
def lamplighterref04_Crash.H (c : Ctx) (t0 : AV) (t1 : AV) (h : List AObj) (K : AOut → List AObj → Prop) : Prop :=
  boxW T_api_Mem t0 h fun t2 h =>
  runD (fitD T_api_Mem (loadD h t2)) h fun t12 h =>
  callW c (.fn (.func 106) [] []) [t12] h (fun t13 h =>
  runD (unD .not t13) h fun t15 h =>
  condW t15
  (K (.ret (.tup [(.sl true (.ints .i64 [])), (.int .i64 40)])) h)
  (joinW (fun (J1 : AV → AV → List AObj → Prop) =>
  promV [true, false] [(.sl true (.bools [])), (.int .i64 0)] h fun lv h => lamplighterref04_Crash.L1 c J1 K (AV.norms h.length h lv) (normH h.length h) h.length (AV.norm h.length h t1) (AV.norm h.length h t2))
  (fun t2 t7 h => runD (fitD T_api_Mem (loadD h t2)) h fun t65 h =>
  callW c (.fn (.func 128) [] []) [t65, t7] h (fun t67 h =>
  runD (fieldD T_api_Mem t67 1) h fun t68 h =>
  K (.ret (.tup [t68, (.int .i64 0)])) h)
  (fun v h => K (.pan v) h))))
  (fun v h => K (.pan v) h)
def lamplighterref04_set.loops : Nat → LInfo
  | _ => ⟨[], [], [], [], []⟩
def lamplighterref04_set.H (c : Ctx) (t0 : AV) (t1 : AV) (t2 : AV) (h : List AObj) (K : AOut → List AObj → Prop) : Prop :=
  runD (buildSliceD T_sl_int 0 [] h.length) h fun t8 h =>
  runDM (appendD T_sl_int h t8 t0 h.length) (appendH T_sl_int h t8 t0) h fun t10 h =>
  runD (indexAddrD T_sl_int h t10 t1) h fun t14 h =>
  runH (storeH T_int h t14 t2) h fun _ h =>
  K (.ret t10) h
def lamplighterref04_line.loops : Nat → LInfo
  | 1 => ⟨[], [], [], [(3, none), (6, some [7, 13])], []⟩
  | _ => ⟨[], [], [], [], []⟩
def lamplighterref04_line.H (c : Ctx) (t0 : AV) (t1 : AV) (h : List AObj) (K : AOut → List AObj → Prop) : Prop :=
  boxW T_api_Mem t0 h fun t2 h =>
  runD (binD T_int .geq t1 (.int .i64 0)) h fun t6 h =>
  joinW (fun (J1 : AV → AV → List AObj → Prop) =>
  guardW t6 true
  (runD (fieldAddrD T_api_Mem t2 0) h fun t9 h =>
    runD (fitD T_sl_int (loadD h t9)) h fun t10 h =>
    runD (lenD T_sl_int h t10) h fun t11 h =>
    runD (binD T_int .quo t11 (.int .i64 8)) h fun t12 h =>
    runD (binD T_int .lss t1 t12) h fun t13 h =>
    J1 (.bool true) t13 h)
  (J1 (.bool false) .und h))
  (fun t7 t13 h => runD (pickD t7 t13 (.bool false)) h fun t14 h =>
  K (.ret t14) h)
def lamplighterref04_keep.loops : Nat → LInfo
  | 3 => ⟨[6], [false], [1, 2, 4, 5], [], [5]⟩
  | _ => ⟨[], [], [], [], []⟩
def lamplighterref04_keep.L1 (c : Ctx) (J1 : AV → AV → List AObj → Prop) (K : AOut → List AObj → Prop) (lv : List AV) (h0 : List AObj) (n0 : Nat) (c1 : AV) (c2 : AV) (c4 : AV) (c5 : AV) : Prop :=
  ∃ I : Nat → List AV → List AObj → Prop, (∃ n, I n lv h0) ∧ ∀ n h, ∀ t6, I n [t6] h →
    runD (fieldAddrD T_api_Mem c2 2) h fun t13 h =>
    runD (fitD T_sl_api_Pending (loadD h t13)) h fun t14 h =>
    runD (lenD T_sl_api_Pending h t14) h fun t15 h =>
    runD (binD T_int .lss t6 t15) h fun t16 h =>
    condW t16
    (runD (indexAddrD T_sl_bool h c1 t6) h fun t21 h =>
    runD (fitD T_bool (loadD h t21)) h fun t22 h =>
    joinW (fun (J2 : List AObj → Prop) =>
    condW t22
    (runD (fieldAddrD T_api_Mem c5 1) h fun t23 h =>
      runD (fitD T_sl_int (loadD h t23)) h fun t24 h =>
      runD (fieldAddrD T_api_Mem c2 2) h fun t25 h =>
      runD (fitD T_sl_api_Pending (loadD h t25)) h fun t26 h =>
      runD (indexAddrD T_sl_api_Pending h t26 t6) h fun t28 h =>
      runD (fieldAddrD T_api_Pending t28 0) h fun t29 h =>
      runD (fitD T_int (loadD h t29)) h fun t30 h =>
      runD (fieldAddrD T_api_Mem c2 2) h fun t31 h =>
      runD (fitD T_sl_api_Pending (loadD h t31)) h fun t32 h =>
      runD (indexAddrD T_sl_api_Pending h t32 t6) h fun t34 h =>
      runD (fieldAddrD T_api_Pending t34 1) h fun t35 h =>
      runD (fitD T_int (loadD h t35)) h fun t36 h =>
      callW c.noS (.fn (.func 126) [] []) [t24, t30, t36] h (fun t37 h =>
      runD (fieldAddrD T_api_Mem c5 1) h fun t38 h =>
      runH (storeH T_sl_int h t38 t37) h fun _ h =>
      J2 h)
      (fun _ _ => False))
    (runD (fieldAddrD T_api_Mem c5 2) h fun t39 h =>
      runD (fitD T_sl_api_Pending (loadD h t39)) h fun t40 h =>
      runD (fieldAddrD T_api_Mem c2 2) h fun t41 h =>
      runD (fitD T_sl_api_Pending (loadD h t41)) h fun t42 h =>
      runD (indexAddrD T_sl_api_Pending h t42 t6) h fun t44 h =>
      runD (fitD T_api_Pending (loadD h t44)) h fun t45 h =>
      runD (buildSliceD T_sl_api_Pending 1 [(0, t45)] h.length) h fun t46 h =>
      runDM (appendD T_sl_api_Pending h t40 t46 h.length) (appendH T_sl_api_Pending h t40 t46) h fun t47 h =>
      runD (fieldAddrD T_api_Mem c5 2) h fun t48 h =>
      runH (storeH T_sl_api_Pending h t48 t47) h fun _ h =>
      J2 h))
    (fun h => runD (binD T_int .add t6 (.int .i64 1)) h fun t18 h =>
    (∃ m, m < n ∧ I m (AV.norms n0 h [t18]) (normH n0 h)) ∧ AV.norms n0 h [c1, c2, c4, c5] = [c1, c2, c4, c5]))
    (J1 c4 c5 h)
def lamplighterref04_keep.H (c : Ctx) (t0 : AV) (t1 : AV) (h : List AObj) (K : AOut → List AObj → Prop) : Prop :=
  boxW T_api_Mem t0 h fun t2 h =>
  allocW T_api_Mem h fun t4 h =>
  runD (fieldAddrD T_api_Mem t2 0) h fun t7 h =>
  runD (fitD T_sl_int (loadD h t7)) h fun t8 h =>
  runD (fieldAddrD T_api_Mem t2 1) h fun t9 h =>
  runD (fitD T_sl_int (loadD h t9)) h fun t10 h =>
  runD (buildD T_api_Mem [(0, t8), (1, t10)]) h fun t11 h =>
  allocW T_api_Mem h fun t5 h =>
  runH (storeH T_api_Mem h t5 t11) h fun _ h =>
  joinW (fun (J1 : AV → AV → List AObj → Prop) =>
  promV [false] [(.int .i64 0)] (boxH [t5] h) fun lv h => lamplighterref04_keep.L1 c J1 K (AV.norms h.length h lv) (normH h.length h) h.length (AV.norm h.length h t1) (AV.norm h.length h t2) (AV.norm h.length h t4) (AV.norm h.length h t5))
  (fun t4 t5 h => runD (fitD T_api_Mem (loadD h t5)) h fun t49 h =>
  runH (storeH T_api_Mem h t4 t49) h fun _ h =>
  loadRes (fitD T_api_Mem (loadD h t4)) fun r0 => K (.ret r0) h)
theorem lamplighterref04_Few.eq (F : List (FuncId × Contract)) (S : List (FuncId × Con)) (t0 : AV) (h : List AObj) (K : AOut → List AObj → Prop) : funW (ctx F S lamplighterref04_Few.loops) Try.f62 [t0] h K = lamplighterref04_Few.H (ctx F S lamplighterref04_Few.loops) t0 h K := by kernel_rfl
theorem lamplighterref04_Same.eq (F : List (FuncId × Contract)) (S : List (FuncId × Con)) (t0 t1 : AV) (h : List AObj) (K : AOut → List AObj → Prop) : funW (ctx F S lamplighterref04_Same.loops) Try.f69 [t0, t1] h K = lamplighterref04_Same.H (ctx F S lamplighterref04_Same.loops) t0 t1 h K := by kernel_rfl
theorem lamplighterref04_Check.eq (F : List (FuncId × Contract)) (S : List (FuncId × Con)) (t0 : AV) (h : List AObj) (K : AOut → List AObj → Prop) : funW (ctx F S lamplighterref04_Check.loops) Try.f106 [t0] h K = lamplighterref04_Check.H (ctx F S lamplighterref04_Check.loops) t0 h K := by kernel_rfl
theorem lamplighterref04_Put.eq (F : List (FuncId × Contract)) (S : List (FuncId × Con)) (t0 t1 t2 : AV) (h : List AObj) (K : AOut → List AObj → Prop) : funW (ctx F S lamplighterref04_Put.loops) Try.f108 [t0, t1, t2] h K = lamplighterref04_Put.H (ctx F S lamplighterref04_Put.loops) t0 t1 t2 h K := by kernel_rfl
theorem lamplighterref04_Flush.eq (F : List (FuncId × Contract)) (S : List (FuncId × Con)) (t0 t1 : AV) (h : List AObj) (K : AOut → List AObj → Prop) : funW (ctx F S lamplighterref04_Flush.loops) Try.f109 [t0, t1] h K = lamplighterref04_Flush.H (ctx F S lamplighterref04_Flush.loops) t0 t1 h K := by kernel_rfl
theorem lamplighterref04_Fence.eq (F : List (FuncId × Contract)) (S : List (FuncId × Con)) (t0 : AV) (h : List AObj) (K : AOut → List AObj → Prop) : funW (ctx F S lamplighterref04_Fence.loops) Try.f110 [t0] h K = lamplighterref04_Fence.H (ctx F S lamplighterref04_Fence.loops) t0 h K := by kernel_rfl
theorem lamplighterref04_Crash.eq (F : List (FuncId × Contract)) (S : List (FuncId × Con)) (t0 t1 : AV) (h : List AObj) (K : AOut → List AObj → Prop) : funW (ctx F S lamplighterref04_Crash.loops) Try.f112 [t0, t1] h K = lamplighterref04_Crash.H (ctx F S lamplighterref04_Crash.loops) t0 t1 h K := by kernel_rfl
theorem lamplighterref04_set.eq (F : List (FuncId × Contract)) (S : List (FuncId × Con)) (t0 t1 t2 : AV) (h : List AObj) (K : AOut → List AObj → Prop) : funW (ctx F S lamplighterref04_set.loops) Try.f126 [t0, t1, t2] h K = lamplighterref04_set.H (ctx F S lamplighterref04_set.loops) t0 t1 t2 h K := by kernel_rfl
theorem lamplighterref04_line.eq (F : List (FuncId × Contract)) (S : List (FuncId × Con)) (t0 t1 : AV) (h : List AObj) (K : AOut → List AObj → Prop) : funW (ctx F S lamplighterref04_line.loops) Try.f127 [t0, t1] h K = lamplighterref04_line.H (ctx F S lamplighterref04_line.loops) t0 t1 h K := by kernel_rfl
theorem lamplighterref04_keep.eq (F : List (FuncId × Contract)) (S : List (FuncId × Con)) (t0 t1 : AV) (h : List AObj) (K : AOut → List AObj → Prop) : funW (ctx F S lamplighterref04_keep.loops) Try.f128 [t0, t1] h K = lamplighterref04_keep.H (ctx F S lamplighterref04_keep.loops) t0 t1 h K := by kernel_rfl
theorem lamplighterref04_Few.at : Try.prog.funcs[62]? = some Try.f62 := by kernel_rfl
theorem lamplighterref04_Few.nm : (Try.f62.name == "runtime.NumGoroutine") = false := by kernel_rfl
theorem lamplighterref04_Few.bd : Try.f62.body.isNone = false := by kernel_rfl
theorem lamplighterref04_Same.at : Try.prog.funcs[69]? = some Try.f69 := by kernel_rfl
theorem lamplighterref04_Same.nm : (Try.f69.name == "runtime.NumGoroutine") = false := by kernel_rfl
theorem lamplighterref04_Same.bd : Try.f69.body.isNone = false := by kernel_rfl
theorem lamplighterref04_Check.at : Try.prog.funcs[106]? = some Try.f106 := by kernel_rfl
theorem lamplighterref04_Check.nm : (Try.f106.name == "runtime.NumGoroutine") = false := by kernel_rfl
theorem lamplighterref04_Check.bd : Try.f106.body.isNone = false := by kernel_rfl
theorem lamplighterref04_Put.at : Try.prog.funcs[108]? = some Try.f108 := by kernel_rfl
theorem lamplighterref04_Put.nm : (Try.f108.name == "runtime.NumGoroutine") = false := by kernel_rfl
theorem lamplighterref04_Put.bd : Try.f108.body.isNone = false := by kernel_rfl
theorem lamplighterref04_Flush.at : Try.prog.funcs[109]? = some Try.f109 := by kernel_rfl
theorem lamplighterref04_Flush.nm : (Try.f109.name == "runtime.NumGoroutine") = false := by kernel_rfl
theorem lamplighterref04_Flush.bd : Try.f109.body.isNone = false := by kernel_rfl
theorem lamplighterref04_Fence.at : Try.prog.funcs[110]? = some Try.f110 := by kernel_rfl
theorem lamplighterref04_Fence.nm : (Try.f110.name == "runtime.NumGoroutine") = false := by kernel_rfl
theorem lamplighterref04_Fence.bd : Try.f110.body.isNone = false := by kernel_rfl
theorem lamplighterref04_Crash.at : Try.prog.funcs[112]? = some Try.f112 := by kernel_rfl
theorem lamplighterref04_Crash.nm : (Try.f112.name == "runtime.NumGoroutine") = false := by kernel_rfl
theorem lamplighterref04_Crash.bd : Try.f112.body.isNone = false := by kernel_rfl
theorem lamplighterref04_set.at : Try.prog.funcs[126]? = some Try.f126 := by kernel_rfl
theorem lamplighterref04_set.nm : (Try.f126.name == "runtime.NumGoroutine") = false := by kernel_rfl
theorem lamplighterref04_set.bd : Try.f126.body.isNone = false := by kernel_rfl
theorem lamplighterref04_line.at : Try.prog.funcs[127]? = some Try.f127 := by kernel_rfl
theorem lamplighterref04_line.nm : (Try.f127.name == "runtime.NumGoroutine") = false := by kernel_rfl
theorem lamplighterref04_line.bd : Try.f127.body.isNone = false := by kernel_rfl
theorem lamplighterref04_keep.at : Try.prog.funcs[128]? = some Try.f128 := by kernel_rfl
theorem lamplighterref04_keep.nm : (Try.f128.name == "runtime.NumGoroutine") = false := by kernel_rfl
theorem lamplighterref04_keep.bd : Try.f128.body.isNone = false := by kernel_rfl
end Lam
namespace Lam
open Go Go.Proofs
set_option linter.unusedVariables false
set_option linter.unnecessarySimpa false
set_option linter.unusedSimpArgs false
def lamplighterref04_Few.C : Contract
  | [.agg [.sl false (.ints .i64 vol), .sl false (.ints .i64 per), .sl false (.pends pend)]] => some (false, pD True (.bool (fewB vol per pend)))
  | _ => none
set_option maxRecDepth 20000 in
theorem lamplighterref04_Few.spec : FSpec Try.prog 62 lamplighterref04_Few.C := by
  refine FSpec.of (ctx_ok (F := []) (S := []) (by simp) (by simp) lamplighterref04_Few.loops) lamplighterref04_Few.at lamplighterref04_Few.nm lamplighterref04_Few.bd ?_
  intro vs b S v news e hS
  unfold lamplighterref04_Few.C at e
  split at e
  rotate_left
  · cases e
  cases e
  rw [lamplighterref04_Few.eq]
  unfold lamplighterref04_Few.H
  simp (maxSteps := 4000000) only [go_sem, Nat.reduceEqDiff, Nat.reduceLT, Nat.reduceAdd, Nat.reduceSub, Nat.reduceLeDiff, List.reduceReplicate, Int.reduceToNat]
  rename_i vol per pend
  have e1 : decide ((vol.length : Int) ≤ 300) = decide (vol.length ≤ 300) := decide_eq_decide.2 (by omega)
  have e2 : decide ((per.length : Int) ≤ 300) = decide (per.length ≤ 300) := decide_eq_decide.2 (by omega)
  have e3 : decide ((pend.length : Int) ≤ 100) = decide (pend.length ≤ 100) := decide_eq_decide.2 (by omega)
  rw [e1, e2, e3]
  exact post_val rfl rfl
def sameB (vol per : List Int) (pend : List Pend) (vol' per' : List Int) (pend' : List Pend) : Bool := decide (vol = vol') && decide (per = per') && decide (pend = pend')
theorem sameB_self (v p : List Int) (q : List Pend) : sameB v p q v p q = true := by simp [sameB]
def lamplighterref04_Same.C : Contract
  | [.agg [.sl false (.ints .i64 vol), .sl false (.ints .i64 per), .sl false (.pends pend)], .agg [.sl false (.ints .i64 vol'), .sl false (.ints .i64 per'), .sl false (.pends pend')]] => some (false, pD (smallM vol per pend) (.bool (sameB vol per pend vol' per' pend')))
  | _ => none
set_option maxRecDepth 20000 in
theorem lamplighterref04_Same.spec : FSpec Try.prog 69 lamplighterref04_Same.C := by
  refine FSpec.of (ctx_ok (F := [(22, lamplighterref02_Numbers.C)]) (S := []) (by simpa using lamplighterref02_Numbers.spec) (by simp) lamplighterref04_Same.loops) lamplighterref04_Same.at lamplighterref04_Same.nm lamplighterref04_Same.bd ?_
  intro vs b S v news e hS
  unfold lamplighterref04_Same.C at e
  split at e
  rotate_left
  · cases e
  cases e
  rw [lamplighterref04_Same.eq]
  unfold lamplighterref04_Same.H
  simp (maxSteps := 4000000) only [go_sem, Nat.reduceEqDiff, Nat.reduceLT, Nat.reduceAdd, Nat.reduceSub, Nat.reduceLeDiff, List.reduceReplicate, Int.reduceToNat, lamplighterref02_Numbers.C]
  rename_i vol per pend vol' per' pend'
  obtain ⟨s1, s2, s3⟩ := hS
  unfold roomy at s1 s2 s3
  refine ⟨s1, s2, fun hne => ?_, fun heq => ?_⟩
  · have : sameB vol per pend vol' per' pend' = false := by
      simp only [Bool.or_eq_true, Bool.not_eq_true', decide_eq_false_iff_not] at hne
      unfold sameB
      rcases hne with (h | h) | h
      · simp [h]
      · simp [h]
      · have : pend ≠ pend' := by rintro rfl; exact h rfl
        simp [this]
    rw [this]; exact post_val rfl rfl
  simp only [Bool.or_eq_false_iff, Bool.not_eq_false', decide_eq_true_eq] at heq
  obtain ⟨⟨h1, h2⟩, h3⟩ := heq
  have hlen : pend.length = pend'.length := by omega
  rw [joinW_eq]
  unfold lamplighterref04_Same.L1
  refine loop1 (fun k : Nat => .int .i64 k) (fun _ => [.box (memV vol per pend), .box (memV vol' per' pend')]) (fun k => pend.length - k) (fun k => k ≤ pend.length ∧ ∀ i, i < k → pend.getD i ⟨0, 0, false⟩ = pend'.getD i ⟨0, 0, false⟩) 0 rfl rfl ⟨Nat.zero_le _, fun i hi => absurd hi (Nat.not_lt_zero i)⟩ ?_
  rintro I back k ⟨hk, hall⟩
  simp only [go_sem, Nat.reduceEqDiff, Nat.reduceLT, Nat.reduceAdd, Nat.reduceSub, Nat.reduceLeDiff, List.reduceReplicate, Int.reduceToNat]
  have hd : ∀ a b : Pend, (decide (a.at_ = b.at_) && (decide (a.val = b.val) && a.fl == b.fl)) = decide (a = b) := fun a b => by
    cases a; cases b; rw [Bool.eq_iff_iff]; simp only [Bool.and_eq_true, Bool.or_eq_true, Bool.not_eq_true', Bool.not_eq_false', Bool.not_eq_true, decide_eq_true_eq, decide_eq_false_iff_not, Bool.or_eq_false_iff, Bool.and_eq_false_iff, beq_iff_eq]; simp
  rw [hd]
  refine ⟨fun hlt => ⟨by omega, by omega, fun h0 => ?_, fun h0 => ?_⟩, fun hge => ?_⟩
  · rw [decide_eq_false_iff_not] at h0
    have : pend ≠ pend' := by rintro rfl; exact h0 rfl
    have : sameB vol per pend vol' per' pend' = false := by unfold sameB; simp [this]
    rw [this]; exact post_val rfl rfl
  · rw [decide_eq_true_eq] at h0
    refine back (k + 1) (by omega) (by rw [wnext (by omega)]) rfl ⟨by omega, fun i hi => ?_⟩
    by_cases e : i = k
    · subst e; exact h0
    · exact hall i (by omega)
  · have h4 : pend = pend' := ext_d _ hlen fun i hi => hall i (by omega)
    have : sameB vol per pend vol' per' pend' = true := by unfold sameB; simp [h1, h2, h4]
    rw [this]; exact post_val rfl rfl
def lamplighterref04_set.C : Contract
  | [.sl _ (.ints .i64 l), .int .i64 at_, .int .i64 val] => some (false, pD (0 ≤ at_ ∧ at_ < (l.length : Int) ∧ roomy l.length) (.sl false (.ints .i64 (l.set at_.toNat val))))
  | _ => none
set_option maxRecDepth 20000 in
theorem lamplighterref04_set.spec : FSpec Try.prog 126 lamplighterref04_set.C := by
  refine FSpec.of (ctx_ok (F := []) (S := []) (by simp) (by simp) lamplighterref04_set.loops) lamplighterref04_set.at lamplighterref04_set.nm lamplighterref04_set.bd ?_
  intro vs b S v news e hS
  unfold lamplighterref04_set.C at e
  split at e
  rotate_left
  · cases e
  cases e
  rw [lamplighterref04_set.eq]
  unfold lamplighterref04_set.H
  simp (maxSteps := 4000000) only [go_sem, Nat.reduceEqDiff, Nat.reduceLT, Nat.reduceAdd, Nat.reduceSub, Nat.reduceLeDiff, List.reduceReplicate, Int.reduceToNat]
  rename_i l at_ val
  obtain ⟨h0, h1, hr⟩ := hS
  refine ⟨hr, ⟨h0, h1⟩, by omega, post_val ?_ rfl⟩
  simp only [go_sem, Nat.reduceEqDiff, Nat.reduceLT, Nat.reduceAdd, Nat.reduceSub, Nat.reduceLeDiff, List.reduceReplicate, Int.reduceToNat, take_len _ (Nat.le_of_eq List.length_set)]
def lamplighterref04_line.C : Contract
  | [.agg [.sl false (.ints .i64 vol), .sl false (.ints .i64 per), .sl false (.pends pend)], .int .i64 n] => some (false, pD (roomy vol.length) (.bool (decide (0 ≤ n) && decide (n < ((vol.length / 8 : Nat) : Int)))))
  | _ => none
set_option maxRecDepth 20000 in
theorem lamplighterref04_line.spec : FSpec Try.prog 127 lamplighterref04_line.C := by
  refine FSpec.of (ctx_ok (F := []) (S := []) (by simp) (by simp) lamplighterref04_line.loops) lamplighterref04_line.at lamplighterref04_line.nm lamplighterref04_line.bd ?_
  intro vs b S v news e hS
  unfold lamplighterref04_line.C at e
  split at e
  rotate_left
  · cases e
  cases e
  rw [lamplighterref04_line.eq]
  unfold lamplighterref04_line.H
  simp (maxSteps := 4000000) only [go_sem, Nat.reduceEqDiff, Nat.reduceLT, Nat.reduceAdd, Nat.reduceSub, Nat.reduceLeDiff, List.reduceReplicate, Int.reduceToNat]
  rename_i vol per pend n
  unfold roomy at hS
  rw [wdiv8 (by omega)]
  exact ⟨fun _ => by decide, post_val rfl rfl⟩
def lamplighterref04_Check.C : Contract
  | [.agg [.sl false (.ints .i64 vol), .sl false (.ints .i64 per), .sl false (.pends pend)]] => some (false, pD (smallM vol per pend) (.bool (checkB vol per pend)))
  | _ => none
set_option maxRecDepth 20000 in
theorem lamplighterref04_Check.spec : FSpec Try.prog 106 lamplighterref04_Check.C := by
  refine FSpec.of (ctx_ok (F := [(22, lamplighterref02_Numbers.C)]) (S := []) (by simpa using lamplighterref02_Numbers.spec) (by simp) lamplighterref04_Check.loops) lamplighterref04_Check.at lamplighterref04_Check.nm lamplighterref04_Check.bd ?_
  intro vs b S v news e hS
  unfold lamplighterref04_Check.C at e
  split at e
  rotate_left
  · cases e
  cases e
  rw [lamplighterref04_Check.eq]
  unfold lamplighterref04_Check.H
  simp (maxSteps := 4000000) only [go_sem, Nat.reduceEqDiff, Nat.reduceLT, Nat.reduceAdd, Nat.reduceSub, Nat.reduceLeDiff, List.reduceReplicate, Int.reduceToNat, lamplighterref02_Numbers.C]
  rename_i vol per pend
  obtain ⟨s1, s2, s3⟩ := hS
  unfold roomy at s1 s2 s3
  refine ⟨fun _ => by decide, fun h => ?_, fun h => ⟨s2, ?_⟩⟩
  · have : checkB vol per pend = false := by
      cases e : checkB vol per pend with
      | false => rfl
      | true =>
        have := check_iff.1 e
        have h1 := this.len
        have h2 := this.sz
        have h3 := this.md
        simp only [Bool.or_eq_true, Bool.not_eq_true', decide_eq_true_eq, decide_eq_false_iff_not] at h
        rw [Int.tmod_eq_emod_of_nonneg (by omega)] at h
        omega
    rw [this]; exact post_val rfl rfl
  simp only [Bool.or_eq_false_iff, Bool.not_eq_false', decide_eq_true_eq, decide_eq_false_iff_not] at h
  have hlen : vol.length = per.length := by omega
  have hmd : vol.length % 8 = 0 := by
    have := h.2
    rw [Int.tmod_eq_emod_of_nonneg (by omega)] at this
    omega
  rw [joinW_eq]
  unfold lamplighterref04_Check.L1
  refine loop1 (σ := Nat) (fun k => .int .i64 k) (fun k => [.box (memV vol per pend), .row .own 0 (.ints .i64 []), .row .own 0 (.ints .i64 (app (pend.take k) per))]) (fun k => pend.length - k)
    (fun k => k ≤ pend.length ∧ (∀ p ∈ pend.take k, 0 ≤ p.at_ ∧ p.at_ < (vol.length : Int)) ∧ LineWise (fun p => p.fl) (pend.take k)) 0 rfl rfl ⟨Nat.zero_le _, by simp, by simp [LineWise]⟩ ?_
  rintro I back k ⟨hk, hrg, hlw⟩
  simp only [go_sem, Nat.reduceEqDiff, Nat.reduceLT, Nat.reduceAdd, Nat.reduceSub, Nat.reduceLeDiff, List.reduceReplicate, Int.reduceToNat, app_len]
  refine ⟨fun hlt => ⟨by omega, ?_⟩, fun hge => ?_⟩
  · have hkl : k < pend.length := by omega
    have hmem := getD_mem pend k ⟨0, 0, false⟩ hkl
    have htk := take_next pend k ⟨0, 0, false⟩ hkl
    generalize pend.getD k ⟨0, 0, false⟩ = p at *
    refine ⟨fun hb => ?_, fun hb => ?_⟩
    · have : checkB vol per pend = false := by
        cases e : checkB vol per pend with
        | false => rfl
        | true =>
          have := (check_iff.1 e).rng p hmem
          simp only [Bool.or_eq_true, decide_eq_true_eq] at hb
          omega
      rw [this]; exact post_val rfl rfl
    rw [Bool.or_eq_false_iff, decide_eq_false_iff_not, decide_eq_false_iff_not] at hb
    rw [joinW_eq]
    unfold lamplighterref04_Check.L2
    refine loop1 (σ := Nat) (fun j => .int .i64 j) (fun _ => [.box (memV vol per pend), .row .own 0 (.ints .i64 []), .row .own 0 (.ints .i64 (app (pend.take k) per)), .box (.agg [.int .i64 p.at_, .int .i64 p.val, .bool p.fl])]) (fun j => k - j)
      (fun j => j ≤ k ∧ ∀ q ∈ pend.take j, lineOf q.at_ = lineOf p.at_ → p.fl = true → q.fl = true) 0 rfl rfl ⟨Nat.zero_le _, by simp⟩ ?_
    rintro I2 back2 j ⟨hj, hall⟩
    simp only [go_sem, Nat.reduceEqDiff, Nat.reduceLT, Nat.reduceAdd, Nat.reduceSub, Nat.reduceLeDiff, List.reduceReplicate, Int.reduceToNat, app_len]
    refine ⟨fun hc => ?_, fun hc => ?_⟩
    · rw [Bool.and_eq_true, decide_eq_true_eq] at hc
      obtain ⟨hjk, hfl⟩ := hc
      have hjp : j < pend.length := by omega
      have hjm : pend.getD j ⟨0, 0, false⟩ ∈ pend.take k := by
        have : j < (pend.take k).length := by rw [List.length_take]; omega
        have e : (pend.take k).getD j ⟨0, 0, false⟩ = pend.getD j ⟨0, 0, false⟩ := by
          rw [List.getD_eq_getElem?_getD, List.getElem?_take, if_pos (by omega), List.getD_eq_getElem?_getD]
        rw [← e]; exact getD_mem _ _ _ this
      have htj := take_next pend j ⟨0, 0, false⟩ hjp
      generalize pend.getD j ⟨0, 0, false⟩ = q at *
      refine ⟨by omega, by decide, by decide, fun _ => by omega, fun hx => ?_, fun hx => ?_⟩
      · rw [Bool.and_eq_true, decide_eq_true_eq, Bool.not_eq_true'] at hx
        have : checkB vol per pend = false := by
          cases e : checkB vol per pend with
          | false => rfl
          | true =>
            have h2 := (check_iff.1 e).ord.sublist (List.take_sublist (k + 1) pend)
            rw [htk, List.pairwise_append] at h2
            have h3 : q.fl = true := h2.2.2 q hjm p (by simp) hx.1 hfl
            rw [hx.2] at h3; cases h3
        rw [this]; exact post_val rfl rfl
      · refine back2 (j + 1) (by omega) (by rw [wnext (by omega)]) rfl ⟨by omega, fun r hr hl hf => ?_⟩
        rw [htj, List.mem_append, List.mem_singleton] at hr
        rcases hr with hr | rfl
        · exact hall r hr hl hf
        · rw [Bool.and_eq_false_iff, decide_eq_false_iff_not, Bool.not_eq_false'] at hx
          rcases hx with hx | hx
          · exact absurd hl hx
          · exact hx
    · refine ⟨⟨by omega, by omega⟩, by omega, back (k + 1) (by omega) (by rw [wnext (by omega)]) ?_ ⟨by omega, fun q hq => ?_, ?_⟩⟩
      · rw [htk, app_append]; rfl
      · rw [htk, List.mem_append, List.mem_singleton] at hq
        rcases hq with hq | rfl
        · exact hrg q hq
        · omega
      · unfold LineWise
        rw [htk, List.pairwise_append]
        refine ⟨hlw, List.pairwise_singleton _ _, fun q hq r hr hl hf => ?_⟩
        rw [List.mem_singleton] at hr; subst hr
        rw [Bool.and_eq_false_iff, decide_eq_false_iff_not] at hc
        rcases hc with hc | hc
        · exact hall q (by rw [show j = k by omega]; exact hq) hl hf
        · have hf : r.fl = true := hf
          rw [hc] at hf; cases hf
  · obtain rfl : k = pend.length := by omega
    rw [List.take_length] at *
    have e : (app pend per).take per.length = app pend per := take_len _ (by rw [app_len]; exact Nat.le_refl _)
    rw [e]
    simp only [lamplighterref02_Numbers.C, go_sem, Nat.reduceEqDiff, Nat.reduceLT, Nat.reduceAdd, Nat.reduceSub, Nat.reduceLeDiff, List.reduceReplicate, Int.reduceToNat, app_len]
    refine ⟨s2, ?_⟩
    have : checkB vol per pend = decide (app pend per = vol) := by
      by_cases e : app pend per = vol
      · rw [decide_eq_true e, check_iff]
        exact ⟨hlen, by omega, hmd, fun p hp => by have := hrg p hp; omega, hlw, e⟩
      · rw [decide_eq_false e]
        cases c : checkB vol per pend with
        | false => rfl
        | true => exact absurd (check_iff.1 c).eq e
    rw [this]; exact post_val rfl rfl
def lamplighterref04_Put.C : Contract
  | [.agg [.sl false (.ints .i64 vol), .sl false (.ints .i64 per), .sl false (.pends pend)], .int .i64 at_, .int .i64 val] => some (false, pD (smallM vol per pend ∧ roomy (pend.length + 1)) (putM vol per pend at_ val))
  | _ => none
set_option maxRecDepth 20000 in
theorem lamplighterref04_Put.spec : FSpec Try.prog 108 lamplighterref04_Put.C := by
  refine FSpec.of (ctx_ok (F := [(106, lamplighterref04_Check.C), (126, lamplighterref04_set.C)]) (S := []) (by simpa using ⟨lamplighterref04_Check.spec, lamplighterref04_set.spec⟩) (by simp) lamplighterref04_Put.loops) lamplighterref04_Put.at lamplighterref04_Put.nm lamplighterref04_Put.bd ?_
  intro vs b S v news e hS
  unfold lamplighterref04_Put.C at e
  split at e
  rotate_left
  · cases e
  cases e
  rw [lamplighterref04_Put.eq]
  unfold lamplighterref04_Put.H
  simp (maxSteps := 4000000) only [go_sem, Nat.reduceEqDiff, Nat.reduceLT, Nat.reduceAdd, Nat.reduceSub, Nat.reduceLeDiff, List.reduceReplicate, Int.reduceToNat, lamplighterref04_Check.C, lamplighterref04_set.C]
  rename_i vol per pend at_ val
  obtain ⟨hS, hr⟩ := hS
  have e : (!checkB vol per pend || decide (at_ < 0) || decide ((vol.length : Int) ≤ at_)) = !placeB vol per pend at_ := by
    unfold placeB
    cases checkB vol per pend
    · simp
    · rw [Bool.eq_iff_iff]; simp only [Bool.and_eq_true, Bool.or_eq_true, Bool.not_eq_true', Bool.not_eq_false', Bool.not_eq_true, decide_eq_true_eq, decide_eq_false_iff_not, Bool.or_eq_false_iff, Bool.and_eq_false_iff, beq_iff_eq]; simp <;> omega
  rw [e]
  refine ⟨hS, fun h => ?_, fun h => ?_⟩
  · rw [Bool.not_eq_true'] at h
    unfold putM; rw [h]; exact post_val rfl rfl
  · rw [Bool.not_eq_false'] at h
    have hp : 0 ≤ at_ ∧ at_ < (vol.length : Int) := by
      simp only [placeB, Bool.and_eq_true, decide_eq_true_eq] at h
      exact h.1
    have hl : (pend ++ [(⟨at_, val, false⟩ : Pend)]).length = pend.length + 1 := by simp
    refine ⟨⟨hp.1, hp.2, hS.1⟩, hS.2.2, by rw [hl]; exact hr, rfl, rfl, ?_⟩
    unfold putM; simp only [h, if_true]
    refine post_val ?_ rfl
    simp only [go_sem, Nat.reduceEqDiff, Nat.reduceLT, Nat.reduceAdd, Nat.reduceSub, Nat.reduceLeDiff, List.reduceReplicate, Int.reduceToNat, List.take_length]
def lamplighterref04_Flush.C : Contract
  | [.agg [.sl false (.ints .i64 vol), .sl false (.ints .i64 per), .sl false (.pends pend)], .int .i64 line] => some (false, pD (smallM vol per pend) (flushM vol per pend line))
  | _ => none
set_option maxRecDepth 20000 in
theorem lamplighterref04_Flush.spec : FSpec Try.prog 109 lamplighterref04_Flush.C := by
  refine FSpec.of (ctx_ok (F := [(106, lamplighterref04_Check.C), (127, lamplighterref04_line.C)]) (S := []) (by simpa using ⟨lamplighterref04_Check.spec, lamplighterref04_line.spec⟩) (by simp) lamplighterref04_Flush.loops) lamplighterref04_Flush.at lamplighterref04_Flush.nm lamplighterref04_Flush.bd ?_
  intro vs b S v news e hS
  unfold lamplighterref04_Flush.C at e
  split at e
  rotate_left
  · cases e
  cases e
  rw [lamplighterref04_Flush.eq]
  unfold lamplighterref04_Flush.H
  simp (maxSteps := 4000000) only [go_sem, Nat.reduceEqDiff, Nat.reduceLT, Nat.reduceAdd, Nat.reduceSub, Nat.reduceLeDiff, List.reduceReplicate, Int.reduceToNat, lamplighterref04_Check.C, lamplighterref04_line.C]
  rename_i vol per pend line
  rw [place_first (vol := vol) hS]
  obtain ⟨s1, s2, s3⟩ := hS
  refine ⟨⟨s1, s2, s3⟩, fun _ => s1, fun h => ?_, fun h => ?_⟩
  · rw [Bool.not_eq_true'] at h
    unfold flushM; rw [h]; exact post_val rfl rfl
  rw [Bool.not_eq_false'] at h
  unfold roomy at s1 s2 s3
  rw [joinW_eq]
  unfold lamplighterref04_Flush.L1
  refine loop1 (σ := Nat × Nat) (fun s => .int .i64 s.1) (fun s => [.box (memV vol per pend), .box (memV [] [] []), .box (.agg [.sl false (.ints .i64 vol), .sl false (.ints .i64 per), .sref false 3 s.2 0 s.1]), .row .own s.2 (.pends (flushP line (pend.take s.1)))]) (fun s => pend.length - s.1) (fun s => s.1 ≤ pend.length) (0, 0) rfl rfl (Nat.zero_le _) ?_
  rintro I back ⟨k, v⟩ hk
  simp only [] at hk ⊢
  have hfl : (flushP line (pend.take k)).length = k := by unfold flushP; simp; omega
  have hsn : ∀ p : Pend, flushP line [p] = [⟨p.at_, p.val, p.fl || decide (lineOf p.at_ = line)⟩] := fun p => by
    unfold flushP
    by_cases e : lineOf p.at_ = line <;> simp [e]
  have happ : ∀ a b : List Pend, flushP line (a ++ b) = flushP line a ++ flushP line b := fun a b => by unfold flushP; simp
  simp only [go_sem, Nat.reduceEqDiff, Nat.reduceLT, Nat.reduceAdd, Nat.reduceSub, Nat.reduceLeDiff, List.reduceReplicate, Int.reduceToNat, hfl]
  refine ⟨fun hlt => ⟨by omega, fun _ => by decide, ?_⟩, fun hge => ?_⟩
  · have hkl : k < pend.length := by omega
    have hnx : flushP line (pend.take (k + 1)) = flushP line (pend.take k) ++ [⟨(pend.getD k ⟨0, 0, false⟩).at_, (pend.getD k ⟨0, 0, false⟩).val, (pend.getD k ⟨0, 0, false⟩).fl || decide (lineOf (pend.getD k ⟨0, 0, false⟩).at_ = line)⟩] := by
      rw [take_next pend k ⟨0, 0, false⟩ hkl, happ, hsn]
    have hl1 : (flushP line (pend.take (k + 1))).length = k + 1 := by unfold flushP; simp; omega
    unfold lineOf at hnx
    rw [← hnx, hl1]
    exact ⟨by unfold roomy; omega, back (k + 1, v + 1) (by show _ - (k + 1) < _ - k; omega) (by rw [wnext (by omega)]) rfl (by omega)⟩
  · obtain rfl : k = pend.length := by omega
    rw [List.take_length] at hfl ⊢
    unfold flushM
    simp only [h, if_true]
    refine post_val ?_ rfl
    simp only [go_sem, Nat.reduceEqDiff, Nat.reduceLT, Nat.reduceAdd, Nat.reduceSub, Nat.reduceLeDiff, List.reduceReplicate, Int.reduceToNat, take_len _ (Nat.le_of_eq hfl)]
def keptB : List Bool → List Pend → List Pend
  | true :: bs, p :: ps => p :: keptB bs ps
  | false :: bs, p :: ps => keptB bs ps
  | _, _ => []
def restB : List Bool → List Pend → List Pend
  | true :: bs, p :: ps => restB bs ps
  | false :: bs, p :: ps => p :: restB bs ps
  | _, _ => []
theorem keptB_map (f : Pend → Bool) : ∀ l : List Pend, keptB (l.map f) l = l.filter f
  | [] => rfl
  | p :: r => by
    have ih := keptB_map f r
    cases h : f p <;> simp [h, keptB, ih]
theorem restB_map (f : Pend → Bool) : ∀ l : List Pend, restB (l.map f) l = keepP f l
  | [] => rfl
  | p :: r => by
    have ih := restB_map f r
    unfold keepP at ih ⊢
    cases h : f p <;> simp [h, restB, ih]
theorem kept_snoc (b : Bool) (p : Pend) : ∀ (bs : List Bool) (l : List Pend), bs.length = l.length → keptB (bs ++ [b]) (l ++ [p]) = (match b with | true => keptB bs l ++ [p] | false => keptB bs l) ∧ restB (bs ++ [b]) (l ++ [p]) = (match b with | true => restB bs l | false => restB bs l ++ [p])
  | [], [], _ => by cases b <;> exact ⟨rfl, rfl⟩
  | [], _ :: _, h => by cases h
  | _ :: _, [], h => by cases h
  | c :: bs, q :: l, h => by
    have ih := kept_snoc b p bs l (by simpa using h)
    cases c <;> cases b <;> simp [keptB, restB, ih.1, ih.2]
theorem restB_len : ∀ (bs : List Bool) (l : List Pend), (restB bs l).length ≤ l.length
  | [], l => by simp [restB]
  | b :: bs, [] => by simp [restB]
  | b :: bs, p :: l => by
    have := restB_len bs l
    cases b <;> simp [restB] <;> omega
def lamplighterref04_keep.C : Contract
  | [.agg [.sl false (.ints .i64 vol), .sl false (.ints .i64 per), .sl false (.pends pend)], .sl _ (.bools those)] => some (false, pD (smallM vol per pend ∧ those.length = pend.length ∧ ∀ p ∈ pend, 0 ≤ p.at_ ∧ p.at_ < (per.length : Int)) (memV vol (app (keptB those pend) per) (restB those pend)))
  | _ => none
set_option maxRecDepth 20000 in
theorem lamplighterref04_keep.spec : FSpec Try.prog 128 lamplighterref04_keep.C := by
  refine FSpec.of (ctx_ok (F := [(126, lamplighterref04_set.C)]) (S := []) (by simpa using lamplighterref04_set.spec) (by simp) lamplighterref04_keep.loops) lamplighterref04_keep.at lamplighterref04_keep.nm lamplighterref04_keep.bd ?_
  intro vs b S v news e hS
  unfold lamplighterref04_keep.C at e
  split at e
  rotate_left
  · cases e
  cases e
  rw [lamplighterref04_keep.eq]
  unfold lamplighterref04_keep.H
  simp (maxSteps := 4000000) only [go_sem, Nat.reduceEqDiff, Nat.reduceLT, Nat.reduceAdd, Nat.reduceSub, Nat.reduceLeDiff, List.reduceReplicate, Int.reduceToNat, lamplighterref04_set.C]
  rename_i vol per pend _ those
  obtain ⟨⟨s1, s2, s3⟩, hl, hrange⟩ := hS
  unfold roomy at s1 s2 s3
  rw [joinW_eq]
  unfold lamplighterref04_keep.L1
  refine loop1 (σ := Nat × Nat) (fun s => .int .i64 s.1) (fun s => [.box (memV vol per pend), .box (memV [] [] []), .box (.agg [.sl false (.ints .i64 vol), .sl false (.ints .i64 (app (keptB (those.take s.1) (pend.take s.1)) per)), .sref false 3 s.2 0 (restB (those.take s.1) (pend.take s.1)).length]), .row .own s.2 (.pends (restB (those.take s.1) (pend.take s.1)))]) (fun s => pend.length - s.1)
    (fun s => s.1 ≤ pend.length) (0, 0) rfl ?_ (Nat.zero_le _) ?_
  · simp only [List.take_zero]; rfl
  rintro I back ⟨k, v⟩ hk
  simp only [] at hk ⊢
  have hrl := restB_len (those.take k) (pend.take k)
  rw [List.length_take] at hrl
  simp only [go_sem, Nat.reduceEqDiff, Nat.reduceLT, Nat.reduceAdd, Nat.reduceSub, Nat.reduceLeDiff, List.reduceReplicate, Int.reduceToNat, app_len]
  refine ⟨fun hlt => ⟨by omega, ?_⟩, fun hge => ?_⟩
  · have hkl : k < pend.length := by omega
    have hr := hrange _ (getD_mem pend k ⟨0, 0, false⟩ hkl)
    have hs := kept_snoc (those.getD k false) (pend.getD k ⟨0, 0, false⟩) (those.take k) (pend.take k) (by simp; omega)
    rw [← take_next pend k ⟨0, 0, false⟩ hkl, ← take_next those k false (by omega)] at hs
    generalize pend.getD k ⟨0, 0, false⟩ = p at *
    generalize those.getD k false = b at *
    rw [joinW_eq]
    refine ⟨fun hb => ⟨by omega, by omega, ?_⟩, fun hb => ⟨by omega, ?_, ?_⟩⟩
    · subst hb
      simp only [lamplighterref04_set.C, go_sem, Nat.reduceEqDiff, Nat.reduceLT, Nat.reduceAdd, Nat.reduceSub, Nat.reduceLeDiff, List.reduceReplicate, Int.reduceToNat, app_len]
      refine ⟨⟨hr.1, hr.2, s2⟩, back (k + 1, v) (by show _ - (k + 1) < _ - k; omega) (by rw [wnext (by omega)]) ?_ (by show k + 1 ≤ _; omega)⟩
      simp only [hs, app_append, app, memV]
    · unfold roomy; simp; omega
    · subst hb
      simp only [go_sem, Nat.reduceEqDiff, Nat.reduceLT, Nat.reduceAdd, Nat.reduceSub, Nat.reduceLeDiff, List.reduceReplicate, Int.reduceToNat]
      refine back (k + 1, v + 1) (by show _ - (k + 1) < _ - k; omega) (by rw [wnext (by omega)]) ?_ (by show k + 1 ≤ _; omega)
      simp only [hs, memV]
  · obtain rfl : k = pend.length := by omega
    rw [List.take_length, ← hl, List.take_length]
    refine post_val ?_ rfl
    simp only [go_sem, Nat.reduceEqDiff, Nat.reduceLT, Nat.reduceAdd, Nat.reduceSub, Nat.reduceLeDiff, List.reduceReplicate, Int.reduceToNat, List.take_length]
theorem placeB_line {vol per : List Int} {pend : List Pend} {line : Int} (hs : smallM vol per pend) : (!checkB vol per pend || !(decide (0 ≤ line) && decide (line < ((vol.length / 8 : Nat) : Int)))) = !placeB vol per pend (firstI vol line) := place_first hs line
def lamplighterref04_Fence.C : Contract
  | [.agg [.sl false (.ints .i64 vol), .sl false (.ints .i64 per), .sl false (.pends pend)]] => some (false, pD (smallM vol per pend) (fenceM fFl (checkB vol per pend) vol per pend))
  | _ => none
set_option maxRecDepth 20000 in
theorem lamplighterref04_Fence.spec : FSpec Try.prog 110 lamplighterref04_Fence.C := by
  refine FSpec.of (ctx_ok (F := [(106, lamplighterref04_Check.C), (128, lamplighterref04_keep.C)]) (S := []) (by simpa using ⟨lamplighterref04_Check.spec, lamplighterref04_keep.spec⟩) (by simp) lamplighterref04_Fence.loops) lamplighterref04_Fence.at lamplighterref04_Fence.nm lamplighterref04_Fence.bd ?_
  intro vs b S v news e hS
  unfold lamplighterref04_Fence.C at e
  split at e
  rotate_left
  · cases e
  cases e
  rw [lamplighterref04_Fence.eq]
  unfold lamplighterref04_Fence.H
  simp (maxSteps := 4000000) only [go_sem, Nat.reduceEqDiff, Nat.reduceLT, Nat.reduceAdd, Nat.reduceSub, Nat.reduceLeDiff, List.reduceReplicate, Int.reduceToNat, lamplighterref04_Check.C, lamplighterref04_keep.C]
  rename_i vol per pend
  refine ⟨hS, fun h => ?_, fun h => ?_⟩
  · unfold fenceM; rw [h]; exact post_val rfl rfl
  have hrange := check_range h
  obtain ⟨s1, s2, s3⟩ := hS
  unfold roomy at s1 s2 s3
  rw [joinW_eq]
  unfold lamplighterref04_Fence.L1
  refine loop2 (σ := Nat × Nat) (fun s => .sref false 2 s.2 0 s.1) (fun s => .int .i64 s.1) (fun s => [.box (memV vol per pend), .box (memV [] [] []), .row .own s.2 (.bools ((pend.take s.1).map (fFl)))]) (fun s => pend.length - s.1) (fun s => s.1 ≤ pend.length) (0, 0) rfl rfl (Nat.zero_le _) ?_
  rintro I back ⟨k, v⟩ hk
  simp only [] at hk ⊢
  have hml : ((pend.take k).map (fFl)).length = k := by simp; omega
  simp only [go_sem, Nat.reduceEqDiff, Nat.reduceLT, Nat.reduceAdd, Nat.reduceSub, Nat.reduceLeDiff, List.reduceReplicate, Int.reduceToNat, hml]
  refine ⟨fun hlt => ?_, fun hge => ?_⟩
  · have hkl : k < pend.length := by omega
    have hnx : (pend.take (k + 1)).map (fFl) = (pend.take k).map (fFl) ++ [(fFl) (pend.getD k ⟨0, 0, false⟩)] := by rw [take_next pend k ⟨0, 0, false⟩ hkl, List.map_append]; rfl
    have hl1 : ((pend.take (k + 1)).map (fFl)).length = k + 1 := by simp; omega
    refine ⟨by omega, ?_, ?_⟩
    · unfold roomy; simp; omega
    · refine back (k + 1, v + 1) (by show _ - (k + 1) < _ - k; omega) ?_ ?_ (by show k + 1 ≤ _; omega)
      · rw [wnext (by omega)]; simp; omega
      · rw [hnx]; rfl
  · obtain rfl : k = pend.length := by omega
    rw [List.take_length] at *
    simp only [lamplighterref04_keep.C, go_sem, Nat.reduceEqDiff, Nat.reduceLT, Nat.reduceAdd, Nat.reduceSub, Nat.reduceLeDiff, List.reduceReplicate, Int.reduceToNat, take_len _ (Nat.le_of_eq hml), hml]
    refine ⟨⟨⟨s1, s2, s3⟩, hrange⟩, ?_⟩
    unfold fenceM; simp only [h, if_true]
    rw [keptB_map, restB_map, ← keepW_app]
    exact post_val rfl rfl
/-- how many of a line -/
def cntL (L : Int) (l : List Pend) : Nat := (l.filter (fLn L)).length
theorem cntL_snoc (L : Int) (l : List Pend) (p : Pend) : cntL L (l ++ [p]) = cntL L l + (if lineOf p.at_ = L then 1 else 0) := by
  unfold cntL fLn
  rw [List.filter_append, List.length_append]
  by_cases e : lineOf p.at_ = L <;> simp [e]
/-- those that a crash keeps, told one by one -/
def thoseL (keep : List Int) : List Pend → List Pend → List Bool
  | _, [] => []
  | pre, p :: r => decide ((cntL (lineOf p.at_) pre : Int) < leftF keep (lineOf p.at_)) :: thoseL keep (pre ++ [p]) r
theorem thoseL_len (keep : List Int) : ∀ (r pre : List Pend), (thoseL keep pre r).length = r.length
  | [], _ => rfl
  | p :: r, pre => by simp [thoseL, thoseL_len keep r]
theorem thoseL_crash (keep : List Int) : ∀ (r pre : List Pend) (left : Int → Int), (∀ j, (left j).toNat = (leftF keep j).toNat - cntL j pre) → keptB (thoseL keep pre r) r = crashK r left
  | [], _, _, _ => rfl
  | p :: r, pre, left, h => by
    have ih := thoseL_crash keep r (pre ++ [p]) (lessL p left) fun j => by
      rw [cntL_snoc]
      have := h j
      unfold lessL
      by_cases e : lineOf p.at_ = j
      · subst e
        rw [if_pos rfl, if_pos rfl]
        split <;> omega
      · rw [if_neg (fun h => e h.symm), if_neg e]; omega
    have hb : decide ((cntL (lineOf p.at_) pre : Int) < leftF keep (lineOf p.at_)) = decide (0 < left (lineOf p.at_)) := by
      have := h (lineOf p.at_)
      exact decide_eq_decide.2 ⟨fun h => by omega, fun h => by omega⟩
    rw [thoseL, crashK, hb]
    cases decide (0 < left (lineOf p.at_)) <;> simp [keptB, ih]
theorem thoseL_append (keep : List Int) : ∀ (a b pre : List Pend), thoseL keep pre (a ++ b) = thoseL keep pre a ++ thoseL keep (pre ++ a) b
  | [], b, pre => by simp [thoseL]
  | p :: a, b, pre => by
    rw [List.cons_append, thoseL, thoseL_append keep a b, thoseL, List.cons_append, List.append_assoc]; rfl
def lamplighterref04_Crash.C : Contract
  | [.agg [.sl false (.ints .i64 vol), .sl false (.ints .i64 per), .sl false (.pends pend)], .sl _ (.ints .i64 keep)] => some (false, pD (smallM vol per pend ∧ roomy keep.length) (crashM (checkB vol per pend) keep per pend))
  | _ => none
set_option maxRecDepth 20000 in
theorem lamplighterref04_Crash.spec : FSpec Try.prog 112 lamplighterref04_Crash.C := by
  refine FSpec.of (ctx_ok (F := [(106, lamplighterref04_Check.C), (128, lamplighterref04_keep.C)]) (S := []) (by simpa using ⟨lamplighterref04_Check.spec, lamplighterref04_keep.spec⟩) (by simp) lamplighterref04_Crash.loops) lamplighterref04_Crash.at lamplighterref04_Crash.nm lamplighterref04_Crash.bd ?_
  intro vs b S v news e hS
  unfold lamplighterref04_Crash.C at e
  split at e
  rotate_left
  · cases e
  cases e
  rw [lamplighterref04_Crash.eq]
  unfold lamplighterref04_Crash.H
  simp (maxSteps := 4000000) only [go_sem, Nat.reduceEqDiff, Nat.reduceLT, Nat.reduceAdd, Nat.reduceSub, Nat.reduceLeDiff, List.reduceReplicate, Int.reduceToNat, lamplighterref04_Check.C, lamplighterref04_keep.C]
  rename_i vol per pend _ keep
  obtain ⟨hS, hr⟩ := hS
  refine ⟨hS, fun h => ?_, fun h => ?_⟩
  · unfold crashM; rw [h]; exact post_val rfl rfl
  have hrange := check_range h
  have hsz := (check_iff.1 h).sz
  have hln := (check_iff.1 h).len
  obtain ⟨s1, s2, s3⟩ := hS
  unfold roomy at s1 s2 s3 hr
  rw [joinW_eq]
  unfold lamplighterref04_Crash.L1
  refine loop2 (σ := Nat × Nat) (fun s => .sref false 1 s.2 0 s.1) (fun s => .int .i64 s.1) (fun s => [.box (memV vol per pend), .row .own s.2 (.bools (thoseL keep [] (pend.take s.1)))]) (fun s => pend.length - s.1) (fun s => s.1 ≤ pend.length) (0, 0) rfl rfl (Nat.zero_le _) ?_
  rintro I back ⟨k, v⟩ hk
  simp only [] at hk ⊢
  have hml : (thoseL keep [] (pend.take k)).length = k := by rw [thoseL_len]; simp; omega
  simp only [go_sem, Nat.reduceEqDiff, Nat.reduceLT, Nat.reduceAdd, Nat.reduceSub, Nat.reduceLeDiff, List.reduceReplicate, Int.reduceToNat, hml]
  refine ⟨fun hlt => ?_, fun hge => ?_⟩
  · have hkl : k < pend.length := by omega
    have hrp := hrange _ (getD_mem pend k ⟨0, 0, false⟩ hkl)
    have hnx : thoseL keep [] (pend.take (k + 1)) = thoseL keep [] (pend.take k) ++ [decide ((cntL (lineOf (pend.getD k ⟨0, 0, false⟩).at_) (pend.take k) : Int) < leftF keep (lineOf (pend.getD k ⟨0, 0, false⟩).at_))] := by rw [take_next pend k ⟨0, 0, false⟩ hkl, thoseL_append]; rfl
    generalize pend.getD k ⟨0, 0, false⟩ = p at *
    refine ⟨by omega, by decide, ?_⟩
    rw [joinW_eq]
    unfold lamplighterref04_Crash.L2
    refine loop2 (σ := Nat) (fun j => .int .i64 (cntL (lineOf p.at_) (pend.take j) : Nat)) (fun j => .int .i64 j) (fun _ => [.box (memV vol per pend), .row .own v (.bools (thoseL keep [] (pend.take k)))]) (fun j => k - j) (fun j => j ≤ k) 0 rfl rfl (Nat.zero_le _) ?_
    rintro I2 back2 j hj
    simp only [go_sem, Nat.reduceEqDiff, Nat.reduceLT, Nat.reduceAdd, Nat.reduceSub, Nat.reduceLeDiff, List.reduceReplicate, Int.reduceToNat, hml]
    have hc0 : ∀ j, j ≤ pend.length → cntL (lineOf p.at_) (pend.take j) ≤ j := fun j hj => Nat.le_trans (List.length_filter_le _ _) (by simp; omega)
    refine ⟨fun hjk => ⟨by omega, by decide, ?_⟩, fun hjk => ?_⟩
    · have hcn := cntL_snoc (lineOf p.at_) (pend.take j) (pend.getD j ⟨0, 0, false⟩)
      rw [← take_next pend j ⟨0, 0, false⟩ (by omega)] at hcn
      have hcj := hc0 j (by omega)
      rw [joinW_eq]
      refine ⟨fun hl => ?_, fun hl => ?_⟩
      · have hl : lineOf (pend.getD j ⟨0, 0, false⟩).at_ = lineOf p.at_ := hl
        rw [if_pos hl] at hcn
        simp only [go_sem, Nat.reduceEqDiff, Nat.reduceLT, Nat.reduceAdd, Nat.reduceSub, Nat.reduceLeDiff, List.reduceReplicate, Int.reduceToNat]
        refine back2 (j + 1) (by omega) ?_ rfl (by omega)
        rw [wnext (by omega), wnext (by omega), hcn]
      · have hl : ¬ lineOf (pend.getD j ⟨0, 0, false⟩).at_ = lineOf p.at_ := hl
        rw [if_neg hl] at hcn
        simp only [go_sem, Nat.reduceEqDiff, Nat.reduceLT, Nat.reduceAdd, Nat.reduceSub, Nat.reduceLeDiff, List.reduceReplicate, Int.reduceToNat]
        refine back2 (j + 1) (by omega) ?_ rfl (by omega)
        rw [wnext (by omega), hcn]; rfl
    · obtain rfl : j = k := by omega
      have hL : lineOf p.at_ = p.at_ / 8 := lineOf_eq (by omega) (by omega)
      have hw : IntKind.i64.wrap ((keep.length : Int) - 1) = (keep.length : Int) - 1 := w64 (by omega) (by omega)
      have hdec : (decide (lineOf p.at_ < (keep.length : Int)) && decide ((cntL (lineOf p.at_) (pend.take j) : Int) < keep.getD (if (keep.length : Int) - 1 < lineOf p.at_ then (keep.length : Int) - 1 else lineOf p.at_).toNat 0)) = decide ((cntL (lineOf p.at_) (pend.take j) : Int) < leftF keep (lineOf p.at_)) := by
        unfold leftF
        have h0 : 0 ≤ lineOf p.at_ := by omega
        rw [if_pos h0]
        by_cases e : lineOf p.at_ < (keep.length : Int)
        · rw [if_neg (show ¬ (keep.length : Int) - 1 < lineOf p.at_ by omega), decide_eq_true e, Bool.true_and]
        · rw [decide_eq_false e, Bool.false_and, List.getD_eq_getElem?_getD, List.getElem?_eq_none (by omega)]
          exact (decide_eq_false (by simp)).symm
      rw [hw]
      have hl1 : (thoseL keep [] (pend.take (j + 1))).length = j + 1 := by rw [thoseL_len]; simp; omega
      have hfold : IntKind.i64.wrap (p.at_.tdiv 8) = lineOf p.at_ := rfl
      rw [hfold, hdec, ← hnx, hl1]
      refine ⟨fun hlt => ?_, by unfold roomy; omega, back (j + 1, v + 1) (by show _ - (j + 1) < _ - j; omega) (by rw [wnext (by omega)]) rfl (by show j + 1 ≤ _; omega)⟩
      rw [hL] at hlt ⊢
      split <;> omega
  · obtain rfl : k = pend.length := by omega
    rw [List.take_length] at *
    simp only [lamplighterref04_keep.C, go_sem, Nat.reduceEqDiff, Nat.reduceLT, Nat.reduceAdd, Nat.reduceSub, Nat.reduceLeDiff, List.reduceReplicate, Int.reduceToNat, take_len _ (Nat.le_of_eq hml), hml]
    refine ⟨⟨⟨s1, s2, s3⟩, hrange⟩, ?_⟩
    rw [thoseL_crash keep pend [] (leftF keep) fun j => rfl]
    unfold crashM; simp only [h, if_true]
    exact post_val rfl rfl
end Lam
namespace Lam
open Go Go.Proofs
set_option linter.unusedVariables false
def lamplighterref05_Same.loops : Nat → LInfo
  | 4 => ⟨[5], [false], [0, 1], [], []⟩
  | _ => ⟨[], [], [], [], []⟩
def lamplighterref05_Same.L1 (c : Ctx) (J1 : List AObj → Prop) (K : AOut → List AObj → Prop) (lv : List AV) (h0 : List AObj) (n0 : Nat) (c0 : AV) (c1 : AV) : Prop :=
  ∃ I : Nat → List AV → List AObj → Prop, (∃ n, I n lv h0) ∧ ∀ n h, ∀ t5, I n [t5] h →
    runD (lenD T_sl_api_Micro h c0) h fun t13 h =>
    runD (binD T_int .lss t5 t13) h fun t14 h =>
    condW t14
    (runD (indexAddrD T_sl_api_Micro h c0 t5) h fun t19 h =>
    runD (fitD T_api_Micro (loadD h t19)) h fun t20 h =>
    runD (indexAddrD T_sl_api_Micro h c1 t5) h fun t23 h =>
    runD (fitD T_api_Micro (loadD h t23)) h fun t24 h =>
    runD (binD T_api_Micro .neq t20 t24) h fun t25 h =>
    condW t25
    (K (.ret (.bool false)) h)
    (runD (binD T_int .add t5 (.int .i64 1)) h fun t16 h =>
    (∃ m, m < n ∧ I m (AV.norms n0 h [t16]) (normH n0 h)) ∧ AV.norms n0 h [c0, c1] = [c0, c1]))
    (J1 h)
def lamplighterref05_Same.H (c : Ctx) (t0 : AV) (t1 : AV) (h : List AObj) (K : AOut → List AObj → Prop) : Prop :=
  runD (lenD T_sl_api_Micro h t0) h fun t7 h =>
  runD (lenD T_sl_api_Micro h t1) h fun t9 h =>
  runD (binD T_int .neq t7 t9) h fun t10 h =>
  condW t10
  (K (.ret (.bool false)) h)
  (joinW (fun (J1 : List AObj → Prop) =>
  promV [false] [(.int .i64 0)] h fun lv h => lamplighterref05_Same.L1 c J1 K (AV.norms h.length h lv) (normH h.length h) h.length (AV.norm h.length h t0) (AV.norm h.length h t1))
  (fun h => K (.ret (.bool true)) h))
def lamplighterref05_Run.loops : Nat → LInfo
  | 3 => ⟨[], [], [], [(3, none), (2, some [20, 22])], []⟩
  | 6 => ⟨[8], [false], [1, 2, 4], [], []⟩
  | _ => ⟨[], [], [], [], []⟩
def lamplighterref05_Run.L1 (c : Ctx) (J2 : AV → AV → List AObj → Prop) (K : AOut → List AObj → Prop) (lv : List AV) (h0 : List AObj) (n0 : Nat) (c1 : AV) (c2 : AV) (c4 : AV) : Prop :=
  ∃ I : Nat → List AV → List AObj → Prop, (∃ n, I n lv h0) ∧ ∀ n h, ∀ t8, I n [t8] h →
    runD (lenD T_sl_api_Micro h c1) h fun t27 h =>
    runD (binD T_int .lss t8 t27) h fun t28 h =>
    condW t28
    (runD (fitD T_api_Mem (loadD h c2)) h fun t32 h =>
    runD (indexAddrD T_sl_api_Micro h c1 t8) h fun t35 h =>
    runD (fitD T_api_Micro (loadD h t35)) h fun t36 h =>
    callW c.noS (.fn (.func 66) [] []) [t32, t36] h (fun t37 h =>
    runD (extractD t37 0) h fun t38 h =>
    runD (extractD t37 1) h fun t39 h =>
    allocW T_api_Mem h fun t9 h =>
    runH (storeH T_api_Mem h t9 t38) h fun _ h =>
    runD (fitD T_api_Mem (loadD h t9)) h fun t40 h =>
    runH (storeH T_api_Mem h c2 t40) h fun _ h =>
    runD (binD T_int .add t8 (.int .i64 1)) h fun t30 h =>
    (∃ m, m < n ∧ I m (AV.norms n0 h [t30]) (normH n0 h)) ∧ AV.norms n0 h [c1, c2, c4] = [c1, c2, c4])
    (fun _ _ => False))
    (J2 c2 c4 h)
def lamplighterref05_Run.H (c : Ctx) (t0 : AV) (t1 : AV) (h : List AObj) (K : AOut → List AObj → Prop) : Prop :=
  boxW T_api_Mem t0 h fun t2 h =>
  allocW T_api_Mem h fun t4 h =>
  runD (fitD T_api_Mem (loadD h t2)) h fun t11 h =>
  callW c (.fn (.func 106) [] []) [t11] h (fun t12 h =>
  runD (fieldAddrD T_api_Mem t2 0) h fun t14 h =>
  runD (fitD T_sl_int (loadD h t14)) h fun t15 h =>
  runD (lenD T_sl_int h t15) h fun t16 h =>
  callW c (.fn (.func 71) [] []) [t1, t16] h (fun t17 h =>
  runD (unD .not t12) h fun t19 h =>
  joinW (fun (J1 : AV → AV → List AObj → Prop) =>
  guardW t19 false
  (runD (unD .not t17) h fun t22 h =>
    J1 (.bool false) t22 h)
  (J1 (.bool true) .und h))
  (fun t20 t22 h => runD (pickD t20 (.bool true) t22) h fun t23 h =>
  condW t23
  (runD (fitD T_api_Mem (loadD h t2)) h fun t24 h =>
    runH (storeH T_api_Mem h t4 t24) h fun _ h =>
    loadRes (fitD T_api_Mem (loadD h t4)) fun r0 => K (.ret (.tup [r0, (.int .i64 40)])) h)
  (joinW (fun (J2 : AV → AV → List AObj → Prop) =>
  promV [false] [(.int .i64 0)] h fun lv h => lamplighterref05_Run.L1 c J2 K (AV.norms h.length h lv) (normH h.length h) h.length (AV.norm h.length h t1) (AV.norm h.length h t2) (AV.norm h.length h t4))
  (fun t2 t4 h => runD (fitD T_api_Mem (loadD h t2)) h fun t41 h =>
  runH (storeH T_api_Mem h t4 t41) h fun _ h =>
  loadRes (fitD T_api_Mem (loadD h t4)) fun r0 => K (.ret (.tup [r0, (.int .i64 0)])) h))))
  (fun v h => K (.pan v) h))
  (fun v h => K (.pan v) h)
def lamplighterref05_Do.loops : Nat → LInfo
  | 2 => ⟨[], [], [], [(3, none), (6, some [13, 19])], []⟩
  | _ => ⟨[], [], [], [], []⟩
def lamplighterref05_Do.H (c : Ctx) (t0 : AV) (t1 : AV) (h : List AObj) (K : AOut → List AObj → Prop) : Prop :=
  boxW T_api_Mem t0 h fun t2 h =>
  boxW T_api_Micro t1 h fun t3 h =>
  allocW T_api_Mem h fun t4 h =>
  runD (fitD T_api_Mem (loadD h t2)) h fun t9 h =>
  callW c (.fn (.func 106) [] []) [t9] h (fun t10 h =>
  runD (unD .not t10) h fun t12 h =>
  joinW (fun (J1 : AV → AV → List AObj → Prop) =>
  guardW t12 false
  (runD (fitD T_api_Micro (loadD h t3)) h fun t14 h =>
    runD (fieldAddrD T_api_Mem t2 0) h fun t15 h =>
    runD (fitD T_sl_int (loadD h t15)) h fun t16 h =>
    runD (lenD T_sl_int h t16) h fun t17 h =>
    callW c (.fn (.func 107) [] []) [t14, t17] h (fun t18 h =>
    runD (unD .not t18) h fun t19 h =>
    J1 (.bool false) t19 h)
    (fun v h => K (.pan v) h))
  (J1 (.bool true) .und h))
  (fun t13 t19 h => runD (pickD t13 (.bool true) t19) h fun t20 h =>
  condW t20
  (runD (fitD T_api_Mem (loadD h t2)) h fun t21 h =>
    runH (storeH T_api_Mem h t4 t21) h fun _ h =>
    loadRes (fitD T_api_Mem (loadD h t4)) fun r0 => K (.ret (.tup [r0, (.int .i64 40)])) h)
  (runD (fieldAddrD T_api_Micro t3 0) h fun t22 h =>
  runD (fitD T_int (loadD h t22)) h fun t23 h =>
  runD (binD T_int .eql t23 (.int .i64 1)) h fun t24 h =>
  condW t24
  (runD (fitD T_api_Mem (loadD h t2)) h fun t25 h =>
    runD (fieldAddrD T_api_Micro t3 1) h fun t26 h =>
    runD (fitD T_int (loadD h t26)) h fun t27 h =>
    runD (fieldAddrD T_api_Micro t3 2) h fun t28 h =>
    runD (fitD T_int (loadD h t28)) h fun t29 h =>
    callW c (.fn (.func 108) [] []) [t25, t27, t29] h (fun t30 h =>
    runD (extractD t30 0) h fun t31 h =>
    runD (extractD t30 1) h fun t32 h =>
    runH (storeH T_api_Mem h t4 t31) h fun _ h =>
    loadRes (fitD T_api_Mem (loadD h t4)) fun r0 => K (.ret (.tup [r0, t32])) h)
    (fun v h => K (.pan v) h))
  (runD (fitD T_api_Mem (loadD h t2)) h fun t34 h =>
  runD (fieldAddrD T_api_Micro t3 1) h fun t35 h =>
  runD (fitD T_int (loadD h t35)) h fun t36 h =>
  callW c (.fn (.func 109) [] []) [t34, t36] h (fun t37 h =>
  runD (extractD t37 0) h fun t38 h =>
  runD (extractD t37 1) h fun t39 h =>
  allocW T_api_Mem h fun t7 h =>
  runH (storeH T_api_Mem h t7 t38) h fun _ h =>
  runD (fitD T_api_Mem (loadD h t7)) h fun t40 h =>
  callW c (.fn (.func 110) [] []) [t40] h (fun t41 h =>
  runD (extractD t41 0) h fun t42 h =>
  runD (extractD t41 1) h fun t43 h =>
  runH (storeH T_api_Mem h t4 t42) h fun _ h =>
  loadRes (fitD T_api_Mem (loadD h t4)) fun r0 => K (.ret (.tup [r0, t43])) h)
  (fun v h => K (.pan v) h))
  (fun v h => K (.pan v) h)))))
  (fun v h => K (.pan v) h)
def lamplighterref05_Crash.loops : Nat → LInfo
  | _ => ⟨[], [], [], [], []⟩
def lamplighterref05_Crash.H (c : Ctx) (t0 : AV) (t1 : AV) (t2 : AV) (t3 : AV) (h : List AObj) (K : AOut → List AObj → Prop) : Prop :=
  boxW T_api_Mem t0 h fun t4 h =>
  runD (fitD T_api_Mem (loadD h t4)) h fun t16 h =>
  callW c (.fn (.func 64) [] []) [t16, t1] h (fun t18 h =>
  runD (extractD t18 0) h fun t19 h =>
  runD (extractD t18 1) h fun t20 h =>
  allocW T_api_Mem h fun t10 h =>
  runH (storeH T_api_Mem h t10 t19) h fun _ h =>
  runD (binD T_api_Errno .neq t20 (.int .i64 0)) h fun t22 h =>
  condW t22
  (K (.ret (.tup [(.sl true (.ints .i64 [])), t20])) h)
  (runD (lenD T_sl_api_Micro h t1) h fun t26 h =>
  runD (minD t2 t26) h fun t27 h =>
  runD (maxD (.int .i64 0) t27) h fun t28 h =>
  runD (fitD T_api_Mem (loadD h t4)) h fun t30 h =>
  runD (sliceD T_sl_api_Micro h t1 none (some t28) none) h fun t33 h =>
  callW c.noS (.fn (.func 64) [] []) [t30, t33] h (fun t34 h =>
  runD (extractD t34 0) h fun t35 h =>
  runD (extractD t34 1) h fun t36 h =>
  allocW T_api_Mem h fun t13 h =>
  runH (storeH T_api_Mem h t13 t35) h fun _ h =>
  runD (fitD T_api_Mem (loadD h t13)) h fun t37 h =>
  callW c (.fn (.func 112) [] []) [t37, t3] h (fun t39 h =>
  runD (extractD t39 0) h fun t40 h =>
  runD (extractD t39 1) h fun t41 h =>
  K (.ret (.tup [t40, t41])) h)
  (fun v h => K (.pan v) h))
  (fun _ _ => False)))
  (fun v h => K (.pan v) h)
def lamplighterref05_Check.loops : Nat → LInfo
  | 1 => ⟨[], [], [], [(3, none), (2, some [8, 10]), (2, none), (3, some [12, 15])], []⟩
  | 4 => ⟨[5], [false], [0, 1], [], []⟩
  | _ => ⟨[], [], [], [], []⟩
def lamplighterref05_Check.L1 (c : Ctx) (J3 : List AObj → Prop) (K : AOut → List AObj → Prop) (lv : List AV) (h0 : List AObj) (n0 : Nat) (c0 : AV) (c1 : AV) : Prop :=
  ∃ I : Nat → List AV → List AObj → Prop, (∃ n, I n lv h0) ∧ ∀ n h, ∀ t5, I n [t5] h →
    runD (lenD T_sl_api_Micro h c0) h fun t19 h =>
    runD (binD T_int .lss t5 t19) h fun t20 h =>
    condW t20
    (runD (indexAddrD T_sl_api_Micro h c0 t5) h fun t25 h =>
    runD (fitD T_api_Micro (loadD h t25)) h fun t26 h =>
    callW c (.fn (.func 107) [] []) [t26, c1] h (fun t28 h =>
    runD (unD .not t28) h fun t29 h =>
    condW t29
    (K (.ret (.bool false)) h)
    (runD (binD T_int .add t5 (.int .i64 1)) h fun t22 h =>
    (∃ m, m < n ∧ I m (AV.norms n0 h [t22]) (normH n0 h)) ∧ AV.norms n0 h [c0, c1] = [c0, c1]))
    (fun v h => K (.pan v) h))
    (J3 h)
def lamplighterref05_Check.H (c : Ctx) (t0 : AV) (t1 : AV) (h : List AObj) (K : AOut → List AObj → Prop) : Prop :=
  runD (binD T_int .lss t1 (.int .i64 0)) h fun t7 h =>
  joinW (fun (J1 : AV → AV → List AObj → Prop) =>
  guardW t7 false
  (runD (binD T_int .gtr t1 (.int .i64 4096)) h fun t10 h =>
    J1 (.bool false) t10 h)
  (J1 (.bool true) .und h))
  (fun t8 t10 h => runD (pickD t8 (.bool true) t10) h fun t11 h =>
  joinW (fun (J2 : AV → AV → List AObj → Prop) =>
  guardW t11 false
  (runD (binD T_int .rem t1 (.int .i64 8)) h fun t14 h =>
    runD (binD T_int .neq t14 (.int .i64 0)) h fun t15 h =>
    J2 (.bool false) t15 h)
  (J2 (.bool true) .und h))
  (fun t12 t15 h => runD (pickD t12 (.bool true) t15) h fun t16 h =>
  condW t16
  (K (.ret (.bool false)) h)
  (joinW (fun (J3 : List AObj → Prop) =>
  promV [false] [(.int .i64 0)] h fun lv h => lamplighterref05_Check.L1 c J3 K (AV.norms h.length h lv) (normH h.length h) h.length (AV.norm h.length h t0) (AV.norm h.length h t1))
  (fun h => K (.ret (.bool true)) h))))
def lamplighterref05_may.loops : Nat → LInfo
  | 2 => ⟨[], [], [], [(4, none), (4, some [11, 15])], []⟩
  | 3 => ⟨[], [], [], [(4, none), (3, some [20, 23]), (2, none), (5, some [25, 30]), (2, none), (3, some [32, 35])], []⟩
  | _ => ⟨[], [], [], [], []⟩
def lamplighterref05_may.H (c : Ctx) (t0 : AV) (t1 : AV) (h : List AObj) (K : AOut → List AObj → Prop) : Prop :=
  boxW T_api_Micro t0 h fun t2 h =>
  runD (fieldAddrD T_api_Micro t2 0) h fun t5 h =>
  runD (fitD T_int (loadD h t5)) h fun t6 h =>
  runD (binD T_int .eql t6 (.int .i64 1)) h fun t7 h =>
  condW t7
  (runD (fieldAddrD T_api_Micro t2 1) h fun t8 h =>
    runD (fitD T_int (loadD h t8)) h fun t9 h =>
    runD (binD T_int .geq t9 (.int .i64 0)) h fun t10 h =>
    joinW (fun (J1 : AV → AV → List AObj → Prop) =>
    guardW t10 true
    (runD (fieldAddrD T_api_Micro t2 1) h fun t12 h =>
      runD (fitD T_int (loadD h t12)) h fun t13 h =>
      runD (binD T_int .lss t13 t1) h fun t15 h =>
      J1 (.bool true) t15 h)
    (J1 (.bool false) .und h))
    (fun t11 t15 h => runD (pickD t11 t15 (.bool false)) h fun t16 h =>
    K (.ret t16) h))
  (runD (fieldAddrD T_api_Micro t2 0) h fun t17 h =>
  runD (fitD T_int (loadD h t17)) h fun t18 h =>
  runD (binD T_int .eql t18 (.int .i64 2)) h fun t19 h =>
  joinW (fun (J2 : AV → AV → List AObj → Prop) =>
  guardW t19 true
  (runD (fieldAddrD T_api_Micro t2 1) h fun t21 h =>
    runD (fitD T_int (loadD h t21)) h fun t22 h =>
    runD (binD T_int .geq t22 (.int .i64 0)) h fun t23 h =>
    J2 (.bool true) t23 h)
  (J2 (.bool false) .und h))
  (fun t20 t23 h => runD (pickD t20 t23 (.bool false)) h fun t24 h =>
  joinW (fun (J3 : AV → AV → List AObj → Prop) =>
  guardW t24 true
  (runD (fieldAddrD T_api_Micro t2 1) h fun t26 h =>
    runD (fitD T_int (loadD h t26)) h fun t27 h =>
    runD (binD T_int .quo t1 (.int .i64 8)) h fun t29 h =>
    runD (binD T_int .lss t27 t29) h fun t30 h =>
    J3 (.bool true) t30 h)
  (J3 (.bool false) .und h))
  (fun t25 t30 h => runD (pickD t25 t30 (.bool false)) h fun t31 h =>
  joinW (fun (J4 : AV → AV → List AObj → Prop) =>
  guardW t31 true
  (runD (fieldAddrD T_api_Micro t2 2) h fun t33 h =>
    runD (fitD T_int (loadD h t33)) h fun t34 h =>
    runD (binD T_int .eql t34 (.int .i64 0)) h fun t35 h =>
    J4 (.bool true) t35 h)
  (J4 (.bool false) .und h))
  (fun t32 t35 h => runD (pickD t32 t35 (.bool false)) h fun t36 h =>
  K (.ret t36) h))))
theorem lamplighterref05_Same.eq (F : List (FuncId × Contract)) (S : List (FuncId × Con)) (t0 t1 : AV) (h : List AObj) (K : AOut → List AObj → Prop) : funW (ctx F S lamplighterref05_Same.loops) Try.f23 [t0, t1] h K = lamplighterref05_Same.H (ctx F S lamplighterref05_Same.loops) t0 t1 h K := by kernel_rfl
theorem lamplighterref05_Run.eq (F : List (FuncId × Contract)) (S : List (FuncId × Con)) (t0 t1 : AV) (h : List AObj) (K : AOut → List AObj → Prop) : funW (ctx F S lamplighterref05_Run.loops) Try.f64 [t0, t1] h K = lamplighterref05_Run.H (ctx F S lamplighterref05_Run.loops) t0 t1 h K := by kernel_rfl
theorem lamplighterref05_Do.eq (F : List (FuncId × Contract)) (S : List (FuncId × Con)) (t0 t1 : AV) (h : List AObj) (K : AOut → List AObj → Prop) : funW (ctx F S lamplighterref05_Do.loops) Try.f66 [t0, t1] h K = lamplighterref05_Do.H (ctx F S lamplighterref05_Do.loops) t0 t1 h K := by kernel_rfl
theorem lamplighterref05_Crash.eq (F : List (FuncId × Contract)) (S : List (FuncId × Con)) (t0 t1 t2 t3 : AV) (h : List AObj) (K : AOut → List AObj → Prop) : funW (ctx F S lamplighterref05_Crash.loops) Try.f68 [t0, t1, t2, t3] h K = lamplighterref05_Crash.H (ctx F S lamplighterref05_Crash.loops) t0 t1 t2 t3 h K := by kernel_rfl
theorem lamplighterref05_Check.eq (F : List (FuncId × Contract)) (S : List (FuncId × Con)) (t0 t1 : AV) (h : List AObj) (K : AOut → List AObj → Prop) : funW (ctx F S lamplighterref05_Check.loops) Try.f71 [t0, t1] h K = lamplighterref05_Check.H (ctx F S lamplighterref05_Check.loops) t0 t1 h K := by kernel_rfl
theorem lamplighterref05_may.eq (F : List (FuncId × Contract)) (S : List (FuncId × Con)) (t0 t1 : AV) (h : List AObj) (K : AOut → List AObj → Prop) : funW (ctx F S lamplighterref05_may.loops) Try.f107 [t0, t1] h K = lamplighterref05_may.H (ctx F S lamplighterref05_may.loops) t0 t1 h K := by kernel_rfl
theorem lamplighterref05_Same.at : Try.prog.funcs[23]? = some Try.f23 := by kernel_rfl
theorem lamplighterref05_Same.nm : (Try.f23.name == "runtime.NumGoroutine") = false := by kernel_rfl
theorem lamplighterref05_Same.bd : Try.f23.body.isNone = false := by kernel_rfl
theorem lamplighterref05_Run.at : Try.prog.funcs[64]? = some Try.f64 := by kernel_rfl
theorem lamplighterref05_Run.nm : (Try.f64.name == "runtime.NumGoroutine") = false := by kernel_rfl
theorem lamplighterref05_Run.bd : Try.f64.body.isNone = false := by kernel_rfl
theorem lamplighterref05_Do.at : Try.prog.funcs[66]? = some Try.f66 := by kernel_rfl
theorem lamplighterref05_Do.nm : (Try.f66.name == "runtime.NumGoroutine") = false := by kernel_rfl
theorem lamplighterref05_Do.bd : Try.f66.body.isNone = false := by kernel_rfl
theorem lamplighterref05_Crash.at : Try.prog.funcs[68]? = some Try.f68 := by kernel_rfl
theorem lamplighterref05_Crash.nm : (Try.f68.name == "runtime.NumGoroutine") = false := by kernel_rfl
theorem lamplighterref05_Crash.bd : Try.f68.body.isNone = false := by kernel_rfl
theorem lamplighterref05_Check.at : Try.prog.funcs[71]? = some Try.f71 := by kernel_rfl
theorem lamplighterref05_Check.nm : (Try.f71.name == "runtime.NumGoroutine") = false := by kernel_rfl
theorem lamplighterref05_Check.bd : Try.f71.body.isNone = false := by kernel_rfl
theorem lamplighterref05_may.at : Try.prog.funcs[107]? = some Try.f107 := by kernel_rfl
theorem lamplighterref05_may.nm : (Try.f107.name == "runtime.NumGoroutine") = false := by kernel_rfl
theorem lamplighterref05_may.bd : Try.f107.body.isNone = false := by kernel_rfl
end Lam
namespace Lam
open Go Go.Proofs
set_option linter.unusedVariables false
set_option linter.unnecessarySimpa false
set_option linter.unusedSimpArgs false
def lamplighterref05_may.C : Contract
  | [.agg [.int .i64 k, .int .i64 a, .int .i64 w], .int .i64 n] => some (false, pD True (.bool (mmay ⟨k, a, w⟩ n)))
  | _ => none
set_option maxRecDepth 20000 in
theorem lamplighterref05_may.spec : FSpec Try.prog 107 lamplighterref05_may.C := by
  refine FSpec.of (ctx_ok (F := []) (S := []) (by simp) (by simp) lamplighterref05_may.loops) lamplighterref05_may.at lamplighterref05_may.nm lamplighterref05_may.bd ?_
  intro vs b S v news e hS
  unfold lamplighterref05_may.C at e
  split at e
  rotate_left
  · cases e
  cases e
  rw [lamplighterref05_may.eq]
  unfold lamplighterref05_may.H
  simp (maxSteps := 4000000) only [go_sem, Nat.reduceEqDiff, Nat.reduceLT, Nat.reduceAdd, Nat.reduceSub, Nat.reduceLeDiff, List.reduceReplicate, Int.reduceToNat]
  rename_i k a w n
  have key : mmay ⟨k, a, w⟩ n = if k = 1 then (decide (0 ≤ a) && decide (a < n)) else (decide (k = 2) && decide (0 ≤ a) && decide (a < IntKind.i64.wrap (n.tdiv 8)) && decide (w = 0)) := by
    unfold mmay
    simp only []
    by_cases h1 : k = 1
    · subst h1; simp
    · rw [if_neg h1, if_neg h1]
      by_cases h2 : k = 2
      · subst h2; simp
      · rw [if_neg h2]
        rw [Bool.eq_iff_iff]; simp only [Bool.and_eq_true, Bool.or_eq_true, Bool.not_eq_true', Bool.not_eq_false', Bool.not_eq_true, decide_eq_true_eq, decide_eq_false_iff_not, Bool.or_eq_false_iff, Bool.and_eq_false_iff, beq_iff_eq]; simp [h2]; omega
  refine ⟨fun h => ?_, fun h => ⟨fun _ => by decide, ?_⟩⟩
  · rw [key, if_pos h]; exact post_val rfl rfl
  · rw [key, if_neg h]; exact post_val rfl rfl
def lamplighterref05_Check.C : Contract
  | [.sl _ (.mics l), .int .i64 n] => some (false, pD (roomy l.length) (.bool (stepsB l n)))
  | _ => none
set_option maxRecDepth 20000 in
theorem lamplighterref05_Check.spec : FSpec Try.prog 71 lamplighterref05_Check.C := by
  refine FSpec.of (ctx_ok (F := [(107, lamplighterref05_may.C)]) (S := []) (by simpa using lamplighterref05_may.spec) (by simp) lamplighterref05_Check.loops) lamplighterref05_Check.at lamplighterref05_Check.nm lamplighterref05_Check.bd ?_
  intro vs b S v news e hS
  unfold lamplighterref05_Check.C at e
  split at e
  rotate_left
  · cases e
  cases e
  rw [lamplighterref05_Check.eq]
  unfold lamplighterref05_Check.H
  simp (maxSteps := 4000000) only [go_sem, Nat.reduceEqDiff, Nat.reduceLT, Nat.reduceAdd, Nat.reduceSub, Nat.reduceLeDiff, List.reduceReplicate, Int.reduceToNat, lamplighterref05_may.C]
  rename_i _ l n
  have e : (decide (n < 0) || decide (4096 < n) || !decide (n.tmod 8 = 0)) = !sizedB n := by
    unfold sizedB; rw [Bool.eq_iff_iff]; simp only [Bool.and_eq_true, Bool.or_eq_true, Bool.not_eq_true', Bool.not_eq_false', Bool.not_eq_true, decide_eq_true_eq, decide_eq_false_iff_not, Bool.or_eq_false_iff, Bool.and_eq_false_iff, beq_iff_eq]; omega
  rw [e]
  unfold roomy at hS
  refine ⟨fun _ => by decide, fun h => ?_, fun h => ?_⟩
  · rw [Bool.not_eq_true'] at h
    unfold stepsB; rw [h]; exact post_val rfl rfl
  rw [Bool.not_eq_false'] at h
  rw [joinW_eq]
  unfold lamplighterref05_Check.L1
  refine loop1 (σ := Nat) (fun k => .int .i64 k) (fun k => []) (fun k => l.length - k) (fun k => k ≤ l.length ∧ ∀ x ∈ l.take k, mmay x n = true) 0 rfl rfl ⟨Nat.zero_le _, by simp⟩ ?_
  rintro I back k ⟨hk, hall⟩
  simp only [lamplighterref05_may.C, go_sem, Nat.reduceEqDiff, Nat.reduceLT, Nat.reduceAdd, Nat.reduceSub, Nat.reduceLeDiff, List.reduceReplicate, Int.reduceToNat]
  refine ⟨fun hlt => ⟨by omega, fun hm => ?_, fun hm => ?_⟩, fun hge => ?_⟩
  · have : stepsB l n = false := by
      unfold stepsB
      rw [Bool.and_eq_false_iff]; right
      rw [List.all_eq_false]
      exact ⟨_, getD_mem l k ⟨0, 0, 0⟩ (by omega), by simpa using hm⟩
    rw [this]; exact post_val rfl rfl
  · refine back (k + 1) (by omega) (by rw [wnext (by omega)]) rfl ⟨by omega, fun x hx => ?_⟩
    rw [take_next l k ⟨0, 0, 0⟩ (by omega), List.mem_append, List.mem_singleton] at hx
    rcases hx with hx | rfl
    · exact hall x hx
    · exact hm
  · obtain rfl : k = l.length := by omega
    rw [List.take_length] at hall
    have : stepsB l n = true := by unfold stepsB; rw [h, Bool.true_and, List.all_eq_true]; exact hall
    rw [this]; exact post_val rfl rfl
def lamplighterref05_Do.C : Contract
  | [.agg [.sl false (.ints .i64 vol), .sl false (.ints .i64 per), .sl false (.pends pend)], .agg [.int .i64 a, .int .i64 b, .int .i64 c]] => some (false, pD (smallM vol per pend ∧ pend.length + 1 ≤ 1000000) (runV ⟨vol, per, pend⟩ [⟨a, b, c⟩]))
  | _ => none
set_option maxRecDepth 20000 in
theorem lamplighterref05_Do.spec : FSpec Try.prog 66 lamplighterref05_Do.C := by
  refine FSpec.of (ctx_ok (F := [(106, lamplighterref04_Check.C), (107, lamplighterref05_may.C), (108, lamplighterref04_Put.C), (109, lamplighterref04_Flush.C), (110, lamplighterref04_Fence.C)]) (S := []) (by simpa using ⟨lamplighterref04_Check.spec, lamplighterref05_may.spec, lamplighterref04_Put.spec, lamplighterref04_Flush.spec, lamplighterref04_Fence.spec⟩) (by simp) lamplighterref05_Do.loops) lamplighterref05_Do.at lamplighterref05_Do.nm lamplighterref05_Do.bd ?_
  intro vs b S v news e hS
  unfold lamplighterref05_Do.C at e
  split at e
  rotate_left
  · cases e
  cases e
  rw [lamplighterref05_Do.eq]
  unfold lamplighterref05_Do.H
  simp (maxSteps := 4000000) only [go_sem, Nat.reduceEqDiff, Nat.reduceLT, Nat.reduceAdd, Nat.reduceSub, Nat.reduceLeDiff, List.reduceReplicate, Int.reduceToNat, lamplighterref04_Check.C, lamplighterref05_may.C, lamplighterref04_Put.C, lamplighterref04_Flush.C, lamplighterref04_Fence.C]
  rename_i vol per pend a b c
  obtain ⟨hs, hz⟩ := hS
  have key : (!checkB vol per pend || !mmay ⟨a, b, c⟩ vol.length) = !soundB ⟨vol, per, pend⟩ [⟨a, b, c⟩] := by
    rw [← Bool.not_and]
    congr 1
    rw [Bool.eq_iff_iff, sound_iff, Bool.and_eq_true, check_iff]
    constructor
    · rintro ⟨h1, h2⟩
      exact ⟨h1, fun x hx => by rw [List.mem_singleton] at hx; subst hx; exact (mmay_iff h1.sz).1 h2⟩
    · rintro ⟨h1, h2⟩
      exact ⟨h1, (mmay_iff (OkM.sz h1)).2 (h2 _ (by simp))⟩
  rw [key]
  refine ⟨hs, fun h => ?_, fun h => ?_⟩
  · rw [Bool.not_eq_true'] at h
    rw [runV_no h]; exact post_val rfl rfl
  rw [Bool.not_eq_false'] at h
  obtain ⟨ok, hx⟩ := sound_iff.1 h
  have hx := hx _ (List.mem_singleton.2 rfl)
  have ok : OkM vol per pend := ok
  rw [runV_ok h]
  refine ⟨fun ha => ⟨⟨hs, by unfold roomy; omega⟩, ?_⟩, fun ha => ⟨hs, ?_⟩⟩
  · rcases hx with ⟨hkd, h0, h1⟩ | ⟨hkd, h0, h1, _⟩
    · have hp : placeB vol per pend b = true := place_iff.2 ⟨⟨h0, h1⟩, ok⟩
      simp only [putM_ok hp, go_sem, Nat.reduceEqDiff, Nat.reduceLT, Nat.reduceAdd, Nat.reduceSub, Nat.reduceLeDiff, List.reduceReplicate, Int.reduceToNat]
      subst ha
      exact post_val rfl rfl
    · simp only [] at hkd; omega
  · rcases hx with ⟨hkd, h0, h1⟩ | ⟨hkd, h0, h1, _⟩
    · exact absurd hkd ha
    · have hp : placeB vol per pend (firstI vol b) = true := (OkM.first ok h0 (by simp only [] at h1; omega)).2
      have okf := ok.flush b
      simp only [flushM_ok hp, lamplighterref04_Fence.C, fenceM_ok, check_iff.2 okf, go_sem, Nat.reduceEqDiff, Nat.reduceLT, Nat.reduceAdd, Nat.reduceSub, Nat.reduceLeDiff, List.reduceReplicate, Int.reduceToNat]
      refine ⟨okf.small (by rw [flushP_len]; omega), post_val ?_ rfl⟩
      have hkd : a = 2 := hkd
      subst hkd
      rfl
def lamplighterref05_Run.C : Contract
  | [.agg [.sl false (.ints .i64 vol), .sl false (.ints .i64 per), .sl false (.pends pend)], .sl _ (.mics l)] => some (false, pD (smallM vol per pend ∧ pend.length + l.length ≤ 1000000) (runV ⟨vol, per, pend⟩ l))
  | _ => none
set_option maxRecDepth 20000 in
theorem lamplighterref05_Run.spec : FSpec Try.prog 64 lamplighterref05_Run.C := by
  refine FSpec.of (ctx_ok (F := [(106, lamplighterref04_Check.C), (71, lamplighterref05_Check.C), (66, lamplighterref05_Do.C)]) (S := []) (by simpa using ⟨lamplighterref04_Check.spec, lamplighterref05_Check.spec, lamplighterref05_Do.spec⟩) (by simp) lamplighterref05_Run.loops) lamplighterref05_Run.at lamplighterref05_Run.nm lamplighterref05_Run.bd ?_
  intro vs b S v news e hS
  unfold lamplighterref05_Run.C at e
  split at e
  rotate_left
  · cases e
  cases e
  rw [lamplighterref05_Run.eq]
  unfold lamplighterref05_Run.H
  simp (maxSteps := 4000000) only [go_sem, Nat.reduceEqDiff, Nat.reduceLT, Nat.reduceAdd, Nat.reduceSub, Nat.reduceLeDiff, List.reduceReplicate, Int.reduceToNat, lamplighterref04_Check.C, lamplighterref05_Check.C, lamplighterref05_Do.C]
  rename_i vol per pend _ l
  obtain ⟨hs, hz⟩ := hS
  have key : (!checkB vol per pend || !stepsB l vol.length) = !soundB ⟨vol, per, pend⟩ l := by
    rw [← Bool.not_and]; rfl
  rw [key]
  refine ⟨hs, by unfold roomy; omega, fun h => ?_, fun h => ?_⟩
  · rw [Bool.not_eq_true'] at h
    rw [runV_no h]; exact post_val rfl rfl
  rw [Bool.not_eq_false'] at h
  obtain ⟨ok, hl⟩ := sound_iff.1 h
  rw [runV_ok h, joinW_eq]
  unfold lamplighterref05_Run.L1
  refine loop1 (σ := Nat) (fun k => .int .i64 k) (fun k => [.box (runS ⟨vol, per, pend⟩ (l.take k)).V, .box (memV [] [] [])]) (fun k => l.length - k) (fun k => k ≤ l.length) 0 rfl rfl (Nat.zero_le _) ?_
  intro I back k hk
  have okk := runS_ok (l.take k) ok fun x hx => hl x ((List.take_sublist _ _).subset hx)
  have lenk := runS_len (l.take k) ⟨vol, per, pend⟩
  have pendk := runS_pend_le (l.take k) ⟨vol, per, pend⟩
  rw [List.length_take] at pendk
  simp only [] at lenk pendk
  simp only [go_sem, Nat.reduceEqDiff, Nat.reduceLT, Nat.reduceAdd, Nat.reduceSub, Nat.reduceLeDiff, List.reduceReplicate, Int.reduceToNat]
  refine ⟨fun hlt => ?_, fun hge => ?_⟩
  · have hkl : k < l.length := by omega
    have hnx : runS ⟨vol, per, pend⟩ (l.take (k + 1)) = stepM (runS ⟨vol, per, pend⟩ (l.take k)) (l.getD k ⟨0, 0, 0⟩) := by
      rw [take_next l k ⟨0, 0, 0⟩ hkl, runS_append]; rfl
    have hx := hl _ (getD_mem l k ⟨0, 0, 0⟩ hkl)
    generalize l.getD k ⟨0, 0, 0⟩ = x at *
    generalize runS ⟨vol, per, pend⟩ (l.take k) = m at *
    have hsm : smallM m.vol m.per m.pend := OkM.small okk (by omega)
    have hso : soundB ⟨m.vol, m.per, m.pend⟩ [⟨x.kind, x.at_, x.val⟩] = true := sound_iff.2 ⟨okk, fun y hy => by
      rw [List.mem_singleton] at hy; subst hy
      show MayN x m.vol.length
      rw [lenk]; exact hx⟩
    simp only [lamplighterref05_Do.C, runV_ok hso, go_sem, Nat.reduceEqDiff, Nat.reduceLT, Nat.reduceAdd, Nat.reduceSub, Nat.reduceLeDiff, List.reduceReplicate, Int.reduceToNat]
    refine ⟨by omega, ⟨hsm, by omega⟩, back (k + 1) (by omega) (by rw [wnext (by omega)]) ?_ (by omega)⟩
    rw [hnx]; rfl
  · obtain rfl : k = l.length := by omega
    rw [List.take_length]
    exact post_val rfl rfl
def lamplighterref05_Crash.C : Contract
  | [.agg [.sl false (.ints .i64 vol), .sl false (.ints .i64 per), .sl false (.pends pend)], .sl _ (.mics l), .int .i64 n, .sl _ (.ints .i64 keep)] => some (false, pD (smallM vol per pend ∧ pend.length + l.length ≤ 1000000 ∧ roomy keep.length) (mcrashV ⟨vol, per, pend⟩ l n keep))
  | _ => none
set_option maxRecDepth 20000 in
theorem lamplighterref05_Crash.spec : FSpec Try.prog 68 lamplighterref05_Crash.C := by
  refine FSpec.of (ctx_ok (F := [(64, lamplighterref05_Run.C), (112, lamplighterref04_Crash.C)]) (S := []) (by simpa using ⟨lamplighterref05_Run.spec, lamplighterref04_Crash.spec⟩) (by simp) lamplighterref05_Crash.loops) lamplighterref05_Crash.at lamplighterref05_Crash.nm lamplighterref05_Crash.bd ?_
  intro vs b S v news e hS
  unfold lamplighterref05_Crash.C at e
  split at e
  rotate_left
  · cases e
  cases e
  rw [lamplighterref05_Crash.eq]
  unfold lamplighterref05_Crash.H
  simp (maxSteps := 4000000) only [go_sem, Nat.reduceEqDiff, Nat.reduceLT, Nat.reduceAdd, Nat.reduceSub, Nat.reduceLeDiff, List.reduceReplicate, Int.reduceToNat, lamplighterref05_Run.C, lamplighterref04_Crash.C]
  rename_i vol per pend _ l n _ keep
  obtain ⟨hs, hz, hk1⟩ := hS
  refine ⟨⟨hs, hz⟩, ?_⟩
  have hfold : (if (if (l.length : Int) < n then (l.length : Int) else n) > 0 then (if (l.length : Int) < n then (l.length : Int) else n) else 0) = cutI n l.length := rfl
  rw [hfold]
  have hc := cutI_range n l.length
  cases h : soundB ⟨vol, per, pend⟩ l with
  | false =>
    simp only [runV_no h, mcrash_no h, joinW_eq, guard_tt, guard_tf, guard_ft, guard_ff, Int.reduceEq, Int.reduceLT, Int.reduceLE, decide_false, decide_true, Bool.not_false, Bool.not_true, Bool.not_not, not_true_eq_false, not_false_eq_true, true_implies, false_implies, implies_true, and_true, true_and, reduceCtorEq, Bool.and_self, Bool.or_self, Bool.and_true, Bool.true_and, Bool.false_eq_true, if_true, if_false, go_sem, Nat.reduceEqDiff, Nat.reduceLT, Nat.reduceAdd, Nat.reduceSub, Nat.reduceLeDiff, List.reduceReplicate, Int.reduceToNat]
    exact post_val rfl rfl
  | true =>
    obtain ⟨ok, hl⟩ := sound_iff.1 h
    have hso : soundB ⟨vol, per, pend⟩ (l.take (cutI n l.length).toNat) = true := sound_iff.2 ⟨ok, fun x hx => hl x ((List.take_sublist _ _).subset hx)⟩
    have okk := runS_ok (l.take (cutI n l.length).toNat) ok fun x hx => hl x ((List.take_sublist _ _).subset hx)
    have pendk := runS_pend_le (l.take (cutI n l.length).toNat) ⟨vol, per, pend⟩
    have hlt : (l.take (cutI n l.length).toNat).length ≤ l.length := by rw [List.length_take]; omega
    simp only [] at pendk
    simp only [runV_ok h, mcrash_ok h, runV_ok hso, lamplighterref05_Run.C, joinW_eq, guard_tt, guard_tf, guard_ft, guard_ff, Int.reduceEq, Int.reduceLT, Int.reduceLE, decide_false, decide_true, Bool.not_false, Bool.not_true, Bool.not_not, not_true_eq_false, not_false_eq_true, true_implies, false_implies, implies_true, and_true, true_and, reduceCtorEq, Bool.and_self, Bool.or_self, Bool.and_true, Bool.true_and, Bool.false_eq_true, if_true, if_false, go_sem, Nat.reduceEqDiff, Nat.reduceLT, Nat.reduceAdd, Nat.reduceSub, Nat.reduceLeDiff, List.reduceReplicate, Int.reduceToNat]
    generalize runS ⟨vol, per, pend⟩ (l.take (cutI n l.length).toNat) = m at *
    have hsm : smallM m.vol m.per m.pend := OkM.small okk (by omega)
    have hck : checkB m.vol m.per m.pend = true := check_iff.2 okk
    simp only [hck, crashM_ok, lamplighterref04_Crash.C, joinW_eq, guard_tt, guard_tf, guard_ft, guard_ff, Int.reduceEq, Int.reduceLT, Int.reduceLE, decide_false, decide_true, Bool.not_false, Bool.not_true, Bool.not_not, not_true_eq_false, not_false_eq_true, true_implies, false_implies, implies_true, and_true, true_and, reduceCtorEq, Bool.and_self, Bool.or_self, Bool.and_true, Bool.true_and, Bool.false_eq_true, if_true, if_false, go_sem, Nat.reduceEqDiff, Nat.reduceLT, Nat.reduceAdd, Nat.reduceSub, Nat.reduceLeDiff, List.reduceReplicate, Int.reduceToNat]
    exact ⟨hc, ⟨hs, by omega⟩, ⟨hsm, hk1⟩, post_val rfl rfl⟩
def lamplighterref05_Same.C : Contract
  | [.sl _ (.mics a), .sl _ (.mics b)] => some (false, pD (roomy a.length) (.bool (decide (a = b))))
  | _ => none
set_option maxRecDepth 20000 in
theorem lamplighterref05_Same.spec : FSpec Try.prog 23 lamplighterref05_Same.C := by
  refine FSpec.of (ctx_ok (F := []) (S := []) (by simp) (by simp) lamplighterref05_Same.loops) lamplighterref05_Same.at lamplighterref05_Same.nm lamplighterref05_Same.bd ?_
  intro vs b S v news e hS
  unfold lamplighterref05_Same.C at e
  split at e
  rotate_left
  · cases e
  cases e
  rw [lamplighterref05_Same.eq]
  unfold lamplighterref05_Same.H
  simp (maxSteps := 4000000) only [go_sem, Nat.reduceEqDiff, Nat.reduceLT, Nat.reduceAdd, Nat.reduceSub, Nat.reduceLeDiff, List.reduceReplicate, Int.reduceToNat]
  rename_i _ a _ b
  unfold roomy at hS
  refine ⟨fun hne => ?_, fun heq => ?_⟩
  · have : decide (a = b) = false := by rw [decide_eq_false_iff_not]; rintro rfl; exact hne rfl
    rw [this]; exact post_val rfl rfl
  rw [joinW_eq]
  unfold lamplighterref05_Same.L1
  have hlen : a.length = b.length := by omega
  refine loop1 (fun k : Nat => .int .i64 k) (fun _ => []) (fun k => a.length - k) (fun k => k ≤ a.length ∧ ∀ i, i < k → a.getD i ⟨0, 0, 0⟩ = b.getD i ⟨0, 0, 0⟩) 0 rfl rfl ⟨Nat.zero_le _, fun i hi => absurd hi (Nat.not_lt_zero i)⟩ ?_
  rintro I back k ⟨hk, hall⟩
  have hd : ∀ a b : Mic, (decide (a.kind = b.kind) && (decide (a.at_ = b.at_) && (decide (a.val = b.val)))) = decide (a = b) := fun a b => by
    cases a; cases b; rw [Bool.eq_iff_iff]; simp only [Bool.and_eq_true, Bool.or_eq_true, Bool.not_eq_true', Bool.not_eq_false', Bool.not_eq_true, decide_eq_true_eq, decide_eq_false_iff_not, Bool.or_eq_false_iff, Bool.and_eq_false_iff, beq_iff_eq]; simp
  simp only [go_sem, Nat.reduceEqDiff, Nat.reduceLT, Nat.reduceAdd, Nat.reduceSub, Nat.reduceLeDiff, List.reduceReplicate, Int.reduceToNat, Bool.and_true]
  rw [hd]
  refine ⟨fun hlt => ⟨by omega, by omega, fun h0 => ?_, fun h0 => ?_⟩, fun hge => ?_⟩
  · rw [decide_eq_false_iff_not] at h0
    have : decide (a = b) = false := by rw [decide_eq_false_iff_not]; rintro rfl; exact h0 rfl
    rw [this]; exact post_val rfl rfl
  · rw [decide_eq_true_eq] at h0
    refine back (k + 1) (by omega) (by rw [wnext (by omega)]) rfl ⟨by omega, fun i hi => ?_⟩
    by_cases e : i = k
    · subst e; exact h0
    · exact hall i (by omega)
  · rw [decide_eq_true (ext_d _ hlen fun i hi => hall i (by omega))]; exact post_val rfl rfl
end Lam
namespace Lam
open Go Go.Proofs
set_option linter.unusedVariables false
def lamplighterlaw09_NodeTells.loops : Nat → LInfo
  | 2 => ⟨[], [], [], [(5, none), (3, some [30, 33])], []⟩
  | 10 => ⟨[], [], [], [(4, none), (3, some [73, 76]), (2, none), (3, some [78, 81])], []⟩
  | _ => ⟨[], [], [], [], []⟩
def lamplighterlaw09_NodeTells.H (c : Ctx) (t0 : AV) (t1 : AV) (t2 : AV) (t3 : AV) (t4 : AV) (h : List AObj) (K : AOut → List AObj → Prop) : Prop :=
  boxW T_api_Node t0 h fun t5 h =>
  callW c (.fn (.func 24) [] []) [] h (fun t25 h =>
  runD (fieldAddrD T_api_Node t5 4) h fun t26 h =>
  runD (fitD T_sl_int (loadD h t26)) h fun t27 h =>
  runD (lenD T_sl_int h t27) h fun t28 h =>
  runD (binD T_int .gtr t28 (.int .i64 100)) h fun t29 h =>
  joinW (fun (J1 : AV → AV → List AObj → Prop) =>
  guardW t29 false
  (runD (lenD T_sl_int h t1) h fun t32 h =>
    runD (binD T_int .gtr t32 (.int .i64 300)) h fun t33 h =>
    J1 (.bool false) t33 h)
  (J1 (.bool true) .und h))
  (fun t30 t33 h => runD (pickD t30 (.bool true) t33) h fun t34 h =>
  condW t34
  (K (.ret t25) h)
  (runD (fitD T_api_Node (loadD h t5)) h fun t37 h =>
  callW c (.fn (.func 25) [] []) [t37] h (fun t38 h =>
  runD (extractD t38 0) h fun t39 h =>
  runD (extractD t38 1) h fun t40 h =>
  runD (fitD T_api_Node (loadD h t5)) h fun t42 h =>
  callW c (.fn (.func 26) [] []) [t42] h (fun t43 h =>
  runD (extractD t43 0) h fun t44 h =>
  runD (extractD t43 1) h fun t45 h =>
  callW c (.fn (.func 27) [] []) [t1, t2] h (fun t49 h =>
  runD (extractD t49 0) h fun t50 h =>
  runD (extractD t49 1) h fun t51 h =>
  allocW T_api_Node h fun t16 h =>
  runH (storeH T_api_Node h t16 t50) h fun _ h =>
  callW c (.fn (.func 28) [] []) [t1, t2] h (fun t55 h =>
  runD (extractD t55 0) h fun t56 h =>
  runD (extractD t55 1) h fun t57 h =>
  allocW T_api_Node h fun t18 h =>
  runH (storeH T_api_Node h t18 t56) h fun _ h =>
  callW c (.fn (.func 29) [] []) [t2, t3] h (fun t61 h =>
  runD (extractD t61 0) h fun t62 h =>
  runD (extractD t61 1) h fun t63 h =>
  callW c (.fn (.func 30) [] []) [t2, t3] h (fun t67 h =>
  runD (extractD t67 0) h fun t68 h =>
  runD (extractD t67 1) h fun t69 h =>
  callW c (.fn (.func 22) [] []) [t39, t44] h (fun t72 h =>
  joinW (fun (J2 : AV → AV → List AObj → Prop) =>
  guardW t72 true
  (runD (fitD T_api_Node (loadD h t16)) h fun t74 h =>
    runD (fitD T_api_Node (loadD h t18)) h fun t75 h =>
    callW c (.fn (.func 31) [] []) [t74, t75] h (fun t76 h =>
    J2 (.bool true) t76 h)
    (fun v h => K (.pan v) h))
  (J2 (.bool false) .und h))
  (fun t73 t76 h => runD (pickD t73 t76 (.bool false)) h fun t77 h =>
  joinW (fun (J3 : AV → AV → List AObj → Prop) =>
  guardW t77 true
  (callW c (.fn (.func 23) [] []) [t62, t68] h (fun t81 h =>
    J3 (.bool true) t81 h)
    (fun v h => K (.pan v) h))
  (J3 (.bool false) .und h))
  (fun t78 t81 h => runD (pickD t78 t81 (.bool false)) h fun t82 h =>
  joinW (fun (J4 : AV → AV → List AObj → Prop) =>
  guardW t25 true
  (J4 (.bool true) t82 h)
  (J4 (.bool false) .und h))
  (fun t84 t85 h => runD (pickD t84 t85 (.bool false)) h fun t86 h =>
  joinW (fun (J5 : AV → AV → List AObj → Prop) =>
  guardW t86 true
  (runD (binD T_api_Errno .eql t40 t45) h fun t90 h =>
    J5 (.bool true) t90 h)
  (J5 (.bool false) .und h))
  (fun t87 t90 h => runD (pickD t87 t90 (.bool false)) h fun t91 h =>
  joinW (fun (J6 : AV → AV → List AObj → Prop) =>
  guardW t91 true
  (runD (binD T_api_Errno .eql t51 t57) h fun t95 h =>
    J6 (.bool true) t95 h)
  (J6 (.bool false) .und h))
  (fun t92 t95 h => runD (pickD t92 t95 (.bool false)) h fun t96 h =>
  joinW (fun (J7 : AV → AV → List AObj → Prop) =>
  guardW t96 true
  (runD (binD T_api_Errno .eql t63 t69) h fun t100 h =>
    J7 (.bool true) t100 h)
  (J7 (.bool false) .und h))
  (fun t97 t100 h => runD (pickD t97 t100 (.bool false)) h fun t101 h =>
  joinW (fun (J8 : AV → AV → List AObj → Prop) =>
  guardW t101 true
  (runD (fitD T_api_Node (loadD h t5)) h fun t103 h =>
    callW c.noS (.fn (.func 32) [] []) [t103] h (fun t104 h =>
    runD (fitD T_api_Node (loadD h t5)) h fun t105 h =>
    callW c.noS (.fn (.func 33) [] []) [t105] h (fun t106 h =>
    runD (binD T_bool .eql t104 t106) h fun t107 h =>
    J8 (.bool true) t107 h)
    (fun _ _ => False))
    (fun _ _ => False))
  (J8 (.bool false) .und h))
  (fun t102 t107 h => runD (pickD t102 t107 (.bool false)) h fun t108 h =>
  joinW (fun (J9 : AV → AV → List AObj → Prop) =>
  guardW t108 true
  (runD (fitD T_api_Node (loadD h t5)) h fun t111 h =>
    callW c.noS (.fn (.func 34) [] []) [t2, t111, t4] h (fun t113 h =>
    runD (fitD T_api_Node (loadD h t5)) h fun t115 h =>
    callW c.noS (.fn (.func 35) [] []) [t2, t115, t4] h (fun t117 h =>
    callW c.noS (.fn (.func 23) [] []) [t113, t117] h (fun t118 h =>
    J9 (.bool true) t118 h)
    (fun _ _ => False))
    (fun _ _ => False))
    (fun _ _ => False))
  (J9 (.bool false) .und h))
  (fun t109 t118 h => runD (pickD t109 t118 (.bool false)) h fun t119 h =>
  K (.ret t119) h)))))))))
  (fun v h => K (.pan v) h))
  (fun v h => K (.pan v) h))
  (fun v h => K (.pan v) h))
  (fun v h => K (.pan v) h))
  (fun v h => K (.pan v) h))
  (fun v h => K (.pan v) h))
  (fun v h => K (.pan v) h))))
  (fun v h => K (.pan v) h)
theorem lamplighterlaw09_NodeTells.eq (F : List (FuncId × Contract)) (S : List (FuncId × Con)) (t0 t1 t2 t3 t4 : AV) (h : List AObj) (K : AOut → List AObj → Prop) : funW (ctx F S lamplighterlaw09_NodeTells.loops) Try.f6 [t0, t1, t2, t3, t4] h K = lamplighterlaw09_NodeTells.H (ctx F S lamplighterlaw09_NodeTells.loops) t0 t1 t2 t3 t4 h K := by kernel_rfl
theorem lamplighterlaw09_NodeTells.at : Try.prog.funcs[6]? = some Try.f6 := by kernel_rfl
theorem lamplighterlaw09_NodeTells.nm : (Try.f6.name == "runtime.NumGoroutine") = false := by kernel_rfl
theorem lamplighterlaw09_NodeTells.bd : Try.f6.body.isNone = false := by kernel_rfl
end Lam
namespace Lam
open Go Go.Proofs
set_option linter.unusedVariables false
set_option linter.unnecessarySimpa false
set_option linter.unusedSimpArgs false
theorem decide_self {α : Type} [DecidableEq α] (a : α) : decide (a = a) = true := decide_eq_true rfl
abbrev NodeTells_ctx : Ctx := ctx [(24, lamplighterlaw09_awake.C), (25, node_Words.C), (27, node_Read.C), (29, node_Next.C), (32, node_Check.C), (34, node_Turn.C), (26, lamplighterref09_Words.C), (28, lamplighterref09_Read.C), (30, lamplighterref09_Next.C), (33, lamplighterref09_Check.C), (35, lamplighterref09_Turn.C), (31, lamplighterref09_Same.C), (22, lamplighterref02_Numbers.C), (23, lamplighterref05_Same.C)] [] lamplighterlaw09_NodeTells.loops
set_option maxRecDepth 20000 in
theorem NodeTells_vc (n_level : Int) (n_turn : Int) (n_next : Int) (n_low : Int) (n_slots : List Int) (words : List Int) (block : Int) (next : Int) (down : Bool) (w_n_level : (Lit.int .i64 n_level).wf = true) (w_n_turn : (Lit.int .i64 n_turn).wf = true) (w_n_next : (Lit.int .i64 n_next).wf = true) (w_n_low : (Lit.int .i64 n_low).wf = true) (w_n_slots : wfL (.ints .i64 n_slots)) (n_n_slots : n_slots.length ≤ maxLen) (w_words : wfL (.ints .i64 words)) (n_words : words.length ≤ maxLen) (w_block : (Lit.int .i64 block).wf = true) (w_next : (Lit.int .i64 next).wf = true) : lamplighterlaw09_NodeTells.H NodeTells_ctx (.agg [(.int .i64 n_level), (.int .i64 n_turn), (.int .i64 n_next), (.int .i64 n_low), (.sl false (.ints .i64 n_slots))]) (.sl false (.ints .i64 words)) (.int .i64 block) (.int .i64 next) (.bool down) [] Told := by
  unfold lamplighterlaw09_NodeTells.H
  simp (maxSteps := 4000000) only [go_sem, Nat.reduceEqDiff, Nat.reduceLT, Nat.reduceAdd, Nat.reduceSub, Nat.reduceLeDiff, List.reduceReplicate, Int.reduceToNat, lamplighterlaw09_awake.C, node_Words.C, node_Read.C, node_Next.C, node_Check.C, node_Turn.C, lamplighterref09_Words.C, lamplighterref09_Read.C, lamplighterref09_Next.C, lamplighterref09_Check.C, lamplighterref09_Turn.C, lamplighterref09_Same.C, lamplighterref02_Numbers.C, lamplighterref05_Same.C]
  refine ⟨fun _ => rfl, fun hg => ?_⟩
  simp only [Bool.or_eq_false_iff, decide_eq_false_iff_not] at hg
  have hrw : roomy words.length := by unfold roomy; omega
  have hi64 := wf_i64s w_words
  obtain ⟨A, e, hA, hAl⟩ := wordsV_ex ⟨n_level, n_turn, n_next, n_low, n_slots⟩
  have hrA : roomy A.length := by unfold roomy; omega
  obtain ⟨y, f, hY, hYl⟩ : ∃ (y : Nd) (f : Int), readV words block = .tup [y.V, .int .i64 f] ∧ y.slots.length ≤ 13 := by
    rcases readV_cases words block with ⟨e, _, h⟩ | ⟨y, hy, _, _, _, h⟩
    · exact ⟨_, _, h, Nat.zero_le _⟩
    · exact ⟨_, _, h, hy.2.2.2.2.2.2.1⟩
  have hrY : roomy y.slots.length := by unfold roomy; omega
  obtain ⟨B, g, hB, hBl⟩ : ∃ (B : List Mic) (g : Int), nextV block next = .tup [.sl false (.mics B), .int .i64 g] ∧ B.length ≤ 2 := by
    unfold nextV; split
    · exact ⟨_, _, rfl, by simp⟩
    · exact ⟨_, _, rfl, by simp⟩
  have hrB : roomy B.length := by unfold roomy; omega
  have hT : (turnS block ⟨n_level, n_turn, n_next, n_low, n_slots⟩ down).length ≤ 1 := by unfold turnS; split <;> simp
  have hrT : roomy (turnS block ⟨n_level, n_turn, n_next, n_low, n_slots⟩ down).length := by unfold roomy; omega
  simp only [hA, hY, hB, node_Check.C, lamplighterref09_Words.C, lamplighterref09_Check.C, node_Turn.C, lamplighterref09_Turn.C, lamplighterref09_Same.C, lamplighterref02_Numbers.C, lamplighterref05_Same.C, decide_self, beq_self_eq_true, joinW_eq, guard_tt, guard_tf, guard_ft, guard_ff, Int.reduceEq, Int.reduceLT, Int.reduceLE, decide_false, decide_true, Bool.not_false, Bool.not_true, Bool.not_not, not_true_eq_false, not_false_eq_true, true_implies, false_implies, implies_true, and_true, true_and, reduceCtorEq, Bool.and_self, Bool.or_self, Bool.and_true, Bool.true_and, Bool.false_eq_true, if_true, if_false, go_sem, Nat.reduceEqDiff, Nat.reduceLT, Nat.reduceAdd, Nat.reduceSub, Nat.reduceLeDiff, List.reduceReplicate, Int.reduceToNat]
  exact ⟨hrw, ⟨by omega, hi64⟩, hrA, hrY, hrB, hrT, rfl⟩
theorem NodeTells_ok : Ok Try.prog NodeTells_ctx := ctx_ok (by simpa using ⟨lamplighterlaw09_awake.spec, node_Words.spec, node_Read.spec, node_Next.spec, node_Check.spec, node_Turn.spec, lamplighterref09_Words.spec, lamplighterref09_Read.spec, lamplighterref09_Next.spec, lamplighterref09_Check.spec, lamplighterref09_Turn.spec, lamplighterref09_Same.spec, lamplighterref02_Numbers.spec, lamplighterref05_Same.spec⟩) (by simp) _
theorem NodeTells_law (n : AV) (words : Lst) (block : Int) (next : Int) (down : Bool) (g_n : GoodV T_api_Node n) (k_words : words.kind = (.int .i64)) (w_words : wfL words) (n_words : words.len ≤ maxLen) (w_block : (Lit.int .i64 block).wf = true) (w_next : (Lit.int .i64 next).wf = true) : funW NodeTells_ctx Try.f6 [n, (.sl false words), (.int .i64 block), (.int .i64 next), (.bool down)] [] Told := by
  obtain ⟨_, rfl, _, _, rfl, ⟨n_level, rfl, w_n_level⟩, _, _, rfl, ⟨n_turn, rfl, w_n_turn⟩, _, _, rfl, ⟨n_next, rfl, w_n_next⟩, _, _, rfl, ⟨n_low, rfl, w_n_low⟩, _, _, rfl, ⟨n_slots, rfl, k_n_slots, w_n_slots, n_n_slots⟩, rfl⟩ := g_n
  obtain ⟨n_slots, rfl⟩ := gkind_ints k_n_slots
  obtain ⟨words, rfl⟩ := gkind_ints k_words
  rw [NodeTells_ctx, lamplighterlaw09_NodeTells.eq]
  exact NodeTells_vc n_level n_turn n_next n_low n_slots words block next down w_n_level w_n_turn w_n_next w_n_low w_n_slots n_n_slots w_words n_words w_block w_next
end Lam
