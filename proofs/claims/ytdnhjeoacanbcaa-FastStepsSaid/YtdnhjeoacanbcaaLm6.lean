/- What functions of the program come to, each proved from its code. -/
import Derived.Test.YtdnhjeoacanbcaaLm5
namespace Lam
open Go Go.Proofs
set_option linter.unusedVariables false
def lamplighterlaw06_awake.loops : Nat → LInfo
  | 6 => ⟨[], [], [], [(4, none), (3, some [39, 42]), (2, none), (3, some [44, 47]), (2, none), (3, some [49, 52])], []⟩
  | 8 => ⟨[], [], [], [(3, none), (5, some [56, 61]), (2, none), (5, some [63, 68]), (2, none), (2, some [70, 72]), (2, none), (2, some [74, 76]), (2, none), (5, some [78, 83]), (2, none), (2, some [85, 87]), (2, none), (2, some [89, 91]), (2, none), (2, some [93, 95]), (2, none), (2, some [97, 99]), (2, none), (4, some [101, 105]), (2, none), (4, some [107, 111])], []⟩
  | _ => ⟨[], [], [], [], []⟩
def lamplighterlaw06_awake.H (c : Ctx) (h : List AObj) (K : AOut → List AObj → Prop) : Prop :=
  runD (buildSliceD T_sl_int 2 [(0, (.int .i64 5)), (1, (.int .i64 6))] h.length) h fun t12 h =>
  callW c (.fn (.func 37) [] []) [(.int .i64 16), t12, (.int .i64 0), (.int .i64 9)] h (fun t13 h =>
  runD (extractD t13 0) h fun t14 h =>
  runD (extractD t13 1) h fun t15 h =>
  runD (buildSliceD T_sl_int 2 [(0, (.int .i64 5)), (1, (.int .i64 6))] h.length) h fun t17 h =>
  callW c (.fn (.func 37) [] []) [(.int .i64 16), t17, (.int .i64 3), (.int .i64 9)] h (fun t18 h =>
  runD (extractD t18 0) h fun t19 h =>
  runD (extractD t18 1) h fun t20 h =>
  runD (buildSliceD T_sl_int 2 [(0, (.int .i64 5)), (1, (.int .i64 6))] h.length) h fun t22 h =>
  callW c (.fn (.func 39) [] []) [(.int .i64 0), t22, (.int .i64 0)] h (fun t23 h =>
  runD (extractD t23 0) h fun t24 h =>
  runD (extractD t23 1) h fun t25 h =>
  runD (buildSliceD T_sl_int 2 [(0, (.int .i64 5)), (1, (.int .i64 6))] h.length) h fun t27 h =>
  callW c (.fn (.func 43) [] []) [(.int .i64 0), t27, (.int .i64 1)] h (fun t28 h =>
  runD (extractD t28 0) h fun t29 h =>
  runD (extractD t28 1) h fun t30 h =>
  runD (buildSliceD T_sl_int 2 [(0, (.int .i64 5)), (1, (.int .i64 6))] h.length) h fun t32 h =>
  callW c (.fn (.func 41) [] []) [(.int .i64 0), t32, (.int .i64 1), (.int .i64 7)] h (fun t33 h =>
  runD (extractD t33 0) h fun t34 h =>
  runD (extractD t33 1) h fun t35 h =>
  runD (lenD T_sl_api_Micro h t14) h fun t37 h =>
  runD (binD T_int .neq t37 (.int .i64 4)) h fun t38 h =>
  joinW (fun (J1 : AV → AV → List AObj → Prop) =>
  guardW t38 false
  (runD (lenD T_sl_api_Micro h t24) h fun t41 h =>
    runD (binD T_int .neq t41 (.int .i64 3)) h fun t42 h =>
    J1 (.bool false) t42 h)
  (J1 (.bool true) .und h))
  (fun t39 t42 h => runD (pickD t39 (.bool true) t42) h fun t43 h =>
  joinW (fun (J2 : AV → AV → List AObj → Prop) =>
  guardW t43 false
  (runD (lenD T_sl_api_Micro h t29) h fun t46 h =>
    runD (binD T_int .neq t46 (.int .i64 2)) h fun t47 h =>
    J2 (.bool false) t47 h)
  (J2 (.bool true) .und h))
  (fun t44 t47 h => runD (pickD t44 (.bool true) t47) h fun t48 h =>
  joinW (fun (J3 : AV → AV → List AObj → Prop) =>
  guardW t48 false
  (runD (lenD T_sl_api_Micro h t34) h fun t51 h =>
    runD (binD T_int .neq t51 (.int .i64 2)) h fun t52 h =>
    J3 (.bool false) t52 h)
  (J3 (.bool true) .und h))
  (fun t49 t52 h => runD (pickD t49 (.bool true) t52) h fun t53 h =>
  condW t53
  (K (.ret (.bool false)) h)
  (runD (binD T_api_Errno .eql t15 (.int .i64 0)) h fun t55 h =>
  joinW (fun (J4 : AV → AV → List AObj → Prop) =>
  guardW t55 true
  (runD (indexAddrD T_sl_api_Micro h t14 (.int .i64 0)) h fun t58 h =>
    runD (fitD T_api_Micro (loadD h t58)) h fun t59 h =>
    runD (buildD T_api_Micro [(0, (.int .i64 1)), (1, (.int .i64 21)), (2, (.int .i64 6))]) h fun t60 h =>
    runD (binD T_api_Micro .eql t59 t60) h fun t61 h =>
    J4 (.bool true) t61 h)
  (J4 (.bool false) .und h))
  (fun t56 t61 h => runD (pickD t56 t61 (.bool false)) h fun t62 h =>
  joinW (fun (J5 : AV → AV → List AObj → Prop) =>
  guardW t62 true
  (runD (indexAddrD T_sl_api_Micro h t14 (.int .i64 3)) h fun t65 h =>
    runD (fitD T_api_Micro (loadD h t65)) h fun t66 h =>
    runD (buildD T_api_Micro [(0, (.int .i64 2)), (1, (.int .i64 2))]) h fun t67 h =>
    runD (binD T_api_Micro .eql t66 t67) h fun t68 h =>
    J5 (.bool true) t68 h)
  (J5 (.bool false) .und h))
  (fun t63 t68 h => runD (pickD t63 t68 (.bool false)) h fun t69 h =>
  joinW (fun (J6 : AV → AV → List AObj → Prop) =>
  guardW t69 true
  (runD (binD T_api_Errno .eql t20 (.int .i64 1)) h fun t72 h =>
    J6 (.bool true) t72 h)
  (J6 (.bool false) .und h))
  (fun t70 t72 h => runD (pickD t70 t72 (.bool false)) h fun t73 h =>
  joinW (fun (J7 : AV → AV → List AObj → Prop) =>
  guardW t73 true
  (runD (binD T_api_Errno .eql t25 (.int .i64 0)) h fun t76 h =>
    J7 (.bool true) t76 h)
  (J7 (.bool false) .und h))
  (fun t74 t76 h => runD (pickD t74 t76 (.bool false)) h fun t77 h =>
  joinW (fun (J8 : AV → AV → List AObj → Prop) =>
  guardW t77 true
  (runD (indexAddrD T_sl_api_Micro h t24 (.int .i64 1)) h fun t80 h =>
    runD (fitD T_api_Micro (loadD h t80)) h fun t81 h =>
    runD (buildD T_api_Micro [(0, (.int .i64 1)), (1, (.int .i64 4))]) h fun t82 h =>
    runD (binD T_api_Micro .eql t81 t82) h fun t83 h =>
    J8 (.bool true) t83 h)
  (J8 (.bool false) .und h))
  (fun t78 t83 h => runD (pickD t78 t83 (.bool false)) h fun t84 h =>
  joinW (fun (J9 : AV → AV → List AObj → Prop) =>
  guardW t84 true
  (runD (binD T_api_Errno .eql t30 (.int .i64 0)) h fun t87 h =>
    J9 (.bool true) t87 h)
  (J9 (.bool false) .und h))
  (fun t85 t87 h => runD (pickD t85 t87 (.bool false)) h fun t88 h =>
  joinW (fun (J10 : AV → AV → List AObj → Prop) =>
  guardW t88 true
  (runD (binD T_api_Errno .eql t35 (.int .i64 0)) h fun t91 h =>
    J10 (.bool true) t91 h)
  (J10 (.bool false) .und h))
  (fun t89 t91 h => runD (pickD t89 t91 (.bool false)) h fun t92 h =>
  joinW (fun (J11 : AV → AV → List AObj → Prop) =>
  guardW t92 true
  (callW c (.fn (.func 45) [] []) [(.int .i64 16), (.int .i64 0)] h (fun t94 h =>
    runD (binD T_int .eql t94 (.int .i64 19)) h fun t95 h =>
    J11 (.bool true) t95 h)
    (fun v h => K (.pan v) h))
  (J11 (.bool false) .und h))
  (fun t93 t95 h => runD (pickD t93 t95 (.bool false)) h fun t96 h =>
  joinW (fun (J12 : AV → AV → List AObj → Prop) =>
  guardW t96 true
  (callW c (.fn (.func 45) [] []) [(.int .i64 1), (.int .i64 0)] h (fun t98 h =>
    runD (binD T_int .eql t98 (.int .i64 (-1))) h fun t99 h =>
    J12 (.bool true) t99 h)
    (fun v h => K (.pan v) h))
  (J12 (.bool false) .und h))
  (fun t97 t99 h => runD (pickD t97 t99 (.bool false)) h fun t100 h =>
  joinW (fun (J13 : AV → AV → List AObj → Prop) =>
  guardW t100 true
  (runD (buildSliceD T_sl_int 3 [(0, (.int .i64 1)), (1, (.int .i64 1)), (2, (.int .i64 2))] h.length) h fun t102 h =>
    callW c (.fn (.func 49) [] []) [t102] h (fun t103 h =>
    runD (lenD T_sl_int h t103) h fun t104 h =>
    runD (binD T_int .eql t104 (.int .i64 2)) h fun t105 h =>
    J13 (.bool true) t105 h)
    (fun v h => K (.pan v) h))
  (J13 (.bool false) .und h))
  (fun t101 t105 h => runD (pickD t101 t105 (.bool false)) h fun t106 h =>
  joinW (fun (J14 : AV → AV → List AObj → Prop) =>
  guardW t106 true
  (runD (makeSliceD T_sl_int (.int .i64 16) (.int .i64 16) h.length) h fun t108 h =>
    callW c (.fn (.func 47) [] []) [t108, (.int .i64 0)] h (fun t109 h =>
    runD (lenD T_sl_int h t109) h fun t110 h =>
    runD (binD T_int .eql t110 (.int .i64 0)) h fun t111 h =>
    J14 (.bool true) t111 h)
    (fun v h => K (.pan v) h))
  (J14 (.bool false) .und h))
  (fun t107 t111 h => runD (pickD t107 t111 (.bool false)) h fun t112 h =>
  runD (pickD t112 (.bool true) (.bool false)) h fun t114 h =>
  K (.ret t114) h))))))))))))))))
  (fun v h => K (.pan v) h))
  (fun v h => K (.pan v) h))
  (fun v h => K (.pan v) h))
  (fun v h => K (.pan v) h))
  (fun v h => K (.pan v) h)
theorem lamplighterlaw06_awake.eq (F : List (FuncId × Contract)) (S : List (FuncId × Con)) (h : List AObj) (K : AOut → List AObj → Prop) : funW (ctx F S lamplighterlaw06_awake.loops) Try.f36 [] h K = lamplighterlaw06_awake.H (ctx F S lamplighterlaw06_awake.loops)  h K := by kernel_rfl
theorem lamplighterlaw06_awake.at : Try.prog.funcs[36]? = some Try.f36 := by kernel_rfl
theorem lamplighterlaw06_awake.nm : (Try.f36.name == "runtime.NumGoroutine") = false := by kernel_rfl
theorem lamplighterlaw06_awake.bd : Try.f36.body.isNone = false := by kernel_rfl
end Lam
namespace Lam
open Go Go.Proofs
set_option linter.unusedVariables false
def lamplighterref06_Insert.loops : Nat → LInfo
  | 1 => ⟨[], [], [], [(4, none), (3, some [15, 18]), (2, none), (2, some [20, 22]), (2, none), (2, some [24, 26]), (2, none), (4, some [28, 32])], []⟩
  | 7 => ⟨[10, 11], [false, false], [0, 1, 2, 3], [], []⟩
  | _ => ⟨[], [], [], [], []⟩
def lamplighterref06_Insert.L1 (c : Ctx) (J5 : AV → AV → AV → AV → List AObj → Prop) (K : AOut → List AObj → Prop) (lv : List AV) (h0 : List AObj) (n0 : Nat) (c0 : AV) (c1 : AV) (c2 : AV) (c3 : AV) : Prop :=
  ∃ I : Nat → List AV → List AObj → Prop, (∃ n, I n lv h0) ∧ ∀ n h, ∀ t10, ∀ t11, I n [t10, t11] h →
    runD (binD T_int .gtr t11 c2) h fun t41 h =>
    condW t41
    (runD (binD T_int .sub t11 (.int .i64 1)) h fun t49 h =>
    runD (indexAddrD T_sl_int h c1 t49) h fun t50 h =>
    runD (fitD T_int (loadD h t50)) h fun t51 h =>
    callW c (.fn (.func 87) [] []) [c0, t10, t11, t51] h (fun t52 h =>
    runD (binD T_int .sub t11 (.int .i64 1)) h fun t43 h =>
    (∃ m, m < n ∧ I m (AV.norms n0 h [t52, t43]) (normH n0 h)) ∧ AV.norms n0 h [c0, c1, c2, c3] = [c0, c1, c2, c3])
    (fun v h => K (.pan v) h))
    (J5 c0 c2 c3 t10 h)
def lamplighterref06_Insert.H (c : Ctx) (t0 : AV) (t1 : AV) (t2 : AV) (t3 : AV) (h : List AObj) (K : AOut → List AObj → Prop) : Prop :=
  callW c (.fn (.func 85) [] []) [t0] h (fun t13 h =>
  runD (unD .not t13) h fun t14 h =>
  joinW (fun (J1 : AV → AV → List AObj → Prop) =>
  guardW t14 false
  (callW c (.fn (.func 86) [] []) [t1] h (fun t17 h =>
    runD (unD .not t17) h fun t18 h =>
    J1 (.bool false) t18 h)
    (fun v h => K (.pan v) h))
  (J1 (.bool true) .und h))
  (fun t15 t18 h => runD (pickD t15 (.bool true) t18) h fun t19 h =>
  joinW (fun (J2 : AV → AV → List AObj → Prop) =>
  guardW t19 false
  (runD (binD T_int .leq t3 (.int .i64 0)) h fun t22 h =>
    J2 (.bool false) t22 h)
  (J2 (.bool true) .und h))
  (fun t20 t22 h => runD (pickD t20 (.bool true) t22) h fun t23 h =>
  joinW (fun (J3 : AV → AV → List AObj → Prop) =>
  guardW t23 false
  (runD (binD T_int .lss t2 (.int .i64 0)) h fun t26 h =>
    J3 (.bool false) t26 h)
  (J3 (.bool true) .und h))
  (fun t24 t26 h => runD (pickD t24 (.bool true) t26) h fun t27 h =>
  joinW (fun (J4 : AV → AV → List AObj → Prop) =>
  guardW t27 false
  (runD (lenD T_sl_int h t1) h fun t31 h =>
    runD (binD T_int .gtr t2 t31) h fun t32 h =>
    J4 (.bool false) t32 h)
  (J4 (.bool true) .und h))
  (fun t28 t32 h => runD (pickD t28 (.bool true) t32) h fun t33 h =>
  condW t33
  (K (.ret (.tup [(.sl true (.mics [])), (.int .i64 1)])) h)
  (runD (lenD T_sl_int h t1) h fun t35 h =>
  runD (binD T_int .eql t35 (.int .i64 13)) h fun t36 h =>
  condW t36
  (K (.ret (.tup [(.sl true (.mics [])), (.int .i64 100)])) h)
  (runD (lenD T_sl_int h t1) h fun t38 h =>
  joinW (fun (J5 : AV → AV → AV → AV → List AObj → Prop) =>
  promV [false, false] [(.sl true (.mics [])), t38] h fun lv h => lamplighterref06_Insert.L1 c J5 K (AV.norms h.length h lv) (normH h.length h) h.length (AV.norm h.length h t0) (AV.norm h.length h t1) (AV.norm h.length h t2) (AV.norm h.length h t3))
  (fun t0 t2 t3 t10 h => callW c (.fn (.func 87) [] []) [t0, t10, t2, t3] h (fun t57 h =>
  callW c (.fn (.func 88) [] []) [t57] h (fun t58 h =>
  K (.ret (.tup [t58, (.int .i64 0)])) h)
  (fun v h => K (.pan v) h))
  (fun v h => K (.pan v) h)))))))))
  (fun v h => K (.pan v) h)
def lamplighterref06_Delete.loops : Nat → LInfo
  | 1 => ⟨[], [], [], [(4, none), (3, some [13, 16]), (2, none), (2, some [18, 20]), (2, none), (4, some [22, 26])], []⟩
  | 5 => ⟨[8, 9], [false, false], [0, 1], [], []⟩
  | _ => ⟨[], [], [], [], []⟩
def lamplighterref06_Delete.L1 (c : Ctx) (J4 : AV → AV → AV → List AObj → Prop) (K : AOut → List AObj → Prop) (lv : List AV) (h0 : List AObj) (n0 : Nat) (c0 : AV) (c1 : AV) : Prop :=
  ∃ I : Nat → List AV → List AObj → Prop, (∃ n, I n lv h0) ∧ ∀ n h, ∀ t8, ∀ t9, I n [t8, t9] h →
    runD (lenD T_sl_int h c1) h fun t31 h =>
    runD (binD T_int .sub t31 (.int .i64 1)) h fun t32 h =>
    runD (binD T_int .lss t9 t32) h fun t33 h =>
    condW t33
    (runD (binD T_int .add t9 (.int .i64 1)) h fun t41 h =>
    runD (indexAddrD T_sl_int h c1 t41) h fun t42 h =>
    runD (fitD T_int (loadD h t42)) h fun t43 h =>
    callW c (.fn (.func 87) [] []) [c0, t8, t9, t43] h (fun t44 h =>
    runD (binD T_int .add t9 (.int .i64 1)) h fun t35 h =>
    (∃ m, m < n ∧ I m (AV.norms n0 h [t44, t35]) (normH n0 h)) ∧ AV.norms n0 h [c0, c1] = [c0, c1])
    (fun v h => K (.pan v) h))
    (J4 c0 c1 t8 h)
def lamplighterref06_Delete.H (c : Ctx) (t0 : AV) (t1 : AV) (t2 : AV) (h : List AObj) (K : AOut → List AObj → Prop) : Prop :=
  callW c (.fn (.func 85) [] []) [t0] h (fun t11 h =>
  runD (unD .not t11) h fun t12 h =>
  joinW (fun (J1 : AV → AV → List AObj → Prop) =>
  guardW t12 false
  (callW c (.fn (.func 86) [] []) [t1] h (fun t15 h =>
    runD (unD .not t15) h fun t16 h =>
    J1 (.bool false) t16 h)
    (fun v h => K (.pan v) h))
  (J1 (.bool true) .und h))
  (fun t13 t16 h => runD (pickD t13 (.bool true) t16) h fun t17 h =>
  joinW (fun (J2 : AV → AV → List AObj → Prop) =>
  guardW t17 false
  (runD (binD T_int .lss t2 (.int .i64 0)) h fun t20 h =>
    J2 (.bool false) t20 h)
  (J2 (.bool true) .und h))
  (fun t18 t20 h => runD (pickD t18 (.bool true) t20) h fun t21 h =>
  joinW (fun (J3 : AV → AV → List AObj → Prop) =>
  guardW t21 false
  (runD (lenD T_sl_int h t1) h fun t25 h =>
    runD (binD T_int .geq t2 t25) h fun t26 h =>
    J3 (.bool false) t26 h)
  (J3 (.bool true) .und h))
  (fun t22 t26 h => runD (pickD t22 (.bool true) t26) h fun t27 h =>
  condW t27
  (K (.ret (.tup [(.sl true (.mics [])), (.int .i64 1)])) h)
  (joinW (fun (J4 : AV → AV → AV → List AObj → Prop) =>
  promV [false, false] [(.sl true (.mics [])), t2] h fun lv h => lamplighterref06_Delete.L1 c J4 K (AV.norms h.length h lv) (normH h.length h) h.length (AV.norm h.length h t0) (AV.norm h.length h t1))
  (fun t0 t1 t8 h => runD (lenD T_sl_int h t1) h fun t48 h =>
  runD (binD T_int .sub t48 (.int .i64 1)) h fun t49 h =>
  callW c (.fn (.func 87) [] []) [t0, t8, t49, (.int .i64 0)] h (fun t50 h =>
  callW c (.fn (.func 88) [] []) [t50] h (fun t51 h =>
  K (.ret (.tup [t51, (.int .i64 0)])) h)
  (fun v h => K (.pan v) h))
  (fun v h => K (.pan v) h)))))))
  (fun v h => K (.pan v) h)
def lamplighterref06_Swap.loops : Nat → LInfo
  | 1 => ⟨[], [], [], [(4, none), (3, some [13, 16]), (2, none), (2, some [18, 20]), (2, none), (2, some [22, 24]), (2, none), (4, some [26, 30])], []⟩
  | _ => ⟨[], [], [], [], []⟩
def lamplighterref06_Swap.H (c : Ctx) (t0 : AV) (t1 : AV) (t2 : AV) (t3 : AV) (h : List AObj) (K : AOut → List AObj → Prop) : Prop :=
  callW c (.fn (.func 85) [] []) [t0] h (fun t11 h =>
  runD (unD .not t11) h fun t12 h =>
  joinW (fun (J1 : AV → AV → List AObj → Prop) =>
  guardW t12 false
  (callW c (.fn (.func 86) [] []) [t1] h (fun t15 h =>
    runD (unD .not t15) h fun t16 h =>
    J1 (.bool false) t16 h)
    (fun v h => K (.pan v) h))
  (J1 (.bool true) .und h))
  (fun t13 t16 h => runD (pickD t13 (.bool true) t16) h fun t17 h =>
  joinW (fun (J2 : AV → AV → List AObj → Prop) =>
  guardW t17 false
  (runD (binD T_int .leq t3 (.int .i64 0)) h fun t20 h =>
    J2 (.bool false) t20 h)
  (J2 (.bool true) .und h))
  (fun t18 t20 h => runD (pickD t18 (.bool true) t20) h fun t21 h =>
  joinW (fun (J3 : AV → AV → List AObj → Prop) =>
  guardW t21 false
  (runD (binD T_int .lss t2 (.int .i64 0)) h fun t24 h =>
    J3 (.bool false) t24 h)
  (J3 (.bool true) .und h))
  (fun t22 t24 h => runD (pickD t22 (.bool true) t24) h fun t25 h =>
  joinW (fun (J4 : AV → AV → List AObj → Prop) =>
  guardW t25 false
  (runD (lenD T_sl_int h t1) h fun t29 h =>
    runD (binD T_int .geq t2 t29) h fun t30 h =>
    J4 (.bool false) t30 h)
  (J4 (.bool true) .und h))
  (fun t26 t30 h => runD (pickD t26 (.bool true) t30) h fun t31 h =>
  condW t31
  (K (.ret (.tup [(.sl true (.mics [])), (.int .i64 1)])) h)
  (callW c (.fn (.func 87) [] []) [t0, (.sl true (.mics [])), t2, t3] h (fun t35 h =>
  callW c (.fn (.func 88) [] []) [t35] h (fun t36 h =>
  K (.ret (.tup [t36, (.int .i64 0)])) h)
  (fun v h => K (.pan v) h))
  (fun v h => K (.pan v) h)))))))
  (fun v h => K (.pan v) h)
def lamplighterref06_Cut.loops : Nat → LInfo
  | 1 => ⟨[], [], [], [(4, none), (3, some [13, 16]), (2, none), (2, some [18, 20]), (2, none), (4, some [22, 26])], []⟩
  | 5 => ⟨[8, 9], [false, false], [0, 2], [], []⟩
  | _ => ⟨[], [], [], [], []⟩
def lamplighterref06_Cut.L1 (c : Ctx) (J4 : AV → List AObj → Prop) (K : AOut → List AObj → Prop) (lv : List AV) (h0 : List AObj) (n0 : Nat) (c0 : AV) (c2 : AV) : Prop :=
  ∃ I : Nat → List AV → List AObj → Prop, (∃ n, I n lv h0) ∧ ∀ n h, ∀ t8, ∀ t9, I n [t8, t9] h →
    runD (binD T_int .geq t9 c2) h fun t33 h =>
    condW t33
    (callW c (.fn (.func 87) [] []) [c0, t8, t9, (.int .i64 0)] h (fun t39 h =>
    runD (binD T_int .sub t9 (.int .i64 1)) h fun t35 h =>
    (∃ m, m < n ∧ I m (AV.norms n0 h [t39, t35]) (normH n0 h)) ∧ AV.norms n0 h [c0, c2] = [c0, c2])
    (fun v h => K (.pan v) h))
    (J4 t8 h)
def lamplighterref06_Cut.H (c : Ctx) (t0 : AV) (t1 : AV) (t2 : AV) (h : List AObj) (K : AOut → List AObj → Prop) : Prop :=
  callW c (.fn (.func 85) [] []) [t0] h (fun t11 h =>
  runD (unD .not t11) h fun t12 h =>
  joinW (fun (J1 : AV → AV → List AObj → Prop) =>
  guardW t12 false
  (callW c (.fn (.func 86) [] []) [t1] h (fun t15 h =>
    runD (unD .not t15) h fun t16 h =>
    J1 (.bool false) t16 h)
    (fun v h => K (.pan v) h))
  (J1 (.bool true) .und h))
  (fun t13 t16 h => runD (pickD t13 (.bool true) t16) h fun t17 h =>
  joinW (fun (J2 : AV → AV → List AObj → Prop) =>
  guardW t17 false
  (runD (binD T_int .lss t2 (.int .i64 0)) h fun t20 h =>
    J2 (.bool false) t20 h)
  (J2 (.bool true) .und h))
  (fun t18 t20 h => runD (pickD t18 (.bool true) t20) h fun t21 h =>
  joinW (fun (J3 : AV → AV → List AObj → Prop) =>
  guardW t21 false
  (runD (lenD T_sl_int h t1) h fun t25 h =>
    runD (binD T_int .gtr t2 t25) h fun t26 h =>
    J3 (.bool false) t26 h)
  (J3 (.bool true) .und h))
  (fun t22 t26 h => runD (pickD t22 (.bool true) t26) h fun t27 h =>
  condW t27
  (K (.ret (.tup [(.sl true (.mics [])), (.int .i64 1)])) h)
  (runD (lenD T_sl_int h t1) h fun t29 h =>
  runD (binD T_int .sub t29 (.int .i64 1)) h fun t30 h =>
  joinW (fun (J4 : AV → List AObj → Prop) =>
  promV [false, false] [(.sl true (.mics [])), t30] h fun lv h => lamplighterref06_Cut.L1 c J4 K (AV.norms h.length h lv) (normH h.length h) h.length (AV.norm h.length h t0) (AV.norm h.length h t2))
  (fun t8 h => callW c (.fn (.func 88) [] []) [t8] h (fun t41 h =>
  K (.ret (.tup [t41, (.int .i64 0)])) h)
  (fun v h => K (.pan v) h)))))))
  (fun v h => K (.pan v) h)
def lamplighterref06_Place.loops : Nat → LInfo
  | 1 => ⟨[], [], [], [(4, none), (2, some [8, 10]), (2, none), (2, some [12, 14])], []⟩
  | _ => ⟨[], [], [], [], []⟩
def lamplighterref06_Place.H (c : Ctx) (t0 : AV) (t1 : AV) (h : List AObj) (K : AOut → List AObj → Prop) : Prop :=
  callW c (.fn (.func 85) [] []) [t0] h (fun t6 h =>
  runD (unD .not t6) h fun t7 h =>
  joinW (fun (J1 : AV → AV → List AObj → Prop) =>
  guardW t7 false
  (runD (binD T_int .lss t1 (.int .i64 0)) h fun t10 h =>
    J1 (.bool false) t10 h)
  (J1 (.bool true) .und h))
  (fun t8 t10 h => runD (pickD t8 (.bool true) t10) h fun t11 h =>
  joinW (fun (J2 : AV → AV → List AObj → Prop) =>
  guardW t11 false
  (runD (binD T_int .gtr t1 (.int .i64 12)) h fun t14 h =>
    J2 (.bool false) t14 h)
  (J2 (.bool true) .und h))
  (fun t12 t14 h => runD (pickD t12 (.bool true) t14) h fun t15 h =>
  condW t15
  (K (.ret (.int .i64 (-1))) h)
  (runD (binD T_int .add t0 (.int .i64 3)) h fun t17 h =>
  runD (binD T_int .add t17 t1) h fun t19 h =>
  K (.ret t19) h))))
  (fun v h => K (.pan v) h)
def lamplighterref06_Slots.loops : Nat → LInfo
  | 2 => ⟨[], [], [], [(4, none), (5, some [10, 15])], []⟩
  | 5 => ⟨[5, 6], [true, false], [0, 1], [(3, none), (8, some [19, 27])], []⟩
  | _ => ⟨[], [], [], [], []⟩
def lamplighterref06_Slots.L1 (c : Ctx) (J2 : AV → List AObj → Prop) (K : AOut → List AObj → Prop) (lv : List AV) (h0 : List AObj) (n0 : Nat) (c0 : AV) (c1 : AV) : Prop :=
  ∃ I : Nat → List AV → List AObj → Prop, (∃ n, I n lv h0) ∧ ∀ n h, ∀ t5, ∀ t6, I n [t5, t6] h →
    runD (binD T_int .lss t6 (.int .i64 13)) h fun t18 h =>
    joinW (fun (J3 : AV → AV → List AObj → Prop) =>
    guardW t18 true
    (runD (binD T_int .add c1 (.int .i64 3)) h fun t22 h =>
      runD (binD T_int .add t22 t6) h fun t24 h =>
      runD (indexAddrD T_sl_int h c0 t24) h fun t25 h =>
      runD (fitD T_int (loadD h t25)) h fun t26 h =>
      runD (binD T_int .gtr t26 (.int .i64 0)) h fun t27 h =>
      J3 (.bool true) t27 h)
    (J3 (.bool false) .und h))
    (fun t19 t27 h => runD (pickD t19 t27 (.bool false)) h fun t28 h =>
    condW t28
    (runD (binD T_int .add c1 (.int .i64 3)) h fun t34 h =>
    runD (binD T_int .add t34 t6) h fun t36 h =>
    runD (indexAddrD T_sl_int h c0 t36) h fun t37 h =>
    runD (fitD T_int (loadD h t37)) h fun t38 h =>
    runD (buildSliceD T_sl_int 1 [(0, t38)] h.length) h fun t39 h =>
    runDM (appendD T_sl_int h t5 t39 h.length) (appendH T_sl_int h t5 t39) h fun t40 h =>
    runD (binD T_int .add t6 (.int .i64 1)) h fun t30 h =>
    (∃ m, m < n ∧ I m (AV.norms n0 h [t40, t30]) (normH n0 h)) ∧ AV.norms n0 h [c0, c1] = [c0, c1])
    (J2 t5 h))
def lamplighterref06_Slots.H (c : Ctx) (t0 : AV) (t1 : AV) (h : List AObj) (K : AOut → List AObj → Prop) : Prop :=
  callW c (.fn (.func 85) [] []) [t1] h (fun t8 h =>
  runD (unD .not t8) h fun t9 h =>
  joinW (fun (J1 : AV → AV → List AObj → Prop) =>
  guardW t9 false
  (runD (binD T_int .add t1 (.int .i64 16)) h fun t12 h =>
    runD (lenD T_sl_int h t0) h fun t14 h =>
    runD (binD T_int .gtr t12 t14) h fun t15 h =>
    J1 (.bool false) t15 h)
  (J1 (.bool true) .und h))
  (fun t10 t15 h => runD (pickD t10 (.bool true) t15) h fun t16 h =>
  condW t16
  (K (.ret (.sl true (.ints .i64 []))) h)
  (joinW (fun (J2 : AV → List AObj → Prop) =>
  promV [true, false] [(.sl true (.ints .i64 [])), (.int .i64 0)] h fun lv h => lamplighterref06_Slots.L1 c J2 K (AV.norms h.length h lv) (normH h.length h) h.length (AV.norm h.length h t0) (AV.norm h.length h t1))
  (fun t5 h => K (.ret t5) h))))
  (fun v h => K (.pan v) h)
def lamplighterref06_Plain.loops : Nat → LInfo
  | 3 => ⟨[3, 4], [true, false], [0], [], []⟩
  | _ => ⟨[], [], [], [], []⟩
def lamplighterref06_Plain.L1 (c : Ctx) (J1 : AV → List AObj → Prop) (K : AOut → List AObj → Prop) (lv : List AV) (h0 : List AObj) (n0 : Nat) (c0 : AV) : Prop :=
  ∃ I : Nat → List AV → List AObj → Prop, (∃ n, I n lv h0) ∧ ∀ n h, ∀ t3, ∀ t4, I n [t3, t4] h →
    runD (lenD T_sl_int h c0) h fun t7 h =>
    runD (binD T_int .lss t4 t7) h fun t8 h =>
    condW t8
    (runD (binD T_int .eql t4 (.int .i64 0)) h fun t12 h =>
    joinW (fun (J2 : AV → AV → List AObj → Prop) =>
    guardW t12 false
    (runD (indexAddrD T_sl_int h c0 t4) h fun t16 h =>
      runD (fitD T_int (loadD h t16)) h fun t17 h =>
      runD (binD T_int .sub t4 (.int .i64 1)) h fun t20 h =>
      runD (indexAddrD T_sl_int h c0 t20) h fun t21 h =>
      runD (fitD T_int (loadD h t21)) h fun t22 h =>
      runD (binD T_int .neq t17 t22) h fun t23 h =>
      J2 (.bool false) t23 h)
    (J2 (.bool true) .und h))
    (fun t13 t23 h => runD (pickD t13 (.bool true) t23) h fun t24 h =>
    joinW (fun (J3 : AV → List AObj → Prop) =>
    condW t24
    (runD (indexAddrD T_sl_int h c0 t4) h fun t28 h =>
      runD (fitD T_int (loadD h t28)) h fun t29 h =>
      runD (buildSliceD T_sl_int 1 [(0, t29)] h.length) h fun t30 h =>
      runDM (appendD T_sl_int h t3 t30 h.length) (appendH T_sl_int h t3 t30) h fun t31 h =>
      J3 t31 h)
    (J3 t3 h))
    (fun t3 h => runD (binD T_int .add t4 (.int .i64 1)) h fun t10 h =>
    (∃ m, m < n ∧ I m (AV.norms n0 h [t3, t10]) (normH n0 h)) ∧ AV.norms n0 h [c0] = [c0])))
    (J1 t3 h)
def lamplighterref06_Plain.H (c : Ctx) (t0 : AV) (h : List AObj) (K : AOut → List AObj → Prop) : Prop :=
  joinW (fun (J1 : AV → List AObj → Prop) =>
  promV [true, false] [(.sl true (.ints .i64 [])), (.int .i64 0)] h fun lv h => lamplighterref06_Plain.L1 c J1 K (AV.norms h.length h lv) (normH h.length h) h.length (AV.norm h.length h t0))
  (fun t3 h => K (.ret t3) h)
def lamplighterref06_Node.loops : Nat → LInfo
  | 1 => ⟨[], [], [], [(3, none), (2, some [5, 7]), (2, none), (3, some [9, 12])], []⟩
  | _ => ⟨[], [], [], [], []⟩
def lamplighterref06_Node.H (c : Ctx) (t0 : AV) (h : List AObj) (K : AOut → List AObj → Prop) : Prop :=
  runD (binD T_int .geq t0 (.int .i64 0)) h fun t4 h =>
  joinW (fun (J1 : AV → AV → List AObj → Prop) =>
  guardW t4 true
  (runD (binD T_int .leq t0 (.int .i64 4080)) h fun t7 h =>
    J1 (.bool true) t7 h)
  (J1 (.bool false) .und h))
  (fun t5 t7 h => runD (pickD t5 t7 (.bool false)) h fun t8 h =>
  joinW (fun (J2 : AV → AV → List AObj → Prop) =>
  guardW t8 true
  (runD (binD T_int .rem t0 (.int .i64 16)) h fun t11 h =>
    runD (binD T_int .eql t11 (.int .i64 0)) h fun t12 h =>
    J2 (.bool true) t12 h)
  (J2 (.bool false) .und h))
  (fun t9 t12 h => runD (pickD t9 t12 (.bool false)) h fun t13 h =>
  K (.ret t13) h))
def lamplighterref06_may.loops : Nat → LInfo
  | 2 => ⟨[3], [false], [0], [], []⟩
  | _ => ⟨[], [], [], [], []⟩
def lamplighterref06_may.L1 (c : Ctx) (J1 : AV → List AObj → Prop) (K : AOut → List AObj → Prop) (lv : List AV) (h0 : List AObj) (n0 : Nat) (c0 : AV) : Prop :=
  ∃ I : Nat → List AV → List AObj → Prop, (∃ n, I n lv h0) ∧ ∀ n h, ∀ t3, I n [t3] h →
    runD (lenD T_sl_int h c0) h fun t6 h =>
    runD (binD T_int .lss t3 t6) h fun t7 h =>
    condW t7
    (runD (indexAddrD T_sl_int h c0 t3) h fun t12 h =>
    runD (fitD T_int (loadD h t12)) h fun t13 h =>
    runD (binD T_int .leq t13 (.int .i64 0)) h fun t14 h =>
    condW t14
    (K (.ret (.bool false)) h)
    (runD (binD T_int .add t3 (.int .i64 1)) h fun t9 h =>
    (∃ m, m < n ∧ I m (AV.norms n0 h [t9]) (normH n0 h)) ∧ AV.norms n0 h [c0] = [c0]))
    (J1 c0 h)
def lamplighterref06_may.H (c : Ctx) (t0 : AV) (h : List AObj) (K : AOut → List AObj → Prop) : Prop :=
  joinW (fun (J1 : AV → List AObj → Prop) =>
  promV [false] [(.int .i64 0)] h fun lv h => lamplighterref06_may.L1 c J1 K (AV.norms h.length h lv) (normH h.length h) h.length (AV.norm h.length h t0))
  (fun t0 h => runD (lenD T_sl_int h t0) h fun t16 h =>
  runD (binD T_int .leq t16 (.int .i64 13)) h fun t17 h =>
  K (.ret t17) h)
def lamplighterref06_store.loops : Nat → LInfo
  | 4 => ⟨[], [], [], [(3, none), (10, some [23, 33])], []⟩
  | _ => ⟨[], [], [], [], []⟩
def lamplighterref06_store.H (c : Ctx) (t0 : AV) (t1 : AV) (t2 : AV) (t3 : AV) (h : List AObj) (K : AOut → List AObj → Prop) : Prop :=
  runD (binD T_int .add t0 (.int .i64 3)) h fun t13 h =>
  runD (binD T_int .add t13 t2) h fun t15 h =>
  runD (buildSliceD T_sl_api_Micro 0 [] h.length) h fun t16 h =>
  runDM (appendD T_sl_api_Micro h t16 t1 h.length) (appendH T_sl_api_Micro h t16 t1) h fun t18 h =>
  runD (lenD T_sl_api_Micro h t18) h fun t20 h =>
  runD (binD T_int .gtr t20 (.int .i64 0)) h fun t22 h =>
  joinW (fun (J1 : AV → AV → List AObj → Prop) =>
  guardW t22 true
  (runD (binD T_int .sub t20 (.int .i64 1)) h fun t26 h =>
    runD (indexAddrD T_sl_api_Micro h t18 t26) h fun t27 h =>
    runD (fieldAddrD T_api_Micro t27 1) h fun t28 h =>
    runD (fitD T_int (loadD h t28)) h fun t29 h =>
    runD (binD T_int .quo t29 (.int .i64 8)) h fun t30 h =>
    runD (binD T_int .quo t15 (.int .i64 8)) h fun t32 h =>
    runD (binD T_int .neq t30 t32) h fun t33 h =>
    J1 (.bool true) t33 h)
  (J1 (.bool false) .und h))
  (fun t23 t33 h => runD (pickD t23 t33 (.bool false)) h fun t34 h =>
  joinW (fun (J2 : AV → List AObj → Prop) =>
  condW t34
  (runD (binD T_int .sub t20 (.int .i64 1)) h fun t38 h =>
    runD (indexAddrD T_sl_api_Micro h t18 t38) h fun t39 h =>
    runD (fieldAddrD T_api_Micro t39 1) h fun t40 h =>
    runD (fitD T_int (loadD h t40)) h fun t41 h =>
    runD (binD T_int .quo t41 (.int .i64 8)) h fun t42 h =>
    runD (buildD T_api_Micro [(0, (.int .i64 2)), (1, t42)]) h fun t43 h =>
    runD (buildSliceD T_sl_api_Micro 1 [(0, t43)] h.length) h fun t44 h =>
    runDM (appendD T_sl_api_Micro h t18 t44 h.length) (appendH T_sl_api_Micro h t18 t44) h fun t45 h =>
    J2 t45 h)
  (J2 t18 h))
  (fun t10 h => runD (buildD T_api_Micro [(0, (.int .i64 1)), (1, t15), (2, t3)]) h fun t49 h =>
  runD (buildSliceD T_sl_api_Micro 1 [(0, t49)] h.length) h fun t50 h =>
  runDM (appendD T_sl_api_Micro h t10 t50 h.length) (appendH T_sl_api_Micro h t10 t50) h fun t51 h =>
  K (.ret t51) h))
def lamplighterref06_end.loops : Nat → LInfo
  | _ => ⟨[], [], [], [], []⟩
def lamplighterref06_end.H (c : Ctx) (t0 : AV) (h : List AObj) (K : AOut → List AObj → Prop) : Prop :=
  runD (lenD T_sl_api_Micro h t0) h fun t4 h =>
  runD (binD T_int .eql t4 (.int .i64 0)) h fun t5 h =>
  condW t5
  (K (.ret (.sl true (.mics []))) h)
  (runD (buildSliceD T_sl_api_Micro 0 [] h.length) h fun t6 h =>
  runDM (appendD T_sl_api_Micro h t6 t0 h.length) (appendH T_sl_api_Micro h t6 t0) h fun t8 h =>
  runD (lenD T_sl_api_Micro h t0) h fun t11 h =>
  runD (binD T_int .sub t11 (.int .i64 1)) h fun t12 h =>
  runD (indexAddrD T_sl_api_Micro h t0 t12) h fun t13 h =>
  runD (fieldAddrD T_api_Micro t13 1) h fun t14 h =>
  runD (fitD T_int (loadD h t14)) h fun t15 h =>
  runD (binD T_int .quo t15 (.int .i64 8)) h fun t16 h =>
  runD (buildD T_api_Micro [(0, (.int .i64 2)), (1, t16)]) h fun t17 h =>
  runD (buildSliceD T_sl_api_Micro 1 [(0, t17)] h.length) h fun t18 h =>
  runDM (appendD T_sl_api_Micro h t8 t18 h.length) (appendH T_sl_api_Micro h t8 t18) h fun t19 h =>
  sepB t6 [t0] = true ∧ sepB t6 [t0, t12] = true ∧ sepB t6 [t14] = true ∧ K (.ret t19) h)
theorem lamplighterref06_Insert.eq (F : List (FuncId × Contract)) (S : List (FuncId × Con)) (t0 t1 t2 t3 : AV) (h : List AObj) (K : AOut → List AObj → Prop) : funW (ctx F S lamplighterref06_Insert.loops) Try.f38 [t0, t1, t2, t3] h K = lamplighterref06_Insert.H (ctx F S lamplighterref06_Insert.loops) t0 t1 t2 t3 h K := by kernel_rfl
theorem lamplighterref06_Delete.eq (F : List (FuncId × Contract)) (S : List (FuncId × Con)) (t0 t1 t2 : AV) (h : List AObj) (K : AOut → List AObj → Prop) : funW (ctx F S lamplighterref06_Delete.loops) Try.f40 [t0, t1, t2] h K = lamplighterref06_Delete.H (ctx F S lamplighterref06_Delete.loops) t0 t1 t2 h K := by kernel_rfl
theorem lamplighterref06_Swap.eq (F : List (FuncId × Contract)) (S : List (FuncId × Con)) (t0 t1 t2 t3 : AV) (h : List AObj) (K : AOut → List AObj → Prop) : funW (ctx F S lamplighterref06_Swap.loops) Try.f42 [t0, t1, t2, t3] h K = lamplighterref06_Swap.H (ctx F S lamplighterref06_Swap.loops) t0 t1 t2 t3 h K := by kernel_rfl
theorem lamplighterref06_Cut.eq (F : List (FuncId × Contract)) (S : List (FuncId × Con)) (t0 t1 t2 : AV) (h : List AObj) (K : AOut → List AObj → Prop) : funW (ctx F S lamplighterref06_Cut.loops) Try.f44 [t0, t1, t2] h K = lamplighterref06_Cut.H (ctx F S lamplighterref06_Cut.loops) t0 t1 t2 h K := by kernel_rfl
theorem lamplighterref06_Place.eq (F : List (FuncId × Contract)) (S : List (FuncId × Con)) (t0 t1 : AV) (h : List AObj) (K : AOut → List AObj → Prop) : funW (ctx F S lamplighterref06_Place.loops) Try.f46 [t0, t1] h K = lamplighterref06_Place.H (ctx F S lamplighterref06_Place.loops) t0 t1 h K := by kernel_rfl
theorem lamplighterref06_Slots.eq (F : List (FuncId × Contract)) (S : List (FuncId × Con)) (t0 t1 : AV) (h : List AObj) (K : AOut → List AObj → Prop) : funW (ctx F S lamplighterref06_Slots.loops) Try.f48 [t0, t1] h K = lamplighterref06_Slots.H (ctx F S lamplighterref06_Slots.loops) t0 t1 h K := by kernel_rfl
theorem lamplighterref06_Plain.eq (F : List (FuncId × Contract)) (S : List (FuncId × Con)) (t0 : AV) (h : List AObj) (K : AOut → List AObj → Prop) : funW (ctx F S lamplighterref06_Plain.loops) Try.f50 [t0] h K = lamplighterref06_Plain.H (ctx F S lamplighterref06_Plain.loops) t0 h K := by kernel_rfl
theorem lamplighterref06_Node.eq (F : List (FuncId × Contract)) (S : List (FuncId × Con)) (t0 : AV) (h : List AObj) (K : AOut → List AObj → Prop) : funW (ctx F S lamplighterref06_Node.loops) Try.f85 [t0] h K = lamplighterref06_Node.H (ctx F S lamplighterref06_Node.loops) t0 h K := by kernel_rfl
theorem lamplighterref06_may.eq (F : List (FuncId × Contract)) (S : List (FuncId × Con)) (t0 : AV) (h : List AObj) (K : AOut → List AObj → Prop) : funW (ctx F S lamplighterref06_may.loops) Try.f86 [t0] h K = lamplighterref06_may.H (ctx F S lamplighterref06_may.loops) t0 h K := by kernel_rfl
theorem lamplighterref06_store.eq (F : List (FuncId × Contract)) (S : List (FuncId × Con)) (t0 t1 t2 t3 : AV) (h : List AObj) (K : AOut → List AObj → Prop) : funW (ctx F S lamplighterref06_store.loops) Try.f87 [t0, t1, t2, t3] h K = lamplighterref06_store.H (ctx F S lamplighterref06_store.loops) t0 t1 t2 t3 h K := by kernel_rfl
theorem lamplighterref06_end.eq (F : List (FuncId × Contract)) (S : List (FuncId × Con)) (t0 : AV) (h : List AObj) (K : AOut → List AObj → Prop) : funW (ctx F S lamplighterref06_end.loops) Try.f88 [t0] h K = lamplighterref06_end.H (ctx F S lamplighterref06_end.loops) t0 h K := by kernel_rfl
theorem lamplighterref06_Insert.at : Try.prog.funcs[38]? = some Try.f38 := by kernel_rfl
theorem lamplighterref06_Insert.nm : (Try.f38.name == "runtime.NumGoroutine") = false := by kernel_rfl
theorem lamplighterref06_Insert.bd : Try.f38.body.isNone = false := by kernel_rfl
theorem lamplighterref06_Delete.at : Try.prog.funcs[40]? = some Try.f40 := by kernel_rfl
theorem lamplighterref06_Delete.nm : (Try.f40.name == "runtime.NumGoroutine") = false := by kernel_rfl
theorem lamplighterref06_Delete.bd : Try.f40.body.isNone = false := by kernel_rfl
theorem lamplighterref06_Swap.at : Try.prog.funcs[42]? = some Try.f42 := by kernel_rfl
theorem lamplighterref06_Swap.nm : (Try.f42.name == "runtime.NumGoroutine") = false := by kernel_rfl
theorem lamplighterref06_Swap.bd : Try.f42.body.isNone = false := by kernel_rfl
theorem lamplighterref06_Cut.at : Try.prog.funcs[44]? = some Try.f44 := by kernel_rfl
theorem lamplighterref06_Cut.nm : (Try.f44.name == "runtime.NumGoroutine") = false := by kernel_rfl
theorem lamplighterref06_Cut.bd : Try.f44.body.isNone = false := by kernel_rfl
theorem lamplighterref06_Place.at : Try.prog.funcs[46]? = some Try.f46 := by kernel_rfl
theorem lamplighterref06_Place.nm : (Try.f46.name == "runtime.NumGoroutine") = false := by kernel_rfl
theorem lamplighterref06_Place.bd : Try.f46.body.isNone = false := by kernel_rfl
theorem lamplighterref06_Slots.at : Try.prog.funcs[48]? = some Try.f48 := by kernel_rfl
theorem lamplighterref06_Slots.nm : (Try.f48.name == "runtime.NumGoroutine") = false := by kernel_rfl
theorem lamplighterref06_Slots.bd : Try.f48.body.isNone = false := by kernel_rfl
theorem lamplighterref06_Plain.at : Try.prog.funcs[50]? = some Try.f50 := by kernel_rfl
theorem lamplighterref06_Plain.nm : (Try.f50.name == "runtime.NumGoroutine") = false := by kernel_rfl
theorem lamplighterref06_Plain.bd : Try.f50.body.isNone = false := by kernel_rfl
theorem lamplighterref06_Node.at : Try.prog.funcs[85]? = some Try.f85 := by kernel_rfl
theorem lamplighterref06_Node.nm : (Try.f85.name == "runtime.NumGoroutine") = false := by kernel_rfl
theorem lamplighterref06_Node.bd : Try.f85.body.isNone = false := by kernel_rfl
theorem lamplighterref06_may.at : Try.prog.funcs[86]? = some Try.f86 := by kernel_rfl
theorem lamplighterref06_may.nm : (Try.f86.name == "runtime.NumGoroutine") = false := by kernel_rfl
theorem lamplighterref06_may.bd : Try.f86.body.isNone = false := by kernel_rfl
theorem lamplighterref06_store.at : Try.prog.funcs[87]? = some Try.f87 := by kernel_rfl
theorem lamplighterref06_store.nm : (Try.f87.name == "runtime.NumGoroutine") = false := by kernel_rfl
theorem lamplighterref06_store.bd : Try.f87.body.isNone = false := by kernel_rfl
theorem lamplighterref06_end.at : Try.prog.funcs[88]? = some Try.f88 := by kernel_rfl
theorem lamplighterref06_end.nm : (Try.f88.name == "runtime.NumGoroutine") = false := by kernel_rfl
theorem lamplighterref06_end.bd : Try.f88.body.isNone = false := by kernel_rfl
end Lam
namespace Lam
open Go Go.Proofs
set_option linter.unusedVariables false
set_option linter.unnecessarySimpa false
set_option linter.unusedSimpArgs false
theorem aw6_0 : insertV 16 [5, 6] 0 9 = .tup [.sl false (.mics [⟨1, 21, 6⟩, ⟨1, 20, 5⟩, ⟨1, 19, 9⟩, ⟨2, 2, 0⟩]), .int .i64 0] := by
  unfold insertV; rw [if_pos (by decide +kernel), if_neg (by decide), show storedV 16 (insS [5, 6] (0 : Int).toNat 9) = [⟨1, 21, 6⟩, ⟨1, 20, 5⟩, ⟨1, 19, 9⟩, ⟨2, 2, 0⟩] from by decide +kernel]
theorem aw6_1 : insertV 16 [5, 6] 3 9 = .tup [.sl false (.mics []), .int .i64 1] := by
  unfold insertV; rw [if_neg (by decide +kernel)]
theorem aw6_2 : deleteV 0 [5, 6] 0 = .tup [.sl false (.mics [⟨1, 3, 6⟩, ⟨1, 4, 0⟩, ⟨2, 0, 0⟩]), .int .i64 0] := by
  unfold deleteV; rw [if_pos (by decide +kernel), show storedV 0 (delS [5, 6] (0 : Int).toNat) = [⟨1, 3, 6⟩, ⟨1, 4, 0⟩, ⟨2, 0, 0⟩] from by decide +kernel]
theorem aw6_3 : cutV 0 [5, 6] 1 = .tup [.sl false (.mics [⟨1, 4, 0⟩, ⟨2, 0, 0⟩]), .int .i64 0] := by
  unfold cutV; rw [if_pos (by decide +kernel), show storedV 0 (cutK [5, 6] (([5, 6] : List Int).length - (1 : Int).toNat)) = [⟨1, 4, 0⟩, ⟨2, 0, 0⟩] from by decide +kernel]
theorem aw6_4 : swapV 0 [5, 6] 1 7 = .tup [.sl false (.mics [⟨1, 4, 7⟩, ⟨2, 0, 0⟩]), .int .i64 0] := by
  unfold swapV; rw [if_pos (by decide +kernel), show storedV 0 [⟨1, 7⟩] = [⟨1, 4, 7⟩, ⟨2, 0, 0⟩] from by decide +kernel]
theorem aw6_5 : placeI 16 0 = 19 := by decide +kernel
theorem aw6_6 : placeI 1 0 = -1 := by decide +kernel
theorem aw6_7 : plain [1, 1, 2] = [1, 2] := by decide +kernel
theorem aw6_8 : slotsOf [0, 0, 0, 0, 0, 0, 0, 0, 0, 0, 0, 0, 0, 0, 0, 0] 0 = [] := by decide +kernel
def lamplighterlaw06_awake.C : Contract
  | [] => some (false, pD True (.bool true))
  | _ => none
set_option maxRecDepth 20000 in
theorem lamplighterlaw06_awake.spec : FSpec Try.prog 36 lamplighterlaw06_awake.C := by
  refine FSpec.of (ctx_ok (F := [(37, fast_Insert.C), (39, fast_Delete.C), (43, fast_Cut.C), (41, fast_Swap.C), (45, fast_Place.C), (49, fast_Plain.C), (47, fast_Slots.C)]) (S := []) (by simpa using ⟨fast_Insert.spec, fast_Delete.spec, fast_Cut.spec, fast_Swap.spec, fast_Place.spec, fast_Plain.spec, fast_Slots.spec⟩) (by simp) lamplighterlaw06_awake.loops) lamplighterlaw06_awake.at lamplighterlaw06_awake.nm lamplighterlaw06_awake.bd ?_
  intro vs b S v news e hS
  unfold lamplighterlaw06_awake.C at e
  split at e
  rotate_left
  · cases e
  cases e
  rw [lamplighterlaw06_awake.eq]
  unfold lamplighterlaw06_awake.H
  simp (maxSteps := 4000000) only [go_sem, Nat.reduceEqDiff, Nat.reduceLT, Nat.reduceAdd, Nat.reduceSub, Nat.reduceLeDiff, List.reduceReplicate, Int.reduceToNat, fast_Insert.C, fast_Delete.C, fast_Cut.C, fast_Swap.C, fast_Place.C, fast_Plain.C, fast_Slots.C, aw6_0, aw6_1, aw6_2, aw6_3, aw6_4, aw6_5, aw6_6, aw6_7, aw6_8]
  and_intros
  all_goals first | exact post_val rfl rfl | (simp [roomy]; done) | skip
  all_goals
    intro _
    refine ⟨by simp [roomy], ?_⟩
    simp only [fast_Slots.C, aw6_8, joinW_eq, guard_tt, guard_tf, guard_ft, guard_ff, Int.reduceEq, Int.reduceLT, Int.reduceLE, decide_false, decide_true, Bool.not_false, Bool.not_true, Bool.not_not, not_true_eq_false, not_false_eq_true, true_implies, false_implies, implies_true, and_true, true_and, reduceCtorEq, Bool.and_self, Bool.or_self, Bool.and_true, Bool.true_and, Bool.false_eq_true, if_true, if_false, go_sem, Nat.reduceEqDiff, Nat.reduceLT, Nat.reduceAdd, Nat.reduceSub, Nat.reduceLeDiff, List.reduceReplicate, Int.reduceToNat]
    and_intros
    all_goals first | exact post_val rfl rfl | (simp [roomy]; done) | skip
  all_goals trace_state
end Lam
namespace Lam
open Go Go.Proofs
set_option linter.unusedVariables false
def lamplighterlaw06_inside.loops : Nat → LInfo
  | 2 => ⟨[7], [false], [0, 1, 2], [], []⟩
  | 4 => ⟨[], [], [], [(7, none), (8, some [22, 30]), (2, none), (8, some [32, 40]), (2, none), (6, some [42, 48])], []⟩
  | 5 => ⟨[], [], [], [(7, none), (19, some [56, 75])], []⟩
  | 6 => ⟨[], [], [], [(3, none), (2, some [79, 81])], []⟩
  | 8 => ⟨[], [], [], [(5, none), (13, some [87, 100])], []⟩
  | _ => ⟨[], [], [], [], []⟩
def lamplighterlaw06_inside.L1 (c : Ctx) (J1 : AV → AV → List AObj → Prop) (K : AOut → List AObj → Prop) (lv : List AV) (h0 : List AObj) (n0 : Nat) (c0 : AV) (c1 : AV) (c2 : AV) : Prop :=
  ∃ I : Nat → List AV → List AObj → Prop, (∃ n, I n lv h0) ∧ ∀ n h, ∀ t7, I n [t7] h →
    runD (lenD T_sl_api_Micro h c0) h fun t12 h =>
    runD (binD T_int .lss t7 t12) h fun t13 h =>
    condW t13
    (runD (indexAddrD T_sl_api_Micro h c0 t7) h fun t18 h =>
    runD (fieldAddrD T_api_Micro t18 0) h fun t19 h =>
    runD (fitD T_int (loadD h t19)) h fun t20 h =>
    runD (binD T_int .eql t20 (.int .i64 1)) h fun t21 h =>
    joinW (fun (J2 : AV → AV → List AObj → Prop) =>
    guardW t21 true
    (runD (indexAddrD T_sl_api_Micro h c0 t7) h fun t25 h =>
      runD (fieldAddrD T_api_Micro t25 1) h fun t26 h =>
      runD (fitD T_int (loadD h t26)) h fun t27 h =>
      runD (binD T_int .add c1 (.int .i64 3)) h fun t29 h =>
      runD (binD T_int .geq t27 t29) h fun t30 h =>
      J2 (.bool true) t30 h)
    (J2 (.bool false) .und h))
    (fun t22 t30 h => runD (pickD t22 t30 (.bool false)) h fun t31 h =>
    joinW (fun (J3 : AV → AV → List AObj → Prop) =>
    guardW t31 true
    (runD (indexAddrD T_sl_api_Micro h c0 t7) h fun t35 h =>
      runD (fieldAddrD T_api_Micro t35 1) h fun t36 h =>
      runD (fitD T_int (loadD h t36)) h fun t37 h =>
      runD (binD T_int .add c1 (.int .i64 16)) h fun t39 h =>
      runD (binD T_int .lss t37 t39) h fun t40 h =>
      J3 (.bool true) t40 h)
    (J3 (.bool false) .und h))
    (fun t32 t40 h => runD (pickD t32 t40 (.bool false)) h fun t41 h =>
    joinW (fun (J4 : AV → AV → List AObj → Prop) =>
    guardW t41 true
    (runD (indexAddrD T_sl_api_Micro h c0 t7) h fun t45 h =>
      runD (fieldAddrD T_api_Micro t45 2) h fun t46 h =>
      runD (fitD T_int (loadD h t46)) h fun t47 h =>
      runD (binD T_int .geq t47 (.int .i64 0)) h fun t48 h =>
      J4 (.bool true) t48 h)
    (J4 (.bool false) .und h))
    (fun t42 t48 h => runD (pickD t42 t48 (.bool false)) h fun t49 h =>
    runD (indexAddrD T_sl_api_Micro h c0 t7) h fun t52 h =>
    runD (fieldAddrD T_api_Micro t52 0) h fun t53 h =>
    runD (fitD T_int (loadD h t53)) h fun t54 h =>
    runD (binD T_int .eql t54 (.int .i64 2)) h fun t55 h =>
    joinW (fun (J5 : AV → AV → List AObj → Prop) =>
    guardW t55 true
    (runD (indexAddrD T_sl_api_Micro h c0 t7) h fun t59 h =>
      runD (fieldAddrD T_api_Micro t59 1) h fun t60 h =>
      runD (fitD T_int (loadD h t60)) h fun t61 h =>
      runD (binD T_int .quo c1 (.int .i64 8)) h fun t63 h =>
      runD (binD T_int .eql t61 t63) h fun t64 h =>
      joinW (fun (J6 : AV → AV → List AObj → Prop) =>
      guardW t64 false
      (runD (indexAddrD T_sl_api_Micro h c0 t7) h fun t68 h =>
        runD (fieldAddrD T_api_Micro t68 1) h fun t69 h =>
        runD (fitD T_int (loadD h t69)) h fun t70 h =>
        runD (binD T_int .quo c1 (.int .i64 8)) h fun t72 h =>
        runD (binD T_int .add t72 (.int .i64 1)) h fun t73 h =>
        runD (binD T_int .eql t70 t73) h fun t74 h =>
        J6 (.bool false) t74 h)
      (J6 (.bool true) .und h))
      (fun t65 t74 h => runD (pickD t65 (.bool true) t74) h fun t75 h =>
      J5 (.bool true) t75 h))
    (J5 (.bool false) .und h))
    (fun t56 t75 h => runD (pickD t56 t75 (.bool false)) h fun t76 h =>
    runD (unD .not t49) h fun t78 h =>
    joinW (fun (J7 : AV → AV → List AObj → Prop) =>
    guardW t78 true
    (runD (unD .not t76) h fun t81 h =>
      J7 (.bool true) t81 h)
    (J7 (.bool false) .und h))
    (fun t79 t81 h => runD (pickD t79 t81 (.bool false)) h fun t82 h =>
    condW t82
    (K (.ret (.bool false)) h)
    (runD (binD T_int .add t7 (.int .i64 1)) h fun t15 h =>
    (∃ m, m < n ∧ I m (AV.norms n0 h [t15]) (normH n0 h)) ∧ AV.norms n0 h [c0, c1, c2] = [c0, c1, c2])))))))
    (J1 c0 c2 h)
def lamplighterlaw06_inside.H (c : Ctx) (t0 : AV) (t1 : AV) (t2 : AV) (h : List AObj) (K : AOut → List AObj → Prop) : Prop :=
  joinW (fun (J1 : AV → AV → List AObj → Prop) =>
  promV [false] [(.int .i64 0)] h fun lv h => lamplighterlaw06_inside.L1 c J1 K (AV.norms h.length h lv) (normH h.length h) h.length (AV.norm h.length h t0) (AV.norm h.length h t1) (AV.norm h.length h t2))
  (fun t0 t2 h => runD (lenD T_sl_api_Micro h t0) h fun t84 h =>
  runD (binD T_int .leq t84 t2) h fun t86 h =>
  joinW (fun (J8 : AV → AV → List AObj → Prop) =>
  guardW t86 true
  (runD (lenD T_sl_api_Micro h t0) h fun t89 h =>
    runD (binD T_int .eql t89 (.int .i64 0)) h fun t90 h =>
    joinW (fun (J9 : AV → AV → List AObj → Prop) =>
    guardW t90 false
    (runD (lenD T_sl_api_Micro h t0) h fun t94 h =>
      runD (binD T_int .sub t94 (.int .i64 1)) h fun t95 h =>
      runD (indexAddrD T_sl_api_Micro h t0 t95) h fun t96 h =>
      runD (fieldAddrD T_api_Micro t96 0) h fun t97 h =>
      runD (fitD T_int (loadD h t97)) h fun t98 h =>
      runD (binD T_int .eql t98 (.int .i64 2)) h fun t99 h =>
      J9 (.bool false) t99 h)
    (J9 (.bool true) .und h))
    (fun t91 t99 h => runD (pickD t91 (.bool true) t99) h fun t100 h =>
    J8 (.bool true) t100 h))
  (J8 (.bool false) .und h))
  (fun t87 t100 h => runD (pickD t87 t100 (.bool false)) h fun t101 h =>
  K (.ret t101) h))
theorem lamplighterlaw06_inside.eq (F : List (FuncId × Contract)) (S : List (FuncId × Con)) (t0 t1 t2 : AV) (h : List AObj) (K : AOut → List AObj → Prop) : funW (ctx F S lamplighterlaw06_inside.loops) Try.f51 [t0, t1, t2] h K = lamplighterlaw06_inside.H (ctx F S lamplighterlaw06_inside.loops) t0 t1 t2 h K := by kernel_rfl
theorem lamplighterlaw06_inside.at : Try.prog.funcs[51]? = some Try.f51 := by kernel_rfl
theorem lamplighterlaw06_inside.nm : (Try.f51.name == "runtime.NumGoroutine") = false := by kernel_rfl
theorem lamplighterlaw06_inside.bd : Try.f51.body.isNone = false := by kernel_rfl
end Lam
namespace Lam
open Go Go.Proofs
set_option linter.unusedVariables false
def lamplighterlaw06_FastSteps.loops : Nat → LInfo
  | 7 => ⟨[], [], [], [(2, none), (6, some [44, 50]), (2, none), (6, some [52, 58]), (2, none), (6, some [60, 66])], []⟩
  | _ => ⟨[], [], [], [], []⟩
def lamplighterlaw06_FastSteps.H (c : Ctx) (t0 : AV) (t1 : AV) (t2 : AV) (t3 : AV) (h : List AObj) (K : AOut → List AObj → Prop) : Prop :=
  callW c (.fn (.func 36) [] []) [] h (fun t16 h =>
  runD (lenD T_sl_int h t1) h fun t18 h =>
  runD (binD T_int .gtr t18 (.int .i64 100)) h fun t19 h =>
  condW t19
  (K (.ret t16) h)
  (callW c (.fn (.func 37) [] []) [t0, t1, t2, t3] h (fun t26 h =>
  runD (extractD t26 0) h fun t27 h =>
  runD (extractD t26 1) h fun t28 h =>
  callW c (.fn (.func 39) [] []) [t0, t1, t2] h (fun t33 h =>
  runD (extractD t33 0) h fun t34 h =>
  runD (extractD t33 1) h fun t35 h =>
  callW c (.fn (.func 43) [] []) [t0, t1, t2] h (fun t40 h =>
  runD (extractD t40 0) h fun t41 h =>
  runD (extractD t40 1) h fun t42 h =>
  joinW (fun (J1 : AV → AV → List AObj → Prop) =>
  guardW t16 true
  (runD (lenD T_sl_int h t1) h fun t48 h =>
    runD (binD T_int .add t48 (.int .i64 3)) h fun t49 h =>
    callW c (.fn (.func 51) [] []) [t27, t0, t49] h (fun t50 h =>
    J1 (.bool true) t50 h)
    (fun v h => K (.pan v) h))
  (J1 (.bool false) .und h))
  (fun t44 t50 h => runD (pickD t44 t50 (.bool false)) h fun t51 h =>
  joinW (fun (J2 : AV → AV → List AObj → Prop) =>
  guardW t51 true
  (runD (lenD T_sl_int h t1) h fun t56 h =>
    runD (binD T_int .add t56 (.int .i64 3)) h fun t57 h =>
    callW c (.fn (.func 51) [] []) [t34, t0, t57] h (fun t58 h =>
    J2 (.bool true) t58 h)
    (fun v h => K (.pan v) h))
  (J2 (.bool false) .und h))
  (fun t52 t58 h => runD (pickD t52 t58 (.bool false)) h fun t59 h =>
  joinW (fun (J3 : AV → AV → List AObj → Prop) =>
  guardW t59 true
  (runD (lenD T_sl_int h t1) h fun t64 h =>
    runD (binD T_int .add t64 (.int .i64 3)) h fun t65 h =>
    callW c (.fn (.func 51) [] []) [t41, t0, t65] h (fun t66 h =>
    J3 (.bool true) t66 h)
    (fun v h => K (.pan v) h))
  (J3 (.bool false) .und h))
  (fun t60 t66 h => runD (pickD t60 t66 (.bool false)) h fun t67 h =>
  K (.ret t67) h))))
  (fun v h => K (.pan v) h))
  (fun v h => K (.pan v) h))
  (fun v h => K (.pan v) h)))
  (fun v h => K (.pan v) h)
theorem lamplighterlaw06_FastSteps.eq (F : List (FuncId × Contract)) (S : List (FuncId × Con)) (t0 t1 t2 t3 : AV) (h : List AObj) (K : AOut → List AObj → Prop) : funW (ctx F S lamplighterlaw06_FastSteps.loops) Try.f10 [t0, t1, t2, t3] h K = lamplighterlaw06_FastSteps.H (ctx F S lamplighterlaw06_FastSteps.loops) t0 t1 t2 t3 h K := by kernel_rfl
theorem lamplighterlaw06_FastSteps.at : Try.prog.funcs[10]? = some Try.f10 := by kernel_rfl
theorem lamplighterlaw06_FastSteps.nm : (Try.f10.name == "runtime.NumGoroutine") = false := by kernel_rfl
theorem lamplighterlaw06_FastSteps.bd : Try.f10.body.isNone = false := by kernel_rfl
end Lam
namespace Lam
open Go Go.Proofs
set_option linter.unusedVariables false
set_option linter.unnecessarySimpa false
set_option linter.unusedSimpArgs false
def lamplighterlaw06_inside.C : Contract
  | [.sl _ (.mics s), .int .i64 base, .int .i64 most] => some (false, pD (roomy s.length) (.bool (insideB s base most)))
  | _ => none
set_option maxRecDepth 20000 in
theorem lamplighterlaw06_inside.spec : FSpec Try.prog 51 lamplighterlaw06_inside.C := by
  refine FSpec.of (ctx_ok (F := []) (S := []) (by simp) (by simp) lamplighterlaw06_inside.loops) lamplighterlaw06_inside.at lamplighterlaw06_inside.nm lamplighterlaw06_inside.bd ?_
  intro vs b S v news e hS
  unfold lamplighterlaw06_inside.C at e
  split at e
  rotate_left
  · cases e
  cases e
  rw [lamplighterlaw06_inside.eq]
  unfold lamplighterlaw06_inside.H
  simp (maxSteps := 4000000) only [go_sem, Nat.reduceEqDiff, Nat.reduceLT, Nat.reduceAdd, Nat.reduceSub, Nat.reduceLeDiff, List.reduceReplicate, Int.reduceToNat]
  rename_i s base most
  rw [joinW_eq]
  unfold lamplighterlaw06_inside.L1
  refine loop1 (σ := Nat) (fun k => .int .i64 k) (fun k => []) (fun k => s.length - k) (fun k => k ≤ s.length ∧ ∀ x ∈ s.take k, inB base x = true) 0 rfl rfl ⟨Nat.zero_le _, fun x hx => by cases hx⟩ ?_
  rintro I back k ⟨hk, hall⟩
  simp only [go_sem, Nat.reduceEqDiff, Nat.reduceLT, Nat.reduceAdd, Nat.reduceSub, Nat.reduceLeDiff, List.reduceReplicate, Int.reduceToNat]
  have hx : ∀ x : Mic, (!(decide (x.kind = 1) && decide (IntKind.i64.wrap (base + 3) ≤ x.at_) && decide (x.at_ < IntKind.i64.wrap (base + 16)) && decide (0 ≤ x.val)) && !(decide (x.kind = 2) && (decide (x.at_ = IntKind.i64.wrap (base.tdiv 8)) || decide (x.at_ = IntKind.i64.wrap (IntKind.i64.wrap (base.tdiv 8) + 1))))) = !inB base x := fun x => by
    unfold inB; rw [Bool.not_or]
  unfold roomy at hS
  rw [hx]
  refine ⟨fun hlt => ⟨by omega, fun _ => by omega, fun _ => by omega, fun _ => by omega, by omega, fun _ => ⟨by omega, by decide, fun _ => ⟨by omega, by decide⟩⟩, fun h => ?_, fun h => ?_⟩, fun hge => ?_⟩
  · have hkl : k < s.length := by omega
    have : insideB s base most = false := by
      unfold insideB
      have : s.all (inB base) = false := List.all_eq_false.2 ⟨_, getD_mem s k ⟨0, 0, 0⟩ hkl, by rw [Bool.not_eq_true'] at h; rw [h]; decide⟩
      rw [this]; rfl
    rw [this]; exact post_val rfl rfl
  · refine back (k + 1) (by omega) (by rw [wnext (by omega)]) rfl ⟨by omega, fun x hx => ?_⟩
    rw [take_next s k ⟨0, 0, 0⟩ (by omega)] at hx
    rcases List.mem_append.1 hx with hx | hx
    · exact hall x hx
    · rw [List.mem_singleton] at hx; subst hx
      rw [Bool.not_eq_false'] at h; exact h
  · obtain rfl : k = s.length := by omega
    rw [List.take_length] at hall
    refine ⟨fun _ h0 => ?_, ?_⟩
    · rw [w64 (by omega) (by omega)]; omega
    · unfold insideB
      rw [List.all_eq_true.2 hall, Bool.true_and]
      by_cases h0 : s.length = 0
      · rw [decide_eq_true (show (s.length : Int) = 0 by omega)]; simp only [Bool.true_or]; exact post_val rfl rfl
      · rw [w64 (n := (s.length : Int) - 1) (by omega) (by omega), show ((s.length : Int) - 1).toNat = s.length - 1 from by omega]
        exact post_val rfl rfl
theorem ins_any {b : Int} (hi : b < 9223372036854775808) (l : List Int) (pos ref : Int) {most : Int} (hm : (l.length : Int) + 3 ≤ most) : ∃ s e, insertV b l pos ref = .tup [.sl false (.mics s), .int .i64 e] ∧ insideB s b most = true ∧ s.length ≤ 1000 := by
  unfold insertV
  by_cases h : (fmayB b l && decide (1 ≤ ref) && decide (0 ≤ pos) && decide (pos ≤ (l.length : Int))) = true
  · rw [if_pos h]
    simp only [Bool.and_eq_true, decide_eq_true_eq, fmayB, Bool.not_eq_true', List.any_eq_false, lt1] at h
    by_cases h13 : l.length = 13
    · rw [if_pos h13]; exact ⟨_, _, rfl, inside_nil _ _ (by omega), by simp⟩
    · rw [if_neg h13]
      have hin := ins_inside h.1.1.1.1.1 hi (l := l) (by omega) (fun x hx => by have := h.1.1.1.2 x hx; omega) (p := pos.toNat) (by omega) (ref := ref) (by omega) hm
      refine ⟨_, _, rfl, hin, ?_⟩
      unfold insideB at hin
      unfold storedV
      split
      · have := storedN_len b (insS l pos.toNat ref) (insS l pos.toNat ref).length
        have := insS_len l pos.toNat ref; omega
      · simp
  · rw [if_neg h]; exact ⟨_, _, rfl, inside_nil _ _ (by omega), by simp⟩
theorem del_any {b : Int} (hi : b < 9223372036854775808) (l : List Int) (pos : Int) {most : Int} (hm : (l.length : Int) + 3 ≤ most) : ∃ s e, deleteV b l pos = .tup [.sl false (.mics s), .int .i64 e] ∧ insideB s b most = true ∧ s.length ≤ 1000 := by
  unfold deleteV
  by_cases h : (fmayB b l && decide (0 ≤ pos) && decide (pos < (l.length : Int))) = true
  · rw [if_pos h]
    simp only [Bool.and_eq_true, decide_eq_true_eq, fmayB, Bool.not_eq_true', List.any_eq_false, lt1] at h
    refine ⟨_, _, rfl, del_inside h.1.1.1.1 hi (l := l) (by omega) (fun x hx => by have := h.1.1.2 x hx; omega) (p := pos.toNat) (by omega) hm, ?_⟩
    unfold storedV
    split
    · have := storedN_len b (delS l pos.toNat) (delS l pos.toNat).length
      have := delS_len (l := l) (p := pos.toNat) (by omega); omega
    · simp
  · rw [if_neg h]; exact ⟨_, _, rfl, inside_nil _ _ (by omega), by simp⟩
theorem cut_any {b : Int} (hi : b < 9223372036854775808) (l : List Int) (n : Int) {most : Int} (hm : (l.length : Int) + 3 ≤ most) : ∃ s e, cutV b l n = .tup [.sl false (.mics s), .int .i64 e] ∧ insideB s b most = true ∧ s.length ≤ 1000 := by
  unfold cutV
  by_cases h : (fmayB b l && decide (0 ≤ n) && decide (n ≤ (l.length : Int))) = true
  · rw [if_pos h]
    simp only [Bool.and_eq_true, decide_eq_true_eq, fmayB, Bool.not_eq_true', List.any_eq_false, lt1] at h
    refine ⟨_, _, rfl, cut_inside h.1.1.1.1 hi (l := l) (by omega) (by omega) hm, ?_⟩
    unfold storedV
    split
    · have := storedN_len b (cutK l (l.length - n.toNat)) (cutK l (l.length - n.toNat)).length
      have := cutK_len l (l.length - n.toNat); omega
    · simp
  · rw [if_neg h]; exact ⟨_, _, rfl, inside_nil _ _ (by omega), by simp⟩
abbrev FastSteps_ctx : Ctx := ctx [(36, lamplighterlaw06_awake.C), (37, fast_Insert.C), (39, fast_Delete.C), (43, fast_Cut.C), (51, lamplighterlaw06_inside.C)] [] lamplighterlaw06_FastSteps.loops
set_option maxRecDepth 20000 in
theorem FastSteps_vc (base : Int) (l : List Int) (pos : Int) (ref : Int) (w_base : (Lit.int .i64 base).wf = true) (w_pos : (Lit.int .i64 pos).wf = true) (w_ref : (Lit.int .i64 ref).wf = true) : lamplighterlaw06_FastSteps.H FastSteps_ctx (.int .i64 base) (.sl false (.ints .i64 l)) (.int .i64 pos) (.int .i64 ref) [] Told := by
  unfold lamplighterlaw06_FastSteps.H
  simp (maxSteps := 4000000) only [go_sem, Nat.reduceEqDiff, Nat.reduceLT, Nat.reduceAdd, Nat.reduceSub, Nat.reduceLeDiff, List.reduceReplicate, Int.reduceToNat, lamplighterlaw06_awake.C, fast_Insert.C, fast_Delete.C, fast_Cut.C, lamplighterlaw06_inside.C]
  have hb := (wf_64 w_base).2
  refine ⟨fun _ => rfl, fun hl => ?_⟩
  have hm : (l.length : Int) + 3 ≤ IntKind.i64.wrap ((l.length : Int) + 3) := by rw [w64 (by omega) (by omega)]; exact Int.le_refl _
  obtain ⟨s1, e1, h1, i1, r1⟩ := ins_any hb l pos ref hm
  obtain ⟨s2, e2, h2, i2, r2⟩ := del_any hb l pos hm
  obtain ⟨s3, e3, h3, i3, r3⟩ := cut_any hb l pos hm
  simp only [h1, h2, h3, i1, i2, i3, lamplighterlaw06_inside.C, joinW_eq, guard_tt, guard_tf, guard_ft, guard_ff, Int.reduceEq, Int.reduceLT, Int.reduceLE, decide_false, decide_true, Bool.not_false, Bool.not_true, Bool.not_not, not_true_eq_false, not_false_eq_true, true_implies, false_implies, implies_true, and_true, true_and, reduceCtorEq, Bool.and_self, Bool.or_self, Bool.and_true, Bool.true_and, Bool.false_eq_true, if_true, if_false, go_sem, Nat.reduceEqDiff, Nat.reduceLT, Nat.reduceAdd, Nat.reduceSub, Nat.reduceLeDiff, List.reduceReplicate, Int.reduceToNat]
  unfold roomy
  exact ⟨by omega, by omega, by omega, by omega, by omega, by omega, rfl⟩
theorem FastSteps_ok : Ok Try.prog FastSteps_ctx := ctx_ok (by simpa using ⟨lamplighterlaw06_awake.spec, fast_Insert.spec, fast_Delete.spec, fast_Cut.spec, lamplighterlaw06_inside.spec⟩) (by simp) _
theorem FastSteps_law (base : Int) (l : List Int) (pos : Int) (ref : Int) (w_base : (Lit.int .i64 base).wf = true) (w_pos : (Lit.int .i64 pos).wf = true) (w_ref : (Lit.int .i64 ref).wf = true) : funW FastSteps_ctx Try.f10 [(.int .i64 base), (.sl false (.ints .i64 l)), (.int .i64 pos), (.int .i64 ref)] [] Told := by
  rw [FastSteps_ctx, lamplighterlaw06_FastSteps.eq]
  exact FastSteps_vc base l pos ref w_base w_pos w_ref
end Lam
