/- What functions of the program come to, each proved from its code. -/
import Derived.Test.YtmbmfnmjjelmkaaLm6
namespace Lam
open Go Go.Proofs
set_option linter.unusedVariables false
def lamplighterref07_Read.loops : Nat → LInfo
  | 4 => ⟨[], [], [], [(5, none), (4, some [33, 37])], [], []⟩
  | 18 => ⟨[], [], [], [(3, none), (2, some [93, 95]), (2, none), (2, some [97, 99]), (2, none), (4, some [101, 105])], [], []⟩
  | _ => ⟨[], [], [], [], [], []⟩
def lamplighterref07_Read.H (c : Ctx) (t0 : AV) (t1 : AV) (h : List AObj) (K : AOut → List AObj → Prop) : Prop :=
  allocW T_api_Rec h fun t4 h =>
  callW false c (.fn (.func 95) [] []) [t0, t1] h (fun t19 h =>
  runD (unD .not t19) h fun t20 h =>
  condW t20
  (runD (buildD T_api_Rec []) h fun t21 h =>
    runH (storeH T_api_Rec h t4 t21) h fun _ h =>
    loadRes (fitD T_api_Rec (loadD h t4)) fun r0 => K (.ret (.tup [r0, (.int .i64 1)])) h)
  (runD (binD T_int .mul (.int .i64 16) t1) h fun t24 h =>
  runD (binD T_int .mul (.int .i64 16) t1) h fun t26 h =>
  runD (binD T_int .add t26 (.int .i64 16)) h fun t27 h =>
  runD (sliceD T_sl_int h t0 (some t24) (some t27) none) h fun t28 h =>
  runD (indexAddrD T_sl_int h t28 (.int .i64 1)) h fun t30 h =>
  runD (fitD T_int (loadD h t30)) h fun t31 h =>
  runD (binD T_int .lss t31 (.int .i64 0)) h fun t32 h =>
  joinW (fun (J1 : AV → AV → List AObj → Prop) =>
  guardW t32 false
  (runD (indexAddrD T_sl_int h t28 (.int .i64 1)) h fun t35 h =>
    runD (fitD T_int (loadD h t35)) h fun t36 h =>
    runD (binD T_int .gtr t36 (.int .i64 693)) h fun t37 h =>
    J1 (.bool false) t37 h)
  (J1 (.bool true) .und h))
  (fun t33 t37 h => runD (pickD t33 (.bool true) t37) h fun t38 h =>
  condW t38
  (runD (buildD T_api_Rec []) h fun t39 h =>
    runH (storeH T_api_Rec h t4 t39) h fun _ h =>
    loadRes (fitD T_api_Rec (loadD h t4)) fun r0 => K (.ret (.tup [r0, (.int .i64 70)])) h)
  (runD (indexAddrD T_sl_int h t28 (.int .i64 0)) h fun t41 h =>
  runD (fitD T_int (loadD h t41)) h fun t42 h =>
  runD (indexAddrD T_sl_int h t28 (.int .i64 6)) h fun t44 h =>
  runD (fitD T_int (loadD h t44)) h fun t45 h =>
  runD (buildD T_api_Rec [(0, t42), (3, t45)]) h fun t46 h =>
  allocW T_api_Rec h fun t7 h =>
  runH (storeH T_api_Rec h t7 t46) h fun _ h =>
  runD (indexAddrD T_sl_int h t28 (.int .i64 1)) h fun t48 h =>
  runD (fitD T_int (loadD h t48)) h fun t49 h =>
  runD (binD T_int .quo t49 (.int .i64 32)) h fun t50 h =>
  runD (indexAddrD T_sl_int h t28 (.int .i64 1)) h fun t52 h =>
  runD (fitD T_int (loadD h t52)) h fun t53 h =>
  runD (binD T_int .rem t53 (.int .i64 32)) h fun t54 h =>
  runD (binD T_int .add t50 (.int .i64 6)) h fun t58 h =>
  runD (binD T_int .quo t58 (.int .i64 7)) h fun t59 h =>
  runD (binD T_int .add (.int .i64 3) t59) h fun t60 h =>
  runD (sliceD T_sl_int h t28 (some (.int .i64 3)) (some t60) none) h fun t61 h =>
  callW false c (.fn (.func 96) [] []) [t61, t50] h (fun t63 h =>
  runD (extractD t63 0) h fun t64 h =>
  runD (extractD t63 1) h fun t65 h =>
  runD (fieldAddrD T_api_Rec t7 1) h fun t67 h =>
  runH (storeH T_string h t67 t64) h fun _ h =>
  runD (fieldAddrD T_api_Rec t7 0) h fun t68 h =>
  runD (fitD T_int (loadD h t68)) h fun t69 h =>
  runD (binD T_int .eql t69 (.int .i64 1)) h fun t70 h =>
  joinW (fun (J2 : AV → List AObj → Prop) =>
  condW t70
  (runD (binD T_int .add t54 (.int .i64 6)) h fun t74 h =>
    runD (binD T_int .quo t74 (.int .i64 7)) h fun t75 h =>
    runD (binD T_int .add (.int .i64 6) t75) h fun t76 h =>
    runD (sliceD T_sl_int h t28 (some (.int .i64 6)) (some t76) none) h fun t77 h =>
    callW false c (.fn (.func 96) [] []) [t77, t54] h (fun t79 h =>
    runD (extractD t79 0) h fun t80 h =>
    runD (extractD t79 1) h fun t81 h =>
    runD (fieldAddrD T_api_Rec t7 3) h fun t82 h =>
    runH (storeH T_int h t82 (.int .i64 0)) h fun _ h =>
    runD (fieldAddrD T_api_Rec t7 2) h fun t84 h =>
    runH (storeH T_string h t84 t80) h fun _ h =>
    J2 t81 h)
    (fun v h => K (.pan v) h))
  (J2 (.int .i64 0) h))
  (fun t12 h => runD (fitD T_api_Rec (loadD h t7)) h fun t87 h =>
  callW false c (.fn (.func 97) [] []) [t87] h (fun t88 h =>
  runD (extractD t88 0) h fun t89 h =>
  runD (extractD t88 1) h fun t90 h =>
  runD (binD T_api_Errno .neq t65 (.int .i64 0)) h fun t92 h =>
  joinW (fun (J3 : AV → AV → List AObj → Prop) =>
  guardW t92 false
  (runD (binD T_api_Errno .neq t12 (.int .i64 0)) h fun t95 h =>
    J3 (.bool false) t95 h)
  (J3 (.bool true) .und h))
  (fun t93 t95 h => runD (pickD t93 (.bool true) t95) h fun t96 h =>
  joinW (fun (J4 : AV → AV → List AObj → Prop) =>
  guardW t96 false
  (runD (binD T_api_Errno .neq t90 (.int .i64 0)) h fun t99 h =>
    J4 (.bool false) t99 h)
  (J4 (.bool true) .und h))
  (fun t97 t99 h => runD (pickD t97 (.bool true) t99) h fun t100 h =>
  joinW (fun (J5 : AV → AV → List AObj → Prop) =>
  guardW t100 false
  (callW false c (.fn (.func 20) [] []) [t89, t28] h (fun t104 h =>
    runD (unD .not t104) h fun t105 h =>
    J5 (.bool false) t105 h)
    (fun v h => K (.pan v) h))
  (J5 (.bool true) .und h))
  (fun t101 t105 h => runD (pickD t101 (.bool true) t105) h fun t106 h =>
  condW t106
  (runD (buildD T_api_Rec []) h fun t107 h =>
    runH (storeH T_api_Rec h t4 t107) h fun _ h =>
    loadRes (fitD T_api_Rec (loadD h t4)) fun r0 => K (.ret (.tup [r0, (.int .i64 70)])) h)
  (runD (fitD T_api_Rec (loadD h t7)) h fun t108 h =>
  runH (storeH T_api_Rec h t4 t108) h fun _ h =>
  loadRes (fitD T_api_Rec (loadD h t4)) fun r0 => K (.ret (.tup [r0, (.int .i64 0)])) h)))))
  (fun v h => K (.pan v) h)))
  (fun v h => K (.pan v) h)))))
  (fun v h => K (.pan v) h)
def lamplighterref07_whole.loops : Nat → LInfo
  | 1 => ⟨[], [], [], [(3, none), (2, some [7, 9]), (2, none), (6, some [11, 17])], [], []⟩
  | _ => ⟨[], [], [], [], [], []⟩
def lamplighterref07_whole.H (c : Ctx) (t0 : AV) (t1 : AV) (h : List AObj) (K : AOut → List AObj → Prop) : Prop :=
  runD (binD T_int .geq t1 (.int .i64 0)) h fun t6 h =>
  joinW (fun (J1 : AV → AV → List AObj → Prop) =>
  guardW t6 true
  (runD (binD T_int .lss t1 (.int .i64 4096)) h fun t9 h =>
    J1 (.bool true) t9 h)
  (J1 (.bool false) .und h))
  (fun t7 t9 h => runD (pickD t7 t9 (.bool false)) h fun t10 h =>
  joinW (fun (J2 : AV → AV → List AObj → Prop) =>
  guardW t10 true
  (runD (binD T_int .mul (.int .i64 16) t1) h fun t13 h =>
    runD (binD T_int .add t13 (.int .i64 16)) h fun t14 h =>
    runD (lenD T_sl_int h t0) h fun t16 h =>
    runD (binD T_int .leq t14 t16) h fun t17 h =>
    J2 (.bool true) t17 h)
  (J2 (.bool false) .und h))
  (fun t11 t17 h => runD (pickD t11 t17 (.bool false)) h fun t18 h =>
  K (.ret t18) h))
def lamplighterref07_Words.loops : Nat → LInfo
  | _ => ⟨[], [], [], [], [], []⟩
def lamplighterref07_Words.H (c : Ctx) (t0 : AV) (h : List AObj) (K : AOut → List AObj → Prop) : Prop :=
  boxW T_api_Rec t0 h fun t1 h =>
  runD (fitD T_api_Rec (loadD h t1)) h fun t8 h =>
  callW false c (.fn (.func 125) [] []) [t8] h (fun t9 h =>
  runD (unD .not t9) h fun t11 h =>
  condW t11
  (K (.ret (.tup [(.sl true (.ints .i64 [])), (.int .i64 70)])) h)
  (runD (fieldAddrD T_api_Rec t1 1) h fun t12 h =>
  runD (fitD T_string (loadD h t12)) h fun t13 h =>
  callW false c (.fn (.func 126) [] []) [t13] h (fun t14 h =>
  runD (fieldAddrD T_api_Rec t1 0) h fun t15 h =>
  runD (fitD T_int (loadD h t15)) h fun t16 h =>
  runD (binD T_int .eql t16 (.int .i64 1)) h fun t17 h =>
  joinW (fun (J1 : AV → List AObj → Prop) =>
  condW t17
  (runD (fieldAddrD T_api_Rec t1 2) h fun t19 h =>
    runD (fitD T_string (loadD h t19)) h fun t20 h =>
    callW false c (.fn (.func 126) [] []) [t20] h (fun t21 h =>
    runDM (appendD T_sl_int h t14 t21 h.length) (appendH T_sl_int h t14 t21) h fun t22 h =>
    J1 t22 h)
    (fun v h => K (.pan v) h))
  (runD (fieldAddrD T_api_Rec t1 3) h fun t24 h =>
    runD (fitD T_int (loadD h t24)) h fun t25 h =>
    runD (buildSliceD T_sl_int 3 [(0, t25), (1, (.int .i64 0)), (2, (.int .i64 0))] h.length) h fun t26 h =>
    runDM (appendD T_sl_int h t14 t26 h.length) (appendH T_sl_int h t14 t26) h fun t27 h =>
    J1 t27 h))
  (fun t5 h => runD (buildSliceD T_sl_int 7 [(0, (.int .i64 0)), (1, (.int .i64 0)), (2, (.int .i64 0)), (3, (.int .i64 0)), (4, (.int .i64 0)), (5, (.int .i64 0)), (6, (.int .i64 0))] h.length) h fun t29 h =>
  runDM (appendD T_sl_int h t5 t29 h.length) (appendH T_sl_int h t5 t29) h fun t30 h =>
  runD (fieldAddrD T_api_Rec t1 0) h fun t31 h =>
  runD (fitD T_int (loadD h t31)) h fun t32 h =>
  runD (fieldAddrD T_api_Rec t1 1) h fun t33 h =>
  runD (fitD T_string (loadD h t33)) h fun t34 h =>
  runD (lenD T_string h t34) h fun t35 h =>
  runD (binD T_int .mul (.int .i64 32) t35) h fun t36 h =>
  runD (fieldAddrD T_api_Rec t1 2) h fun t37 h =>
  runD (fitD T_string (loadD h t37)) h fun t38 h =>
  runD (lenD T_string h t38) h fun t39 h =>
  runD (binD T_int .add t36 t39) h fun t40 h =>
  runD (buildSliceD T_sl_int 2 [(0, t32), (1, t40)] h.length) h fun t41 h =>
  runD (buildSliceD T_sl_int 0 [] h.length) h fun t42 h =>
  runDM (appendD T_sl_int h t42 t41 h.length) (appendH T_sl_int h t42 t41) h fun t44 h =>
  runDM (appendD T_sl_int h t44 t30 h.length) (appendH T_sl_int h t44 t30) h fun t46 h =>
  callW false c (.fn (.func 127) [] []) [t46] h (fun t47 h =>
  runD (buildSliceD T_sl_int 1 [(0, t47)] h.length) h fun t50 h =>
  runDM (appendD T_sl_int h t41 t50 h.length) (appendH T_sl_int h t41 t50) h fun t51 h =>
  runDM (appendD T_sl_int h t51 t30 h.length) (appendH T_sl_int h t51 t30) h fun t53 h =>
  K (.ret (.tup [t53, (.int .i64 0)])) h)
  (fun v h => K (.pan v) h)))
  (fun v h => K (.pan v) h)))
  (fun v h => K (.pan v) h)
def lamplighterref07_Check.loops : Nat → LInfo
  | 4 => ⟨[], [], [], [(2, none), (1, some [15, 16]), (2, none), (3, some [18, 21])], [], []⟩
  | 5 => ⟨[], [], [], [(4, none), (6, some [26, 32]), (2, none), (3, some [34, 37]), (2, none), (3, some [39, 42]), (2, none), (3, some [44, 47])], [], []⟩
  | _ => ⟨[], [], [], [], [], []⟩
def lamplighterref07_Check.H (c : Ctx) (t0 : AV) (h : List AObj) (K : AOut → List AObj → Prop) : Prop :=
  boxW T_api_Rec t0 h fun t1 h =>
  runD (fieldAddrD T_api_Rec t1 1) h fun t5 h =>
  runD (fitD T_string (loadD h t5)) h fun t6 h =>
  callW false c (.fn (.func 142) [] []) [t6] h (fun t7 h =>
  runD (fieldAddrD T_api_Rec t1 2) h fun t8 h =>
  runD (fitD T_string (loadD h t8)) h fun t9 h =>
  callW false c (.fn (.func 143) [] []) [t9] h (fun t10 h =>
  runD (fieldAddrD T_api_Rec t1 0) h fun t11 h =>
  runD (fitD T_int (loadD h t11)) h fun t12 h =>
  runD (binD T_int .eql t12 (.int .i64 1)) h fun t13 h =>
  condW t13
  (joinW (fun (J1 : AV → AV → List AObj → Prop) =>
    guardW t7 true
    (J1 (.bool true) t10 h)
    (J1 (.bool false) .und h))
    (fun t15 t16 h => runD (pickD t15 t16 (.bool false)) h fun t17 h =>
    joinW (fun (J2 : AV → AV → List AObj → Prop) =>
    guardW t17 true
    (runD (fieldAddrD T_api_Rec t1 3) h fun t19 h =>
      runD (fitD T_int (loadD h t19)) h fun t20 h =>
      runD (binD T_int .eql t20 (.int .i64 0)) h fun t21 h =>
      J2 (.bool true) t21 h)
    (J2 (.bool false) .und h))
    (fun t18 t21 h => runD (pickD t18 t21 (.bool false)) h fun t22 h =>
    K (.ret t22) h)))
  (runD (fieldAddrD T_api_Rec t1 0) h fun t23 h =>
  runD (fitD T_int (loadD h t23)) h fun t24 h =>
  runD (binD T_int .eql t24 (.int .i64 2)) h fun t25 h =>
  joinW (fun (J3 : AV → AV → List AObj → Prop) =>
  guardW t25 true
  (joinW (fun (J4 : AV → AV → List AObj → Prop) =>
    guardW t7 false
    (runD (fieldAddrD T_api_Rec t1 1) h fun t29 h =>
      runD (fitD T_string (loadD h t29)) h fun t30 h =>
      runD (binD T_string .eql t30 (.str [])) h fun t31 h =>
      J4 (.bool false) t31 h)
    (J4 (.bool true) .und h))
    (fun t28 t31 h => runD (pickD t28 (.bool true) t31) h fun t32 h =>
    J3 (.bool true) t32 h))
  (J3 (.bool false) .und h))
  (fun t26 t32 h => runD (pickD t26 t32 (.bool false)) h fun t33 h =>
  joinW (fun (J5 : AV → AV → List AObj → Prop) =>
  guardW t33 true
  (runD (fieldAddrD T_api_Rec t1 2) h fun t35 h =>
    runD (fitD T_string (loadD h t35)) h fun t36 h =>
    runD (binD T_string .eql t36 (.str [])) h fun t37 h =>
    J5 (.bool true) t37 h)
  (J5 (.bool false) .und h))
  (fun t34 t37 h => runD (pickD t34 t37 (.bool false)) h fun t38 h =>
  joinW (fun (J6 : AV → AV → List AObj → Prop) =>
  guardW t38 true
  (runD (fieldAddrD T_api_Rec t1 3) h fun t40 h =>
    runD (fitD T_int (loadD h t40)) h fun t41 h =>
    runD (binD T_int .geq t41 (.int .i64 1)) h fun t42 h =>
    J6 (.bool true) t42 h)
  (J6 (.bool false) .und h))
  (fun t39 t42 h => runD (pickD t39 t42 (.bool false)) h fun t43 h =>
  joinW (fun (J7 : AV → AV → List AObj → Prop) =>
  guardW t43 true
  (runD (fieldAddrD T_api_Rec t1 3) h fun t45 h =>
    runD (fitD T_int (loadD h t45)) h fun t46 h =>
    runD (binD T_int .leq t46 (.int .i64 255)) h fun t47 h =>
    J7 (.bool true) t47 h)
  (J7 (.bool false) .und h))
  (fun t44 t47 h => runD (pickD t44 t47 (.bool false)) h fun t48 h =>
  K (.ret t48) h))))))
  (fun v h => K (.pan v) h))
  (fun v h => K (.pan v) h)
def lamplighterref07_three.loops : Nat → LInfo
  | 2 => ⟨[3], [true], [], [], [], []⟩
  | _ => ⟨[], [], [], [], [], []⟩
def lamplighterref07_three.L1 (c : Ctx) (J1 : AV → List AObj → Prop) (K : AOut → List AObj → Prop) (lv : List AV) (h0 : List AObj) (n0 : Nat) : Prop :=
  ∃ I : Nat → List AV → List AObj → Prop, (∃ n, I n lv h0) ∧ ∀ n h, ∀ t3, I n [t3] h →
    runD (lenD T_sl_int h t3) h fun t9 h =>
    runD (binD T_int .lss t9 (.int .i64 3)) h fun t10 h =>
    condW t10
    (runD (buildSliceD T_sl_int 1 [(0, (.int .i64 0))] h.length) h fun t12 h =>
    runDM (appendD T_sl_int h t3 t12 h.length) (appendH T_sl_int h t3 t12) h fun t13 h =>
    (∃ m, m < n ∧ I m (AV.norms n0 h [t13]) (normH n0 h)) ∧ AV.norms n0 h [] = [])
    (J1 t3 h)
def lamplighterref07_three.H (c : Ctx) (t0 : AV) (h : List AObj) (K : AOut → List AObj → Prop) : Prop :=
  runD (buildSliceD T_sl_int 0 [] h.length) h fun t4 h =>
  callW false c (.fn (.func 124) [] []) [t0] h (fun t6 h =>
  runDM (appendD T_sl_int h t4 t6 h.length) (appendH T_sl_int h t4 t6) h fun t7 h =>
  joinW (fun (J1 : AV → List AObj → Prop) =>
  promV [true] [t7] h fun lv h => lamplighterref07_three.L1 c J1 K (AV.norms h.length h lv) (normH h.length h) h.length)
  (fun t3 h => K (.ret t3) h))
  (fun v h => K (.pan v) h)
theorem lamplighterref07_Read.eq (F : List (FuncId × Contract)) (S : List (FuncId × Con)) (t0 t1 : AV) (h : List AObj) (K : AOut → List AObj → Prop) : funW (ctx F S lamplighterref07_Read.loops) Try.f70 [t0, t1] h K = lamplighterref07_Read.H (ctx F S lamplighterref07_Read.loops) t0 t1 h K := by kernel_rfl
theorem lamplighterref07_whole.eq (F : List (FuncId × Contract)) (S : List (FuncId × Con)) (t0 t1 : AV) (h : List AObj) (K : AOut → List AObj → Prop) : funW (ctx F S lamplighterref07_whole.loops) Try.f95 [t0, t1] h K = lamplighterref07_whole.H (ctx F S lamplighterref07_whole.loops) t0 t1 h K := by kernel_rfl
theorem lamplighterref07_Words.eq (F : List (FuncId × Contract)) (S : List (FuncId × Con)) (t0 : AV) (h : List AObj) (K : AOut → List AObj → Prop) : funW (ctx F S lamplighterref07_Words.loops) Try.f97 [t0] h K = lamplighterref07_Words.H (ctx F S lamplighterref07_Words.loops) t0 h K := by kernel_rfl
theorem lamplighterref07_Check.eq (F : List (FuncId × Contract)) (S : List (FuncId × Con)) (t0 : AV) (h : List AObj) (K : AOut → List AObj → Prop) : funW (ctx F S lamplighterref07_Check.loops) Try.f125 [t0] h K = lamplighterref07_Check.H (ctx F S lamplighterref07_Check.loops) t0 h K := by kernel_rfl
theorem lamplighterref07_three.eq (F : List (FuncId × Contract)) (S : List (FuncId × Con)) (t0 : AV) (h : List AObj) (K : AOut → List AObj → Prop) : funW (ctx F S lamplighterref07_three.loops) Try.f126 [t0] h K = lamplighterref07_three.H (ctx F S lamplighterref07_three.loops) t0 h K := by kernel_rfl
theorem lamplighterref07_Read.at : Try.prog.funcs[70]? = some Try.f70 := by kernel_rfl
theorem lamplighterref07_Read.nm : (Try.f70.name == "runtime.NumGoroutine") = false := by kernel_rfl
theorem lamplighterref07_Read.bd : Try.f70.body.isNone = false := by kernel_rfl
theorem lamplighterref07_whole.at : Try.prog.funcs[95]? = some Try.f95 := by kernel_rfl
theorem lamplighterref07_whole.nm : (Try.f95.name == "runtime.NumGoroutine") = false := by kernel_rfl
theorem lamplighterref07_whole.bd : Try.f95.body.isNone = false := by kernel_rfl
theorem lamplighterref07_Words.at : Try.prog.funcs[97]? = some Try.f97 := by kernel_rfl
theorem lamplighterref07_Words.nm : (Try.f97.name == "runtime.NumGoroutine") = false := by kernel_rfl
theorem lamplighterref07_Words.bd : Try.f97.body.isNone = false := by kernel_rfl
theorem lamplighterref07_Check.at : Try.prog.funcs[125]? = some Try.f125 := by kernel_rfl
theorem lamplighterref07_Check.nm : (Try.f125.name == "runtime.NumGoroutine") = false := by kernel_rfl
theorem lamplighterref07_Check.bd : Try.f125.body.isNone = false := by kernel_rfl
theorem lamplighterref07_three.at : Try.prog.funcs[126]? = some Try.f126 := by kernel_rfl
theorem lamplighterref07_three.nm : (Try.f126.name == "runtime.NumGoroutine") = false := by kernel_rfl
theorem lamplighterref07_three.bd : Try.f126.body.isNone = false := by kernel_rfl
end Lam
namespace Lam
open Go Go.Proofs
set_option linter.unusedVariables false
set_option linter.unnecessarySimpa false
set_option linter.unusedSimpArgs false
def lamplighterref07_Check.C : Contract
  | [.agg [.int .i64 a, .str k, .str v, .int .i64 c]] => some (false, pD True (.bool (recB ⟨a, k, v, c⟩)))
  | _ => none
set_option maxRecDepth 20000 in
theorem lamplighterref07_Check.spec : FSpec Try.prog 125 lamplighterref07_Check.C := by
  refine FSpec.of (ctx_ok (F := [(142, lamplighterref02_Check.C), (143, lamplighterref02_CheckVal.C)]) (S := []) (by simpa using ⟨lamplighterref02_Check.spec, lamplighterref02_CheckVal.spec⟩) (by simp) lamplighterref07_Check.loops) lamplighterref07_Check.at lamplighterref07_Check.nm lamplighterref07_Check.bd ?_
  intro vs b S v news e hS
  unfold lamplighterref07_Check.C at e
  split at e
  rotate_left
  · cases e
  cases e
  rw [lamplighterref07_Check.eq]
  unfold lamplighterref07_Check.H
  simp (maxSteps := 4000000) only [go_sem, Nat.reduceEqDiff, Nat.reduceLT, Nat.reduceAdd, Nat.reduceSub, Nat.reduceLeDiff, List.reduceReplicate, Int.reduceToNat, lamplighterref02_Check.C, lamplighterref02_CheckVal.C]
  rename_i a k v c
  have r1 : a = 1 → recB ⟨a, k, v, c⟩ = (keyB k && decide ((List.length v : Int) ≤ 21) && decide (c = 0)) := by
    rintro rfl
    unfold recB
    rw [Bool.eq_iff_iff]
    simp [and_assoc]
  have r2 : ¬ a = 1 → recB ⟨a, k, v, c⟩ = (decide (a = 2) && (keyB k || decide (k = [])) && decide (v = []) && decide (1 ≤ c) && decide (c ≤ 255)) := by
    intro h
    have e1 : decide (1 ≤ c) = decide (0 < c) := decide_eq_decide.2 (by omega)
    have e2 : decide (c ≤ 255) = decide (c < 256) := decide_eq_decide.2 (by omega)
    unfold recB
    rw [e1, e2, decide_eq_false h, Bool.eq_iff_iff]
    simp [and_assoc, or_comm]
  refine ⟨fun h => ?_, fun h => ?_⟩
  · rw [r1 h]; exact post_val rfl rfl
  · rw [r2 h]; exact post_val rfl rfl
def lamplighterref07_three.C : Contract
  | [.str s] => some (true, some (s.length ≤ 21, .sref false 0 0 0 3, [.row .own 0 (.ints .i64 (threeI s))]))
  | _ => none
set_option maxRecDepth 20000 in
theorem lamplighterref07_three.spec : FSpec Try.prog 126 lamplighterref07_three.C := by
  refine FSpec.of (ctx_ok (F := [(124, lamplighterref02_Words.C)]) (S := []) (by simpa using lamplighterref02_Words.spec) (by simp) lamplighterref07_three.loops) lamplighterref07_three.at lamplighterref07_three.nm lamplighterref07_three.bd ?_
  intro vs b S v news e hS
  unfold lamplighterref07_three.C at e
  split at e
  rotate_left
  · cases e
  cases e
  rw [lamplighterref07_three.eq]
  unfold lamplighterref07_three.H
  simp (maxSteps := 4000000) only [go_sem, Nat.reduceEqDiff, Nat.reduceLT, Nat.reduceAdd, Nat.reduceSub, Nat.reduceLeDiff, List.reduceReplicate, Int.reduceToNat, lamplighterref02_Words.C]
  rename_i s
  have hkl : (keyW s).length = (s.length + 6) / 7 := keyW_len s
  have h3 := three_len hS
  refine ⟨by omega, by unfold roomy; omega, ?_⟩
  rw [joinW_eq]
  unfold lamplighterref07_three.L1
  refine loop1 (σ := Nat) (fun k => .sref false 1 k 0 ((keyW s).length + k)) (fun k => [.row .own 0 (.ints .i64 []), .row .own k (.ints .i64 (keyW s ++ List.replicate k 0))]) (fun k => 3 - (keyW s).length - k) (fun k => (keyW s).length + k ≤ 3) 0 rfl (by simp) (by omega) ?_
  intro I back k hk
  have hl : (keyW s ++ List.replicate k 0).length = (keyW s).length + k := by simp
  have hrep : List.replicate k (0 : Int) ++ [0] = List.replicate (k + 1) 0 := List.replicate_succ'.symm
  have hl1 : (keyW s ++ List.replicate (k + 1) 0).length = (keyW s).length + (k + 1) := by simp
  simp only [hl, hrep, hl1, go_sem, Nat.reduceEqDiff, Nat.reduceLT, Nat.reduceAdd, Nat.reduceSub, Nat.reduceLeDiff, List.reduceReplicate, Int.reduceToNat]
  refine ⟨fun hlt => ⟨by unfold roomy; omega, back (k + 1) (by omega) rfl rfl (by omega)⟩, fun hge => ?_⟩
  obtain rfl : k = 3 - (keyW s).length := by omega
  have e3 : (keyW s).length + (3 - (keyW s).length) = 3 := by omega
  rw [e3]
  exact post_row rfl (by decide)
def lamplighterref07_Words.C : Contract
  | [.agg [.int .i64 a, .str k, .str v, .int .i64 c]] => some (false, pD True (rwordsV ⟨a, k, v, c⟩))
  | _ => none
set_option maxRecDepth 20000 in
theorem lamplighterref07_Words.spec : FSpec Try.prog 97 lamplighterref07_Words.C := by
  refine FSpec.of (ctx_ok (F := [(125, lamplighterref07_Check.C), (126, lamplighterref07_three.C), (127, lamplighterref03_Of.C)]) (S := []) (by simpa using ⟨lamplighterref07_Check.spec, lamplighterref07_three.spec, lamplighterref03_Of.spec⟩) (by simp) lamplighterref07_Words.loops) lamplighterref07_Words.at lamplighterref07_Words.nm lamplighterref07_Words.bd ?_
  intro vs b S v news e hS
  unfold lamplighterref07_Words.C at e
  split at e
  rotate_left
  · cases e
  cases e
  rw [lamplighterref07_Words.eq]
  unfold lamplighterref07_Words.H
  simp (maxSteps := 4000000) only [go_sem, Nat.reduceEqDiff, Nat.reduceLT, Nat.reduceAdd, Nat.reduceSub, Nat.reduceLeDiff, List.reduceReplicate, Int.reduceToNat, lamplighterref07_Check.C, lamplighterref07_three.C, lamplighterref03_Of.C]
  rename_i a k v c
  refine ⟨fun h => ?_, fun h => ?_⟩
  · rw [rwords_no h]; exact post_val rfl rfl
  · have hok := rec_iff.1 h
    have hk3 := three_len hok.key
    have hv3 := three_len hok.val
    have q1 := hok.key
    have q2 := hok.val
    simp only at q1 q2 hk3 hv3
    have hfl := form_len hok
    have e1 : IntKind.i64.wrap (IntKind.i64.wrap (32 * (List.length k : Int)) + (List.length v : Int)) = lensR ⟨a, k, v, c⟩ := by
      rw [w64 (n := 32 * (List.length k : Int)) (by omega) (by omega), w64 (by omega) (by omega)]; rfl
    have htv : (threeI v).take 3 = threeI v := take_len _ (by omega)
    rw [rwords_ok h, joinW_eq]
    have hX1 : a = 1 → threeI k ++ (threeI v ++ [0, 0, 0, 0, 0, 0, 0]) = restR ⟨a, k, v, c⟩ := fun h1 => by
      unfold restR; simp only [if_neg (show ¬ a = 2 by omega)]; rfl
    have hX2 : ¬ a = 1 → threeI k ++ ([c, 0, 0] ++ [0, 0, 0, 0, 0, 0, 0]) = restR ⟨a, k, v, c⟩ := fun h1 => by
      have : a = 2 := by
        rcases hok with h' | h'
        · exact absurd h'.1 h1
        · exact h'.1
      unfold restR; simp only [if_pos this]; rfl
    have hrl := rest_len hok
    have fin : ∀ o1 o2 o3 o4 o5 o6 o7, roomy (restR ⟨a, k, v, c⟩).length ∧ roomy 2 ∧ roomy ((restR ⟨a, k, v, c⟩).length + 1 + 1) ∧ roomy ((restR ⟨a, k, v, c⟩).length + 1 + 1) ∧ roomy 3 ∧ roomy ((restR ⟨a, k, v, c⟩).length + 1 + 1 + 1) ∧ Post false (.tup [.sl false (.ints .i64 (formR ⟨a, k, v, c⟩)), .int .i64 0]) [] (.ret (.tup [.sref false 4 2 0 ((restR ⟨a, k, v, c⟩).length + 1 + 1 + 1), .int .i64 0])) [o1, o2, o3, o4, .row .own 2 (.ints .i64 (a :: lensR ⟨a, k, v, c⟩ :: sumOf (a :: lensR ⟨a, k, v, c⟩ :: restR ⟨a, k, v, c⟩) :: restR ⟨a, k, v, c⟩)), o5, o6, o7] := by
      intro o1 o2 o3 o4 o5 o6 o7
      rw [hrl]
      unfold roomy
      refine ⟨by omega, by omega, by omega, by omega, by omega, by omega, post_val ?_ rfl⟩
      simp only [go_sem, Nat.reduceEqDiff, Nat.reduceLT, Nat.reduceAdd, Nat.reduceSub, Nat.reduceLeDiff, List.reduceReplicate, Int.reduceToNat]
      rw [take_len]
      · rfl
      · simp [hrl]
    refine ⟨q1, fun h1 => ⟨q2, ?_⟩, fun h1 => ?_⟩
    · rw [htv]
      have hl6 : (threeI k ++ threeI v).length = 6 := by simp [hk3, hv3]
      refine ⟨⟨hk3.symm, by rw [hl6]; unfold roomy; omega⟩, ?_⟩
      simp only [hl6, e1, lamplighterref03_Of.C, joinW_eq, guard_tt, guard_tf, guard_ft, guard_ff, Int.reduceEq, Int.reduceLT, Int.reduceLE, decide_false, decide_true, Bool.not_false, Bool.not_true, Bool.not_not, not_true_eq_false, not_false_eq_true, true_implies, false_implies, implies_true, and_true, true_and, reduceCtorEq, Bool.and_self, Bool.or_self, Bool.and_true, Bool.true_and, Bool.false_eq_true, if_true, if_false, go_sem, Nat.reduceEqDiff, Nat.reduceLT, Nat.reduceAdd, Nat.reduceSub, Nat.reduceLeDiff, List.reduceReplicate, Int.reduceToNat]
      have hX := hX1 h1
      try simp only [List.cons_append, List.nil_append, go_sem, Nat.reduceEqDiff, Nat.reduceLT, Nat.reduceAdd, Nat.reduceSub, Nat.reduceLeDiff, List.reduceReplicate, Int.reduceToNat] at hX
      rw [hX]
      exact fin _ _ _ _ _ _ _
    · have hl6 : (threeI k ++ [c, 0, 0]).length = 6 := by simp [hk3]
      refine ⟨⟨hk3.symm, by rw [hl6]; unfold roomy; omega⟩, ?_⟩
      simp only [hl6, e1, lamplighterref03_Of.C, joinW_eq, guard_tt, guard_tf, guard_ft, guard_ff, Int.reduceEq, Int.reduceLT, Int.reduceLE, decide_false, decide_true, Bool.not_false, Bool.not_true, Bool.not_not, not_true_eq_false, not_false_eq_true, true_implies, false_implies, implies_true, and_true, true_and, reduceCtorEq, Bool.and_self, Bool.or_self, Bool.and_true, Bool.true_and, Bool.false_eq_true, if_true, if_false, go_sem, Nat.reduceEqDiff, Nat.reduceLT, Nat.reduceAdd, Nat.reduceSub, Nat.reduceLeDiff, List.reduceReplicate, Int.reduceToNat]
      have hX := hX2 h1
      try simp only [List.cons_append, List.nil_append, go_sem, Nat.reduceEqDiff, Nat.reduceLT, Nat.reduceAdd, Nat.reduceSub, Nat.reduceLeDiff, List.reduceReplicate, Int.reduceToNat] at hX
      rw [hX]
      exact fin _ _ _ _ _ _ _
def lamplighterref07_whole.C : Contract
  | [.sl _ (.ints .i64 l), .int .i64 b] => some (false, pD (l.length ≤ 65536) (.bool (!(decide (b < 0) || decide (((l.length / 16 : Nat) : Int) ≤ b)))))
  | _ => none
set_option maxRecDepth 20000 in
theorem lamplighterref07_whole.spec : FSpec Try.prog 95 lamplighterref07_whole.C := by
  refine FSpec.of (ctx_ok (F := []) (S := []) (by simp) (by simp) lamplighterref07_whole.loops) lamplighterref07_whole.at lamplighterref07_whole.nm lamplighterref07_whole.bd ?_
  intro vs b S v news e hS
  unfold lamplighterref07_whole.C at e
  split at e
  rotate_left
  · cases e
  cases e
  rw [lamplighterref07_whole.eq]
  unfold lamplighterref07_whole.H
  simp (maxSteps := 4000000) only [go_sem, Nat.reduceEqDiff, Nat.reduceLT, Nat.reduceAdd, Nat.reduceSub, Nat.reduceLeDiff, List.reduceReplicate, Int.reduceToNat]
  rename_i l b
  have : (decide (0 ≤ b) && decide (b < 4096) && decide (IntKind.i64.wrap (IntKind.i64.wrap (16 * b) + 16) ≤ (l.length : Int))) = !(decide (b < 0) || decide (((l.length / 16 : Nat) : Int) ≤ b)) := by
    rw [Bool.eq_iff_iff]
    simp only [Bool.and_eq_true, decide_eq_true_eq, Bool.not_eq_true', Bool.or_eq_false_iff, decide_eq_false_iff_not]
    by_cases h : 0 ≤ b ∧ b < 4096
    · rw [w64 (n := 16 * b) (by omega) (by omega), w64 (by omega) (by omega)]; omega
    · omega
  rw [this]; exact post_val rfl rfl
/-- as the reference reckons it -/
def decRef (w : List Int) : Rc := ⟨w.getD 0 0, (if textB (List.take (((w.getD 1 0).toNat / 32 + 6) / 7) (List.drop 3 w)) ((w.getD 1 0).toNat / 32 : Nat) = true then textS (List.take (((w.getD 1 0).toNat / 32 + 6) / 7) (List.drop 3 w)) ((w.getD 1 0).toNat / 32 : Nat) else []), (if w.getD 0 0 = 1 then (if textB (List.take (((w.getD 1 0).toNat % 32 + 6) / 7) (List.drop 6 w)) ((w.getD 1 0).toNat % 32 : Nat) = true then textS (List.take (((w.getD 1 0).toNat % 32 + 6) / 7) (List.drop 6 w)) ((w.getD 1 0).toNat % 32 : Nat) else []) else []), (if w.getD 0 0 = 1 then 0 else w.getD 6 0)⟩
theorem txt_textB {w : List Int} {a n : Nat} (h : txtB w a (n : Int) = true) : textB (List.take ((n + 6) / 7) (List.drop a w)) (n : Int) = true ∧ textS (List.take ((n + 6) / 7) (List.drop a w)) (n : Int) = txtS w a (n : Int) := by
  have h' := h
  unfold txtB at h'
  rw [Bool.and_eq_true, Int.toNat_natCast] at h'
  refine ⟨h'.2, ?_⟩
  unfold txtS
  rw [if_pos h, Int.toNat_natCast]
theorem lens_nat {x : Rc} (h : x.ok) : (lensR x).toNat / 32 = x.key.length ∧ (lensR x).toNat % 32 = x.val.length := by
  have := form_lens h
  omega
theorem decRef_form {x : Rc} (h : x.ok) : decRef (formR x) = x := by
  have e0 : (formR x).getD 0 0 = x.kind := rfl
  have e1 : (formR x).getD 1 0 = lensR x := rfl
  have hl := lens_nat h
  have hk := form_key h
  have hkt := txt_textB hk.1
  unfold decRef
  rw [e0, e1, hl.1, hl.2, if_pos hkt.1, hkt.2, hk.2]
  have h' := h
  rcases h with ⟨h1, _, _, _, h5⟩ | ⟨h1, _, h3, _, _⟩
  · have hv := form_val h' h1
    have hvt := txt_textB hv.1
    rw [if_pos h1, if_pos hvt.1, hvt.2, hv.2, if_pos h1]
    cases x; simp only at *; simp only [h5]
  · rw [if_neg (by rw [h1]; decide), if_neg (by rw [h1]; decide), form_child h' h1]
    cases x; simp only at *; simp only [h3]
theorem recRef_eq (w : List Int) : readC decRef w = recOf w := readC_eq (fun n h => decRef_form h) (fun n h => decC_form h) w
theorem ref_key {w : List Int} (h : textB (List.take (((w.getD 1 0).toNat / 32 + 6) / 7) (List.drop 3 w)) ((w.getD 1 0).toNat / 32 : Nat) = false) : recOf w = none := by
  apply recOf_none
  rintro x hx rfl
  have e1 : (formR x).getD 1 0 = lensR x := rfl
  rw [e1, (lens_nat hx).1, (txt_textB (form_key hx).1).1] at h
  cases h
theorem ref_val {w : List Int} (h1 : w.getD 0 0 = 1) (h : textB (List.take (((w.getD 1 0).toNat % 32 + 6) / 7) (List.drop 6 w)) ((w.getD 1 0).toNat % 32 : Nat) = false) : recOf w = none := by
  apply recOf_none
  rintro x hx rfl
  have e1 : (formR x).getD 1 0 = lensR x := rfl
  rw [e1, (lens_nat hx).2, (txt_textB (form_val hx h1).1).1] at h
  cases h
def lamplighterref07_Read.C : Contract
  | [.sl _ (.ints .i64 l), .int .i64 k] => some (false, pD (l.length ≤ 65536 ∧ i64s l) (rreadV l k))
  | _ => none
set_option maxRecDepth 20000 in
theorem lamplighterref07_Read.spec : FSpec Try.prog 70 lamplighterref07_Read.C := by
  refine FSpec.of (ctx_ok (F := [(95, lamplighterref07_whole.C), (96, lamplighterref02_Text.C), (97, lamplighterref07_Words.C), (20, lamplighterref02_Numbers.C)]) (S := []) (by simpa using ⟨lamplighterref07_whole.spec, lamplighterref02_Text.spec, lamplighterref07_Words.spec, lamplighterref02_Numbers.spec⟩) (by simp) lamplighterref07_Read.loops) lamplighterref07_Read.at lamplighterref07_Read.nm lamplighterref07_Read.bd ?_
  intro vs b S v news e hS
  unfold lamplighterref07_Read.C at e
  split at e
  rotate_left
  · cases e
  cases e
  rw [lamplighterref07_Read.eq]
  unfold lamplighterref07_Read.H
  simp (maxSteps := 4000000) only [go_sem, Nat.reduceEqDiff, Nat.reduceLT, Nat.reduceAdd, Nat.reduceSub, Nat.reduceLeDiff, List.reduceReplicate, Int.reduceToNat, lamplighterref07_whole.C, lamplighterref02_Text.C, lamplighterref07_Words.C, lamplighterref02_Numbers.C]
  rename_i l k
  obtain ⟨hS, hi64⟩ := hS
  unfold rreadV
  refine ⟨hS, fun h => ?_, fun h => ?_⟩
  · rw [if_pos h]
    refine post_val ?_ rfl
    simp only [zeroRc, go_sem, Nat.reduceEqDiff, Nat.reduceLT, Nat.reduceAdd, Nat.reduceSub, Nat.reduceLeDiff, List.reduceReplicate, Int.reduceToNat]
  · rw [h]
    simp only [Bool.or_eq_false_iff, decide_eq_false_iff_not] at h
    obtain ⟨k, rfl⟩ := Int.eq_ofNat_of_zero_le (show 0 ≤ k by omega)
    have hk : 16 * k + 16 ≤ l.length := by omega
    have e1 : IntKind.i64.wrap (16 * (k : Int)) = 16 * (k : Int) := w64 (by omega) (by omega)
    have e3 : IntKind.i64.wrap (16 * (k : Int) + 16) = 16 * (k : Int) + 16 := w64 (by omega) (by omega)
    have e4 : (16 * (k : Int) + 16).toNat - (16 * (k : Int)).toNat = 16 := by omega
    have e5 : (16 * (k : Int)).toNat = 16 * k := by omega
    have eb : (l.drop (16 * k)).take 16 = blockAt l k := rfl
    have hbl : (blockAt l k).length = 16 := by unfold blockAt; simp; omega
    have hwi : i64s (blockAt l k) := fun x hx => hi64 x (List.drop_subset _ _ (List.take_subset _ _ hx))
    rw [e1, e3, e4, e5, eb, Int.toNat_natCast]
    generalize blockAt l k = w at *
    rw [hbl]
    refine ⟨by omega, by omega, fun _ => by omega, fun hc => ?_, fun hc => ?_⟩
    · rw [recOf_none]
      · refine post_val ?_ rfl
        simp only [zeroRc, go_sem, Nat.reduceEqDiff, Nat.reduceLT, Nat.reduceAdd, Nat.reduceSub, Nat.reduceLeDiff, List.reduceReplicate, Int.reduceToNat]
      · rintro x hx rfl
        have e : (formR x).getD 1 0 = lensR x := rfl
        have hl := form_lens hx
        simp only [Bool.or_eq_true, decide_eq_true_eq, e] at hc
        omega
    · simp only [Bool.or_eq_false_iff, decide_eq_false_iff_not] at hc
      obtain ⟨m, hm⟩ := Int.eq_ofNat_of_zero_le (show 0 ≤ w.getD 1 0 by omega)
      have hm693 : m ≤ 693 := by omega
      have f1 : IntKind.i64.wrap ((m : Int).tdiv 32) = ((m / 32 : Nat) : Int) := by
        rw [Int.tdiv_eq_ediv_of_nonneg (by omega), w64 (by omega) (by omega)]; omega
      have f2 : IntKind.i64.wrap (((m / 32 : Nat) : Int) + 6) = ((m / 32 + 6 : Nat) : Int) := by rw [w64 (by omega) (by omega)]; omega
      have f3 : IntKind.i64.wrap (((m / 32 + 6 : Nat) : Int).tdiv 7) = (((m / 32 + 6) / 7 : Nat) : Int) := by
        rw [Int.tdiv_eq_ediv_of_nonneg (by omega), w64 (by omega) (by omega)]; omega
      have f4 : IntKind.i64.wrap (3 + (((m / 32 + 6) / 7 : Nat) : Int)) = ((3 + (m / 32 + 6) / 7 : Nat) : Int) := by rw [w64 (by omega) (by omega)]; omega
      have f5 : 3 + (m / 32 + 6) / 7 - 3 = (m / 32 + 6) / 7 := by omega
      have g1 : (m : Int).tmod 32 = ((m % 32 : Nat) : Int) := by rw [Int.tmod_eq_emod_of_nonneg (by omega)]; omega
      have g2 : IntKind.i64.wrap (((m % 32 : Nat) : Int) + 6) = ((m % 32 + 6 : Nat) : Int) := by rw [w64 (by omega) (by omega)]; omega
      have g3 : IntKind.i64.wrap (((m % 32 + 6 : Nat) : Int).tdiv 7) = (((m % 32 + 6) / 7 : Nat) : Int) := by
        rw [Int.tdiv_eq_ediv_of_nonneg (by omega), w64 (by omega) (by omega)]; omega
      have g4 : IntKind.i64.wrap (6 + (((m % 32 + 6) / 7 : Nat) : Int)) = ((6 + (m % 32 + 6) / 7 : Nat) : Int) := by rw [w64 (by omega) (by omega)]; omega
      have g5 : 6 + (m % 32 + 6) / 7 - 6 = (m % 32 + 6) / 7 := by omega
      simp only [hm, f1, f2, f3, f4, f5, g1, g2, g3, g4, g5, Int.toNat_natCast, textV, hbl, joinW_eq, guard_tt, guard_tf, guard_ft, guard_ff, Int.reduceEq, Int.reduceLT, Int.reduceLE, decide_false, decide_true, Bool.not_false, Bool.not_true, Bool.not_not, not_true_eq_false, not_false_eq_true, true_implies, false_implies, implies_true, and_true, true_and, reduceCtorEq, Bool.and_self, Bool.or_self, Bool.and_true, Bool.true_and, Bool.false_eq_true, if_true, if_false, go_sem, Nat.reduceEqDiff, Nat.reduceLT, Nat.reduceAdd, Nat.reduceSub, Nat.reduceLeDiff, List.reduceReplicate, Int.reduceToNat]
      have hR := recRef_eq w
      have hK := ref_key (w := w)
      have hV := fun h => ref_val (w := w) h
      unfold readC decRef at hR
      simp only [hm, Int.toNat_natCast] at hR hK hV
      have i64a : i64s (List.take ((m / 32 + 6) / 7) (List.drop 3 w)) := fun x hx => hwi x (List.drop_subset _ _ (List.take_subset _ _ hx))
      have i64b : i64s (List.take ((m % 32 + 6) / 7) (List.drop 6 w)) := fun x hx => hwi x (List.drop_subset _ _ (List.take_subset _ _ hx))
      have la : (List.take ((m / 32 + 6) / 7) (List.drop 3 w)).length ≤ 100 := by simp; omega
      have lb : (List.take ((m % 32 + 6) / 7) (List.drop 6 w)).length ≤ 100 := by simp; omega
      have hrw : roomy w.length := by unfold roomy; omega
      refine ⟨⟨by omega, by omega⟩, ⟨la, i64a, by omega⟩, fun h1 => ⟨⟨by omega, by omega⟩, ⟨lb, i64b, by omega⟩, ?_⟩, fun h1 => ?_⟩
      · replace hV := hV h1
        simp only [h1, if_true] at hR ⊢
        generalize textB (List.take ((m / 32 + 6) / 7) (List.drop 3 w)) ↑(m / 32) = bk at *
        generalize textB (List.take ((m % 32 + 6) / 7) (List.drop 6 w)) ↑(m % 32) = bv at *
        generalize textS (List.take ((m / 32 + 6) / 7) (List.drop 3 w)) ↑(m / 32) = sk at *
        generalize textS (List.take ((m % 32 + 6) / 7) (List.drop 6 w)) ↑(m % 32) = sv at *
        simp only [lamplighterref07_Words.C]
        generalize hd : (⟨1, if bk = true then sk else [], if bv = true then sv else [], 0⟩ : Rc) = d at *
        have gd : d.kind = 1 := by rw [← hd]
        cases hb : recB d with
        | false =>
          rw [hb] at hR
          simp only [Bool.false_and, Bool.false_eq_true, if_false] at hR
          rw [rwords_no hb, ← hR]
          cases bk <;> cases bv <;>
          · simp only [Bool.false_eq_true, Nat.reduceEqDiff, joinW_eq, guard_tt, guard_tf, guard_ft, guard_ff, Int.reduceEq, Int.reduceLT, Int.reduceLE, decide_false, decide_true, Bool.not_false, Bool.not_true, Bool.not_not, not_true_eq_false, not_false_eq_true, true_implies, false_implies, implies_true, and_true, true_and, reduceCtorEq, Bool.and_self, Bool.or_self, Bool.and_true, Bool.true_and, Bool.false_eq_true, if_true, if_false, go_sem, Nat.reduceEqDiff, Nat.reduceLT, Nat.reduceAdd, Nat.reduceSub, Nat.reduceLeDiff, List.reduceReplicate, Int.reduceToNat]
            refine post_val ?_ rfl
            simp only [zeroRc, go_sem, Nat.reduceEqDiff, Nat.reduceLT, Nat.reduceAdd, Nat.reduceSub, Nat.reduceLeDiff, List.reduceReplicate, Int.reduceToNat]
        | true =>
          have hl := form_len (rec_iff.1 hb)
          have hrl : roomy (formR d).length := by unfold roomy; omega
          rw [rwords_ok hb]
          cases bk <;> cases bv
          · rw [hK rfl]
            simp only [Bool.false_eq_true, Nat.reduceEqDiff, joinW_eq, guard_tt, guard_tf, guard_ft, guard_ff, Int.reduceEq, Int.reduceLT, Int.reduceLE, decide_false, decide_true, Bool.not_false, Bool.not_true, Bool.not_not, not_true_eq_false, not_false_eq_true, true_implies, false_implies, implies_true, and_true, true_and, reduceCtorEq, Bool.and_self, Bool.or_self, Bool.and_true, Bool.true_and, Bool.false_eq_true, if_true, if_false, go_sem, Nat.reduceEqDiff, Nat.reduceLT, Nat.reduceAdd, Nat.reduceSub, Nat.reduceLeDiff, List.reduceReplicate, Int.reduceToNat]
            refine post_val ?_ rfl
            simp only [zeroRc, go_sem, Nat.reduceEqDiff, Nat.reduceLT, Nat.reduceAdd, Nat.reduceSub, Nat.reduceLeDiff, List.reduceReplicate, Int.reduceToNat]
          · rw [hK rfl]
            simp only [Bool.false_eq_true, Nat.reduceEqDiff, joinW_eq, guard_tt, guard_tf, guard_ft, guard_ff, Int.reduceEq, Int.reduceLT, Int.reduceLE, decide_false, decide_true, Bool.not_false, Bool.not_true, Bool.not_not, not_true_eq_false, not_false_eq_true, true_implies, false_implies, implies_true, and_true, true_and, reduceCtorEq, Bool.and_self, Bool.or_self, Bool.and_true, Bool.true_and, Bool.false_eq_true, if_true, if_false, go_sem, Nat.reduceEqDiff, Nat.reduceLT, Nat.reduceAdd, Nat.reduceSub, Nat.reduceLeDiff, List.reduceReplicate, Int.reduceToNat]
            refine post_val ?_ rfl
            simp only [zeroRc, go_sem, Nat.reduceEqDiff, Nat.reduceLT, Nat.reduceAdd, Nat.reduceSub, Nat.reduceLeDiff, List.reduceReplicate, Int.reduceToNat]
          · rw [hV rfl]
            simp only [Bool.false_eq_true, Nat.reduceEqDiff, joinW_eq, guard_tt, guard_tf, guard_ft, guard_ff, Int.reduceEq, Int.reduceLT, Int.reduceLE, decide_false, decide_true, Bool.not_false, Bool.not_true, Bool.not_not, not_true_eq_false, not_false_eq_true, true_implies, false_implies, implies_true, and_true, true_and, reduceCtorEq, Bool.and_self, Bool.or_self, Bool.and_true, Bool.true_and, Bool.false_eq_true, if_true, if_false, go_sem, Nat.reduceEqDiff, Nat.reduceLT, Nat.reduceAdd, Nat.reduceSub, Nat.reduceLeDiff, List.reduceReplicate, Int.reduceToNat]
            refine post_val ?_ rfl
            simp only [zeroRc, go_sem, Nat.reduceEqDiff, Nat.reduceLT, Nat.reduceAdd, Nat.reduceSub, Nat.reduceLeDiff, List.reduceReplicate, Int.reduceToNat]
          · have hl16 : (formR d).length = w.length := by omega
            rw [hb, Bool.true_and] at hR
            simp only [lamplighterref02_Numbers.C, Nat.reduceEqDiff, joinW_eq, guard_tt, guard_tf, guard_ft, guard_ff, Int.reduceEq, Int.reduceLT, Int.reduceLE, decide_false, decide_true, Bool.not_false, Bool.not_true, Bool.not_not, not_true_eq_false, not_false_eq_true, true_implies, false_implies, implies_true, and_true, true_and, reduceCtorEq, Bool.and_self, Bool.or_self, Bool.and_true, Bool.true_and, Bool.false_eq_true, if_true, if_false, go_sem, Nat.reduceEqDiff, Nat.reduceLT, Nat.reduceAdd, Nat.reduceSub, Nat.reduceLeDiff, List.reduceReplicate, Int.reduceToNat]
            refine ⟨?_, fun hx => ?_, fun hx => ?_⟩
            · exact hrl
            · have hx : ¬ formR d = w := by simpa using hx
              rw [if_neg (by simpa using hx)] at hR
              rw [← hR]
              refine post_val ?_ rfl
              simp only [zeroRc, go_sem, Nat.reduceEqDiff, Nat.reduceLT, Nat.reduceAdd, Nat.reduceSub, Nat.reduceLeDiff, List.reduceReplicate, Int.reduceToNat]
            · have hx : formR d = w := by simpa using hx
              rw [if_pos (by simpa using hx)] at hR
              rw [← hR, ← hd]
              refine post_val ?_ rfl
              simp only [if_true, go_sem, Nat.reduceEqDiff, Nat.reduceLT, Nat.reduceAdd, Nat.reduceSub, Nat.reduceLeDiff, List.reduceReplicate, Int.reduceToNat]
      · simp only [if_neg h1] at hR ⊢
        generalize textB (List.take ((m / 32 + 6) / 7) (List.drop 3 w)) ↑(m / 32) = bk at *
        generalize textS (List.take ((m / 32 + 6) / 7) (List.drop 3 w)) ↑(m / 32) = sk at *
        simp only [lamplighterref07_Words.C]
        generalize hd : (⟨w.getD 0 0, if bk = true then sk else [], [], w.getD 6 0⟩ : Rc) = d at *
        cases hb : recB d with
        | false =>
          rw [hb] at hR
          simp only [Bool.false_and, Bool.false_eq_true, if_false] at hR
          rw [rwords_no hb, ← hR]
          cases bk <;>
          · simp only [Bool.false_eq_true, Nat.reduceEqDiff, joinW_eq, guard_tt, guard_tf, guard_ft, guard_ff, Int.reduceEq, Int.reduceLT, Int.reduceLE, decide_false, decide_true, Bool.not_false, Bool.not_true, Bool.not_not, not_true_eq_false, not_false_eq_true, true_implies, false_implies, implies_true, and_true, true_and, reduceCtorEq, Bool.and_self, Bool.or_self, Bool.and_true, Bool.true_and, Bool.false_eq_true, if_true, if_false, go_sem, Nat.reduceEqDiff, Nat.reduceLT, Nat.reduceAdd, Nat.reduceSub, Nat.reduceLeDiff, List.reduceReplicate, Int.reduceToNat]
            refine post_val ?_ rfl
            simp only [zeroRc, go_sem, Nat.reduceEqDiff, Nat.reduceLT, Nat.reduceAdd, Nat.reduceSub, Nat.reduceLeDiff, List.reduceReplicate, Int.reduceToNat]
        | true =>
          have hl := form_len (rec_iff.1 hb)
          have hrl : roomy (formR d).length := by unfold roomy; omega
          rw [rwords_ok hb]
          cases bk
          · rw [hK rfl]
            simp only [Bool.false_eq_true, Nat.reduceEqDiff, joinW_eq, guard_tt, guard_tf, guard_ft, guard_ff, Int.reduceEq, Int.reduceLT, Int.reduceLE, decide_false, decide_true, Bool.not_false, Bool.not_true, Bool.not_not, not_true_eq_false, not_false_eq_true, true_implies, false_implies, implies_true, and_true, true_and, reduceCtorEq, Bool.and_self, Bool.or_self, Bool.and_true, Bool.true_and, Bool.false_eq_true, if_true, if_false, go_sem, Nat.reduceEqDiff, Nat.reduceLT, Nat.reduceAdd, Nat.reduceSub, Nat.reduceLeDiff, List.reduceReplicate, Int.reduceToNat]
            refine post_val ?_ rfl
            simp only [zeroRc, go_sem, Nat.reduceEqDiff, Nat.reduceLT, Nat.reduceAdd, Nat.reduceSub, Nat.reduceLeDiff, List.reduceReplicate, Int.reduceToNat]
          · have hl16 : (formR d).length = w.length := by omega
            rw [hb, Bool.true_and] at hR
            simp only [lamplighterref02_Numbers.C, Nat.reduceEqDiff, joinW_eq, guard_tt, guard_tf, guard_ft, guard_ff, Int.reduceEq, Int.reduceLT, Int.reduceLE, decide_false, decide_true, Bool.not_false, Bool.not_true, Bool.not_not, not_true_eq_false, not_false_eq_true, true_implies, false_implies, implies_true, and_true, true_and, reduceCtorEq, Bool.and_self, Bool.or_self, Bool.and_true, Bool.true_and, Bool.false_eq_true, if_true, if_false, go_sem, Nat.reduceEqDiff, Nat.reduceLT, Nat.reduceAdd, Nat.reduceSub, Nat.reduceLeDiff, List.reduceReplicate, Int.reduceToNat]
            refine ⟨?_, fun hx => ?_, fun hx => ?_⟩
            · exact hrl
            · have hx : ¬ formR d = w := by simpa using hx
              rw [if_neg (by simpa using hx)] at hR
              rw [← hR]
              refine post_val ?_ rfl
              simp only [zeroRc, go_sem, Nat.reduceEqDiff, Nat.reduceLT, Nat.reduceAdd, Nat.reduceSub, Nat.reduceLeDiff, List.reduceReplicate, Int.reduceToNat]
            · have hx : formR d = w := by simpa using hx
              rw [if_pos (by simpa using hx)] at hR
              rw [← hR, ← hd]
              refine post_val ?_ rfl
              simp only [if_true, go_sem, Nat.reduceEqDiff, Nat.reduceLT, Nat.reduceAdd, Nat.reduceSub, Nat.reduceLeDiff, List.reduceReplicate, Int.reduceToNat]
end Lam
namespace Lam
set_option maxRecDepth 20000
open Go Go.Proofs
set_option linter.unusedVariables false
set_option linter.unnecessarySimpa false
set_option linter.unusedSimpArgs false
/-- what is kept, with more behind it -/
def ExtT (T T1 : List AObj) : Prop := OkT T1 ∧ T1.take T.length = T
theorem ExtT.refl {T : List AObj} (h : OkT T) : ExtT T T := ⟨h, List.take_of_length_le (Nat.le_refl _)⟩
theorem ExtT.len {T T1 : List AObj} (h : ExtT T T1) : T.length ≤ T1.length := by
  have := congrArg List.length h.2
  rw [List.length_take] at this; omega
theorem ExtT.trans {T T1 T2 : List AObj} (h : ExtT T T1) (h' : ExtT T1 T2) : ExtT T T2 :=
  ⟨h'.1, by
    have e : T2.take T.length = (T2.take T1.length).take T.length := by rw [List.take_take, Nat.min_eq_left h.len]
    rw [e, h'.2, h.2]⟩
theorem ExtT.snoc {T T1 : List AObj} (h : ExtT T T1) (k : IntKind) (n : Int) : ExtT T (T1 ++ [.box (.int k n)]) :=
  ⟨h.1.snoc k n, by rw [List.take_append_of_le_length h.len]; exact h.2⟩
theorem joinW_gen {α : Type} {A : α → Prop} {k : α} (h : ∀ k', k' = k → joinW A k') : joinW A k := h k rfl
abbrev pdq_ctx (C : Con) : Ctx := ctx [(68, seek_Hits_1.C)] [(114, slices_insertionSortCmpFunc_api_Rec.K), (115, slices_heapSortCmpFunc_api_Rec.K), (116, slices_breakPatternsCmpFunc_api_Rec.K), (117, slices_choosePivotCmpFunc_api_Rec.K), (118, slices_reverseRangeCmpFunc_api_Rec.K), (119, slices_partialInsertionSortCmpFunc_api_Rec.K), (121, slices_partitionCmpFunc_api_Rec.K), (92, C)] slices_pdqsortCmpFunc_api_Rec.loops
def pdqD : Nat → Con
  | 0 => fun _ _ _ => False
  | d + 1 => fun args h K => match args with
    | [a0, a1, a2, a3, a4] => slices_pdqsortCmpFunc_api_Rec.H (pdq_ctx (pdqD d)) a0 a1 a2 a3 a4 h K
    | _ => False
theorem pdqD.spec : ∀ d, SSpec Try.prog 92 (pdqD d)
  | 0 => by
    refine SSpec.of (c := ctx [] [] slices_pdqsortCmpFunc_api_Rec.loops) (ctx_ok (by simp) (by simp) slices_pdqsortCmpFunc_api_Rec.loops) slices_pdqsortCmpFunc_api_Rec.at slices_pdqsortCmpFunc_api_Rec.nm slices_pdqsortCmpFunc_api_Rec.bd ?_
    intro args h K hC
    exact hC.elim
  | d + 1 => by
    refine SSpec.of (c := pdq_ctx (pdqD d)) (ctx_ok (by simpa using seek_Hits_1.spec) (by simpa using ⟨slices_insertionSortCmpFunc_api_Rec.spec, slices_heapSortCmpFunc_api_Rec.spec, slices_breakPatternsCmpFunc_api_Rec.spec, slices_choosePivotCmpFunc_api_Rec.spec, slices_reverseRangeCmpFunc_api_Rec.spec, slices_partialInsertionSortCmpFunc_api_Rec.spec, slices_partitionCmpFunc_api_Rec.spec, pdqD.spec d⟩) slices_pdqsortCmpFunc_api_Rec.loops) slices_pdqsortCmpFunc_api_Rec.at slices_pdqsortCmpFunc_api_Rec.nm slices_pdqsortCmpFunc_api_Rec.bd ?_
    intro args h K hC
    unfold pdqD at hC
    split at hC
    · rw [slices_pdqsortCmpFunc_api_Rec.eq]; exact hC
    · exact hC.elim
theorem pdq_K (A : SkT) (m : Bytes → Bool) (v : Nat) (n : Nat) (hr : roomy n) (h255 : n < 256) : ∀ (d : Nat) (l : List RecT) (T : List AObj) (hTn : OkT T) (a b : Nat) (lim : Int) (hn : n = l.length) (hab : a ≤ b) (hbn : b ≤ n) (hd : b < a + d) (hpre : PreS a b l) (hnd : (l.map (·.key)).Nodup) (K : AOut → List AObj → Prop)
    (hK : ∀ l' T', ExtT T T' → SegP a b l l' → SegS a b l' → K (.ret (.tup [])) (hpS A m v l' T')),
    pdqD d [.sref false 2 v 0 n, .int .i64 a, .int .i64 b, .int .i64 lim, hitF] (hpS A m v l T) K
  | 0, l, T, hTn, a, b, lim, hn, hab, hbn, hd, hpre, hnd, K, hK => by omega
  | d + 1, l, T, hTn, a0, b0, lim0, hn, hab0, hbn0, hd, hpre0, hnd, K, hK => by
    have ih := pdq_K A m v n hr h255 d
    have hr' := hr
    unfold roomy at hr'
    have h2 : 2 < T.length + 1 + 1 + 1 := by omega
    unfold pdqD slices_pdqsortCmpFunc_api_Rec.H
    simp only [hpS, hTn _ _, SkT.norm, h2, joinW_eq, joinW_eq, guard_tt, guard_tf, guard_ft, guard_ff, Int.reduceEq, Int.reduceLT, Int.reduceLE, decide_false, decide_true, Bool.not_false, Bool.not_true, Bool.not_not, not_true_eq_false, not_false_eq_true, true_implies, false_implies, implies_true, and_true, true_and, reduceCtorEq, Bool.and_self, Bool.or_self, Bool.and_true, Bool.true_and, Bool.false_eq_true, if_true, if_false, go_sem, Nat.reduceEqDiff, Nat.reduceLT, Nat.reduceAdd, Nat.reduceSub, Nat.reduceLeDiff, List.reduceReplicate, Int.reduceToNat]
    unfold slices_pdqsortCmpFunc_api_Rec.L1
    refine loop5 (σ := List RecT × Nat × Nat × Int × Bool × Bool) (fun s => .int .i64 s.2.1) (fun s => .int .i64 s.2.2.1) (fun s => .int .i64 s.2.2.2.1) (fun s => .bool s.2.2.2.2.1) (fun s => .bool s.2.2.2.2.2) (fun s => .box A.V :: .map (.sb m) :: .row .own v (.recs s.1) :: T) (fun s => s.2.2.1 - s.2.1)
      (fun s => a0 ≤ s.2.1 ∧ s.2.1 ≤ s.2.2.1 ∧ s.2.2.1 ≤ b0 ∧ SegP a0 b0 l s.1 ∧ PreS s.2.1 s.2.2.1 s.1 ∧ ∀ l', SegP s.2.1 s.2.2.1 s.1 l' → SegS s.2.1 s.2.2.1 l' → SegS a0 b0 l') (l, a0, b0, lim0, true, true) rfl rfl ⟨Nat.le_refl _, hab0, Nat.le_refl _, SegP.refl, hpre0, fun l' _ h => h⟩ ?_
    rintro I back ⟨l1, a, b, lim, t10, t11⟩ ⟨g1, g2, g3, g4, g5, g6⟩
    simp only at g1 g2 g3 g4 g5 g6 ⊢
    have hl1 := g4.len
    obtain ⟨len, hlen⟩ : ∃ len, b - a = len := ⟨_, rfl⟩
    have e2 : IntKind.i64.wrap ((b : Int) - a) = (len : Int) := by rw [w64 (by omega) (by omega)]; omega
    have hlt : ∀ (l2 : List RecT) (p : Nat), SegP a b l1 l2 → a ≤ p → p < b → 0 < a → ltB (kyL l2 (a - 1)) (kyL l2 p) = true := fun l2 p h1 h3 h4 h5 => by
      rcases g5.keep h1 with h | h
      · omega
      · refine lt_of_le_ne (h p h3 h4) fun e => ?_
        have hnd2 : (l2.map (·.key)).Nodup := ((g4.trans (h1.mono g1 g3)).1.map _).nodup_iff.2 hnd
        have hl2 := h1.len
        have h6 := List.pairwise_iff_getElem.1 hnd2 (a - 1) p (by simp; omega) (by simp; omega) (by omega)
        apply h6
        unfold kyL at e
        rw [List.getD_eq_getElem?_getD, List.getD_eq_getElem?_getD, List.getElem?_eq_getElem (by omega), List.getElem?_eq_getElem (by omega)] at e
        simpa using e
    have ea1 : 0 < a → IntKind.i64.wrap ((a : Int) - 1) = ((a - 1 : Nat) : Int) := fun h => by rw [w64 (by omega) (by omega)]; omega
    have eb1 : 0 < b → IntKind.i64.wrap ((b : Int) - 1) = ((b - 1 : Nat) : Int) := fun h => by rw [w64 (by omega) (by omega)]; omega
    have ep1 : ∀ p : Nat, a ≤ p → p < b → IntKind.i64.wrap (((b - 1 : Nat) : Int) - IntKind.i64.wrap ((p : Int) - (a : Int))) = ((b - 1 - (p - a) : Nat) : Int) := fun p h1 h3 => by
      rw [w64 (n := (p : Int) - a) (by omega) (by omega), w64 (n := ((b - 1 : Nat) : Int) - ((p : Int) - (a : Int))) (by omega) (by omega)]; omega
    refine joinW_gen fun kb hkb => ?_
    rw [joinW_eq]
    simp only [SkT.norm, e2, guard_tt, guard_tf, guard_ft, guard_ff, Int.reduceEq, Int.reduceLT, Int.reduceLE, decide_false, decide_true, Bool.not_false, Bool.not_true, Bool.not_not, not_true_eq_false, not_false_eq_true, true_implies, false_implies, implies_true, and_true, true_and, reduceCtorEq, Bool.and_self, Bool.or_self, Bool.and_true, Bool.true_and, Bool.false_eq_true, if_true, if_false, go_sem, Nat.reduceEqDiff, Nat.reduceLT, Nat.reduceAdd, Nat.reduceSub, Nat.reduceLeDiff, List.reduceReplicate, Int.reduceToNat]
    refine ⟨fun h12 => ?_, fun h12 => ⟨fun hz => ?_, fun hz => ?_⟩⟩
    · exact ins_K A m v l1 T hTn n a b (by omega) g2 (by omega) hr _ fun l' p s => hK l' T (ExtT.refl hTn) (g4.trans (p.mono g1 g3)) (g6 l' p s)
    · exact heap_K A m v l1 T hTn n a b (by omega) (by omega) (by omega) hr _ fun l' p s => hK l' T (ExtT.refl hTn) (g4.trans (p.mono g1 g3)) (g6 l' p s)
    have backb : ∀ (l6 : List RecT) (T6 : List AObj) (a' b' : Nat) (lim' : Int) (x y : Bool), ExtT T T6 → a ≤ a' → a' ≤ b' → b' ≤ b → b' - a' < b - a → SegP a b l1 l6 → PreS a' b' l6 → (∀ l7, SegP a' b' l6 l7 → SegS a' b' l7 → SegS a b l7) → kb (.int .i64 a') (.int .i64 b') (.int .i64 lim') (.bool x) (.bool y) (hpS A m v l6 T6) := by
      intro l6 T6 a' b' lim' x y x6 q1 q2 q3 q4 q5 q6 q7
      have hT6 := x6.1
      have hx6 := x6.2
      rw [hkb]
      simp only [hpS, hT6 _ _, hx6, hTn _ _, SkT.norm, h2, guard_tt, guard_tf, guard_ft, guard_ff, Int.reduceEq, Int.reduceLT, Int.reduceLE, decide_false, decide_true, Bool.not_false, Bool.not_true, Bool.not_not, not_true_eq_false, not_false_eq_true, true_implies, false_implies, implies_true, and_true, true_and, reduceCtorEq, Bool.and_self, Bool.or_self, Bool.and_true, Bool.true_and, Bool.false_eq_true, if_true, if_false, go_sem, Nat.reduceEqDiff, Nat.reduceLT, Nat.reduceAdd, Nat.reduceSub, Nat.reduceLeDiff, List.reduceReplicate, Int.reduceToNat]
      exact back (l6, a', b', lim', x, y) q4 rfl rfl ⟨by simp only; omega, q2, by simp only; omega, g4.trans (q5.mono g1 g3), q6, fun l7 p7 s7 => g6 l7 (q5.trans (p7.mono q1 q3)) (q7 l7 p7 s7)⟩
    clear hkb
    refine joinW_gen fun k3 hk3 => ?_
    have rest3 : ∀ (l2 : List RecT) (T2 : List AObj) (lim2 : Int), ExtT T T2 → SegP a b l1 l2 → k3 (.int .i64 lim2) (hpS A m v l2 T2) := by
      intro l2 T2 lim2 x2 p2
      have hT2 := x2.1
      rw [hk3]
      simp only [hpS, hT2 _ _, SkT.norm, guard_tt, guard_tf, guard_ft, guard_ff, Int.reduceEq, Int.reduceLT, Int.reduceLE, decide_false, decide_true, Bool.not_false, Bool.not_true, Bool.not_not, not_true_eq_false, not_false_eq_true, true_implies, false_implies, implies_true, and_true, true_and, reduceCtorEq, Bool.and_self, Bool.or_self, Bool.and_true, Bool.true_and, Bool.false_eq_true, if_true, if_false, go_sem, Nat.reduceEqDiff, Nat.reduceLT, Nat.reduceAdd, Nat.reduceSub, Nat.reduceLeDiff, List.reduceReplicate, Int.reduceToNat]
      refine choose_K A m v l2 T2 hT2 n a b (by rw [p2.len]; omega) (by omega) (by omega) hr _ fun p e s hp1 hp2 he => ?_
      have x3 := x2.snoc .i64 s
      generalize T2 ++ [AObj.box (.int .i64 s)] = T3 at *
      have hT3 := x3.1
      simp only [hpS, hT3 _ _, SkT.norm, guard_tt, guard_tf, guard_ft, guard_ff, Int.reduceEq, Int.reduceLT, Int.reduceLE, decide_false, decide_true, Bool.not_false, Bool.not_true, Bool.not_not, not_true_eq_false, not_false_eq_true, true_implies, false_implies, implies_true, and_true, true_and, reduceCtorEq, Bool.and_self, Bool.or_self, Bool.and_true, Bool.true_and, Bool.false_eq_true, if_true, if_false, go_sem, Nat.reduceEqDiff, Nat.reduceLT, Nat.reduceAdd, Nat.reduceSub, Nat.reduceLeDiff, List.reduceReplicate, Int.reduceToNat]
      refine joinW_gen fun k4 hk4 => ?_
      have rest4 : ∀ (l3 : List RecT) (p : Nat) (e : Int), SegP a b l1 l3 → a ≤ p → p < b → k4 (.int .i64 p) (.int .i64 e) (hpS A m v l3 T3) := by
        intro l3 p e p3 hp1 hp2
        have hl3 := p3.len
        rw [hk4]
        cases t10 <;> cases t11 <;> simp only [hpS, hT3 _ _, SkT.norm, guard_tt, guard_tf, guard_ft, guard_ff, Int.reduceEq, Int.reduceLT, Int.reduceLE, decide_false, decide_true, Bool.not_false, Bool.not_true, Bool.not_not, not_true_eq_false, not_false_eq_true, true_implies, false_implies, implies_true, and_true, true_and, reduceCtorEq, Bool.and_self, Bool.or_self, Bool.and_true, Bool.true_and, Bool.false_eq_true, if_true, if_false, go_sem, Nat.reduceEqDiff, Nat.reduceLT, Nat.reduceAdd, Nat.reduceSub, Nat.reduceLeDiff, List.reduceReplicate, Int.reduceToNat]
        all_goals (rw [joinW_eq]; simp only [guard_tt, guard_tf, guard_ft, guard_ff, Int.reduceEq, Int.reduceLT, Int.reduceLE, decide_false, decide_true, Bool.not_false, Bool.not_true, Bool.not_not, not_true_eq_false, not_false_eq_true, true_implies, false_implies, implies_true, and_true, true_and, reduceCtorEq, Bool.and_self, Bool.or_self, Bool.and_true, Bool.true_and, Bool.false_eq_true, if_true, if_false, go_sem, Nat.reduceEqDiff, Nat.reduceLT, Nat.reduceAdd, Nat.reduceSub, Nat.reduceLeDiff, List.reduceReplicate, Int.reduceToNat])
        all_goals
          refine joinW_gen fun k7 hk7 => ?_
          have rest7 : ∀ l4, SegP a b l1 l4 → k7 (hpS A m v l4 T3) := by
            intro l4 p4
            have hl4 := p4.len
            rw [hk7]
            refine joinW_gen fun k8 hk8 => ?_
            have rest8 : ∀ x y, ((x = .bool true ∧ y = .bool false) ∨ (x = .bool false ∧ y = .und)) → k8 x y (hpS A m v l4 T3) := by
              rintro x y hxy
              rw [hk8]
              rcases hxy with ⟨rfl, rfl⟩ | ⟨rfl, rfl⟩ <;> simp only [hpS, hT3 _ _, SkT.norm, guard_tt, guard_tf, guard_ft, guard_ff, Int.reduceEq, Int.reduceLT, Int.reduceLE, decide_false, decide_true, Bool.not_false, Bool.not_true, Bool.not_not, not_true_eq_false, not_false_eq_true, true_implies, false_implies, implies_true, and_true, true_and, reduceCtorEq, Bool.and_self, Bool.or_self, Bool.and_true, Bool.true_and, Bool.false_eq_true, if_true, if_false, go_sem, Nat.reduceEqDiff, Nat.reduceLT, Nat.reduceAdd, Nat.reduceSub, Nat.reduceLeDiff, List.reduceReplicate, Int.reduceToNat]
              all_goals
                refine partition_K A m v l4 T3 hT3 n a b p (by omega) (by omega) (by omega) hp1 hp2 hr _ fun l5 q al p5 hq1 hq2 hpt => ?_
                have hl5 := p5.len
                have P5 := p4.trans p5
                have f1 : IntKind.i64.wrap ((q : Int) - a) = ((q - a : Nat) : Int) := by rw [w64 (by omega) (by omega)]; omega
                have f2 : IntKind.i64.wrap ((b : Int) - q) = ((b - q : Nat) : Int) := by rw [w64 (by omega) (by omega)]; omega
                have hnd5 : (l5.map (·.key)).Nodup := ((g4.trans (P5.mono g1 g3)).1.map _).nodup_iff.2 hnd
                simp only [hpS, hT3 _ _, SkT.norm, f1, f2, wnext (show q < 4611686018427387904 by omega), guard_tt, guard_tf, guard_ft, guard_ff, Int.reduceEq, Int.reduceLT, Int.reduceLE, decide_false, decide_true, Bool.not_false, Bool.not_true, Bool.not_not, not_true_eq_false, not_false_eq_true, true_implies, false_implies, implies_true, and_true, true_and, reduceCtorEq, Bool.and_self, Bool.or_self, Bool.and_true, Bool.true_and, Bool.false_eq_true, if_true, if_false, go_sem, Nat.reduceEqDiff, Nat.reduceLT, Nat.reduceAdd, Nat.reduceSub, Nat.reduceLeDiff, List.reduceReplicate, Int.reduceToNat]
                refine joinW_gen fun k9 hk9 => ?_
                have rest9 : ∀ (l6 : List RecT) (T6 : List AObj) (a' b' : Nat) (x : Bool), ExtT T T6 → a ≤ a' → a' ≤ b' → b' ≤ b → b' - a' < b - a → SegP a b l1 l6 → PreS a' b' l6 → (∀ l7, SegP a' b' l6 l7 → SegS a' b' l7 → SegS a b l7) → k9 (.int .i64 a') (.int .i64 b') (.bool x) (hpS A m v l6 T6) := fun l6 T6 a' b' x q0 q1 q2 q3 q4 q5 q6 q7 => by
                  rw [hk9]; exact backb l6 T6 a' b' lim2 x al q0 q1 q2 q3 q4 q5 q6 q7
                clear hk9
                rw [joinW_eq]
                refine ⟨fun hlt1 => ?_, fun hge => ?_⟩
                · refine ih l5 T3 hT3 a q lim2 (by omega) hq1 (by omega) (by omega) ((g5.keep P5).imp id fun h k k1 k2 => h k k1 (by omega)) hnd5 _ fun l6 T6 x6 p6 s6 => ?_
                  have hT6 := x6.1
                  have hl := hpt.left p6
                  simp only [hpS, hT6 _ _, SkT.norm, wnext (show q < 4611686018427387904 by omega), guard_tt, guard_tf, guard_ft, guard_ff, Int.reduceEq, Int.reduceLT, Int.reduceLE, decide_false, decide_true, Bool.not_false, Bool.not_true, Bool.not_not, not_true_eq_false, not_false_eq_true, true_implies, false_implies, implies_true, and_true, true_and, reduceCtorEq, Bool.and_self, Bool.or_self, Bool.and_true, Bool.true_and, Bool.false_eq_true, if_true, if_false, go_sem, Nat.reduceEqDiff, Nat.reduceLT, Nat.reduceAdd, Nat.reduceSub, Nat.reduceLeDiff, List.reduceReplicate, Int.reduceToNat]
                  exact rest9 l6 T6 (q + 1) b _ (x3.trans x6) (by omega) (by omega) (Nat.le_refl _) (by omega) (P5.trans (p6.mono (Nat.le_refl _) (by omega))) (.inr fun k k1 k2 => hl.2 k (by omega) k2) fun l7 p7 s7 => (hl.right p7).sorted (s6.keep p7 (.inl (by omega))) s7
                · refine ih l5 T3 hT3 (q + 1) b lim2 (by omega) (by omega) (by omega) (by omega) (.inr fun k k1 k2 => hpt.2 k (by omega) k2) hnd5 _ fun l6 T6 x6 p6 s6 => ?_
                  have hT6 := x6.1
                  have hl := hpt.right p6
                  have P6 := P5.trans (p6.mono (by omega) (Nat.le_refl _))
                  simp only [hpS, hT6 _ _, SkT.norm, wnext (show q < 4611686018427387904 by omega), guard_tt, guard_tf, guard_ft, guard_ff, Int.reduceEq, Int.reduceLT, Int.reduceLE, decide_false, decide_true, Bool.not_false, Bool.not_true, Bool.not_not, not_true_eq_false, not_false_eq_true, true_implies, false_implies, implies_true, and_true, true_and, reduceCtorEq, Bool.and_self, Bool.or_self, Bool.and_true, Bool.true_and, Bool.false_eq_true, if_true, if_false, go_sem, Nat.reduceEqDiff, Nat.reduceLT, Nat.reduceAdd, Nat.reduceSub, Nat.reduceLeDiff, List.reduceReplicate, Int.reduceToNat]
                  exact rest9 l6 T6 a q _ (x3.trans x6) (Nat.le_refl _) (by omega) (by omega) (by omega) P6 ((g5.keep P6).imp id fun h k k1 k2 => h k k1 (by omega)) fun l7 p7 s7 => (hl.left p7).sorted s7 (s6.keep p7 (.inr (by omega)))
            clear hk8
            rw [joinW_eq]
            by_cases ha0 : 0 < a
            · have hlt0 := hlt l4 p p4 hp1 hp2 ha0
              have da : decide ((0 : Int) < (a : Int)) = true := decide_eq_true (by omega)
              simp only [hpS, hT3 _ _, SkT.norm, da, hlt0, ea1 ha0, Int.toNat_natCast, seek_Hits_1.C, d0_def, kyL_def, cmpI_neg, guard_tt, guard_tf, guard_ft, guard_ff, Int.reduceEq, Int.reduceLT, Int.reduceLE, decide_false, decide_true, Bool.not_false, Bool.not_true, Bool.not_not, not_true_eq_false, not_false_eq_true, true_implies, false_implies, implies_true, and_true, true_and, reduceCtorEq, Bool.and_self, Bool.or_self, Bool.and_true, Bool.true_and, Bool.false_eq_true, if_true, if_false, go_sem, Nat.reduceEqDiff, Nat.reduceLT, Nat.reduceAdd, Nat.reduceSub, Nat.reduceLeDiff, List.reduceReplicate, Int.reduceToNat]
              refine ⟨⟨by omega, by omega⟩, by omega, ⟨by omega, by omega⟩, by omega, ?_⟩
              exact rest8 _ _ (.inl ⟨rfl, rfl⟩)
            · have da : decide ((0 : Int) < (a : Int)) = false := decide_eq_false (by omega)
              simp only [hpS, da, guard_tt, guard_tf, guard_ft, guard_ff, Int.reduceEq, Int.reduceLT, Int.reduceLE, decide_false, decide_true, Bool.not_false, Bool.not_true, Bool.not_not, not_true_eq_false, not_false_eq_true, true_implies, false_implies, implies_true, and_true, true_and, reduceCtorEq, Bool.and_self, Bool.or_self, Bool.and_true, Bool.true_and, Bool.false_eq_true, if_true, if_false, go_sem, Nat.reduceEqDiff, Nat.reduceLT, Nat.reduceAdd, Nat.reduceSub, Nat.reduceLeDiff, List.reduceReplicate, Int.reduceToNat]
              exact rest8 _ _ (.inr ⟨rfl, rfl⟩)
          clear hk7
          rw [joinW_eq]
          first
            | exact rest7 l3 p3
            | refine ⟨fun _ => part_K A m v l3 T3 hT3 n a b (by omega) (by omega) (by omega) (g5.keep p3) hr _ (fun l4 p4 s4 => ?_) fun l4 p4 => ?_, fun _ => rest7 l3 p3⟩
              · simp only [hpS, guard_tt, guard_tf, guard_ft, guard_ff, Int.reduceEq, Int.reduceLT, Int.reduceLE, decide_false, decide_true, Bool.not_false, Bool.not_true, Bool.not_not, not_true_eq_false, not_false_eq_true, true_implies, false_implies, implies_true, and_true, true_and, reduceCtorEq, Bool.and_self, Bool.or_self, Bool.and_true, Bool.true_and, Bool.false_eq_true, if_true, if_false, go_sem, Nat.reduceEqDiff, Nat.reduceLT, Nat.reduceAdd, Nat.reduceSub, Nat.reduceLeDiff, List.reduceReplicate, Int.reduceToNat]
                exact hK l4 T3 x3 (g4.trans ((p3.trans p4).mono g1 g3)) (g6 l4 (p3.trans p4) s4)
              · simp only [hpS, guard_tt, guard_tf, guard_ft, guard_ff, Int.reduceEq, Int.reduceLT, Int.reduceLE, decide_false, decide_true, Bool.not_false, Bool.not_true, Bool.not_not, not_true_eq_false, not_false_eq_true, true_implies, false_implies, implies_true, and_true, true_and, reduceCtorEq, Bool.and_self, Bool.or_self, Bool.and_true, Bool.true_and, Bool.false_eq_true, if_true, if_false, go_sem, Nat.reduceEqDiff, Nat.reduceLT, Nat.reduceAdd, Nat.reduceSub, Nat.reduceLeDiff, List.reduceReplicate, Int.reduceToNat]
                exact rest7 l4 (p3.trans p4)
      rw [joinW_eq]
      simp only [eb1 (by omega), ep1 p hp1 hp2, guard_tt, guard_tf, guard_ft, guard_ff, Int.reduceEq, Int.reduceLT, Int.reduceLE, decide_false, decide_true, Bool.not_false, Bool.not_true, Bool.not_not, not_true_eq_false, not_false_eq_true, true_implies, false_implies, implies_true, and_true, true_and, reduceCtorEq, Bool.and_self, Bool.or_self, Bool.and_true, Bool.true_and, Bool.false_eq_true, if_true, if_false, go_sem, Nat.reduceEqDiff, Nat.reduceLT, Nat.reduceAdd, Nat.reduceSub, Nat.reduceLeDiff, List.reduceReplicate, Int.reduceToNat]
      refine ⟨fun he2 => reverse_K A m v l2 T3 hT3 n a b (by rw [p2.len]; omega) (by omega) (by omega) hr _ fun l3 p3 => ?_, fun _ => rest4 l2 p e p2 hp1 hp2⟩
      simp only [hpS, hT3 _ _, SkT.norm, guard_tt, guard_tf, guard_ft, guard_ff, Int.reduceEq, Int.reduceLT, Int.reduceLE, decide_false, decide_true, Bool.not_false, Bool.not_true, Bool.not_not, not_true_eq_false, not_false_eq_true, true_implies, false_implies, implies_true, and_true, true_and, reduceCtorEq, Bool.and_self, Bool.or_self, Bool.and_true, Bool.true_and, Bool.false_eq_true, if_true, if_false, go_sem, Nat.reduceEqDiff, Nat.reduceLT, Nat.reduceAdd, Nat.reduceSub, Nat.reduceLeDiff, List.reduceReplicate, Int.reduceToNat]
      exact rest4 l3 (b - 1 - (p - a)) 1 (p2.trans p3) (by omega) (by omega)
    rw [joinW_eq]
    cases t10 with
    | false =>
      simp only [guard_tt, guard_tf, guard_ft, guard_ff, Int.reduceEq, Int.reduceLT, Int.reduceLE, decide_false, decide_true, Bool.not_false, Bool.not_true, Bool.not_not, not_true_eq_false, not_false_eq_true, true_implies, false_implies, implies_true, and_true, true_and, reduceCtorEq, Bool.and_self, Bool.or_self, Bool.and_true, Bool.true_and, Bool.false_eq_true, if_true, if_false, go_sem, Nat.reduceEqDiff, Nat.reduceLT, Nat.reduceAdd, Nat.reduceSub, Nat.reduceLeDiff, List.reduceReplicate, Int.reduceToNat]
      refine break_K A m v l1 T hTn n a b (by omega) (by omega) (by omega) (by omega) hr _ fun l2 y p2 => ?_
      have x2 := (ExtT.refl hTn).snoc .u64 y
      have hT2 := x2.1
      simp only [hpS, guard_tt, guard_tf, guard_ft, guard_ff, Int.reduceEq, Int.reduceLT, Int.reduceLE, decide_false, decide_true, Bool.not_false, Bool.not_true, Bool.not_not, not_true_eq_false, not_false_eq_true, true_implies, false_implies, implies_true, and_true, true_and, reduceCtorEq, Bool.and_self, Bool.or_self, Bool.and_true, Bool.true_and, Bool.false_eq_true, if_true, if_false, go_sem, Nat.reduceEqDiff, Nat.reduceLT, Nat.reduceAdd, Nat.reduceSub, Nat.reduceLeDiff, List.reduceReplicate, Int.reduceToNat]
      exact rest3 l2 _ _ x2 p2
    | true =>
      simp only [guard_tt, guard_tf, guard_ft, guard_ff, Int.reduceEq, Int.reduceLT, Int.reduceLE, decide_false, decide_true, Bool.not_false, Bool.not_true, Bool.not_not, not_true_eq_false, not_false_eq_true, true_implies, false_implies, implies_true, and_true, true_and, reduceCtorEq, Bool.and_self, Bool.or_self, Bool.and_true, Bool.true_and, Bool.false_eq_true, if_true, if_false, go_sem, Nat.reduceEqDiff, Nat.reduceLT, Nat.reduceAdd, Nat.reduceSub, Nat.reduceLeDiff, List.reduceReplicate, Int.reduceToNat]
      exact rest3 l1 T lim (ExtT.refl hTn) SegP.refl
def slices_SortFunc_sl_api_Rec_api_Rec.K : Con := fun args h K => match args with
  | [a0, a1] => slices_SortFunc_sl_api_Rec_api_Rec.H (ctx [(93, math_bits_Len.C)] [(92, pdqD 256)] slices_SortFunc_sl_api_Rec_api_Rec.loops) a0 a1 h K
  | _ => False
theorem slices_SortFunc_sl_api_Rec_api_Rec.spec : SSpec Try.prog 67 slices_SortFunc_sl_api_Rec_api_Rec.K := by
  refine SSpec.of (c := ctx [(93, math_bits_Len.C)] [(92, pdqD 256)] slices_SortFunc_sl_api_Rec_api_Rec.loops) (ctx_ok (by simpa using math_bits_Len.spec) (by simpa using pdqD.spec 256) slices_SortFunc_sl_api_Rec_api_Rec.loops) slices_SortFunc_sl_api_Rec_api_Rec.at slices_SortFunc_sl_api_Rec_api_Rec.nm slices_SortFunc_sl_api_Rec_api_Rec.bd ?_
  intro args h K hC
  unfold slices_SortFunc_sl_api_Rec_api_Rec.K at hC
  split at hC
  · rw [slices_SortFunc_sl_api_Rec_api_Rec.eq]; exact hC
  · exact hC.elim
theorem sort_K (A : SkT) (m : Bytes → Bool) (v : Nat) (l : List RecT) (n : Nat) (hn : n = l.length) (h255 : n < 256) (hnd : (l.map (·.key)).Nodup) (K : AOut → List AObj → Prop)
    (hK : ∀ l' T, l'.Perm l → SegS 0 n l' → K (.ret (.tup [])) (hpS A m v l' T)) :
    slices_SortFunc_sl_api_Rec_api_Rec.K [.sref false 2 v 0 n, hitF] (hpS A m v l []) K := by
  have hr : roomy n := by unfold roomy; omega
  have e1 : IntKind.u64.wrap (n : Int) = n := u64_id (by omega) (by omega)
  unfold slices_SortFunc_sl_api_Rec_api_Rec.K slices_SortFunc_sl_api_Rec_api_Rec.H
  simp only [hpS, math_bits_Len.C, e1, Int.toNat_natCast, joinW_eq, guard_tt, guard_tf, guard_ft, guard_ff, Int.reduceEq, Int.reduceLT, Int.reduceLE, decide_false, decide_true, Bool.not_false, Bool.not_true, Bool.not_not, not_true_eq_false, not_false_eq_true, true_implies, false_implies, implies_true, and_true, true_and, reduceCtorEq, Bool.and_self, Bool.or_self, Bool.and_true, Bool.true_and, Bool.false_eq_true, if_true, if_false, go_sem, Nat.reduceEqDiff, Nat.reduceLT, Nat.reduceAdd, Nat.reduceSub, Nat.reduceLeDiff, List.reduceReplicate, Int.reduceToNat]
  exact ⟨⟨by omega, by omega⟩, pdq_K A m v n hr h255 256 l [] OkT.nil 0 n _ hn (Nat.zero_le _) (Nat.le_refl _) (by omega) (.inl rfl) hnd _ fun l' T' _ s1 s2 => hK l' T' s1.1 s2⟩
end Lam
namespace Lam
set_option maxRecDepth 20000
open Go Go.Proofs
set_option linter.unusedVariables false
set_option linter.unnecessarySimpa false
set_option linter.unusedSimpArgs false
def rcT (x : Rc) : RecT := ⟨x.kind, x.key, x.val, x.child⟩
def hitS (w : List Int) (out : List RecT) (r : Int) : List RecT := match recO w r with
  | none => out
  | some x => if x.key ∈ out.map (·.key) then out else out ++ [rcT x]
def hitsOf (w refs : List Int) : List RecT := refs.foldl (hitS w) []
theorem hitS_len (w : List Int) (out : List RecT) (r : Int) : (hitS w out r).length ≤ out.length + 1 := by
  unfold hitS
  split
  · omega
  · split
    · omega
    · simp
theorem hitS_nodup {w : List Int} {out : List RecT} {r : Int} (h : (out.map (·.key)).Nodup) : ((hitS w out r).map (·.key)).Nodup := by
  unfold hitS
  split
  · exact h
  · split
    · exact h
    · rename_i x _ hx
      rw [List.map_append, List.nodup_append]
      refine ⟨h, by simp, fun a ha b hb => ?_⟩
      simp only [List.map_cons, List.map_nil, List.mem_singleton] at hb
      subst hb
      rintro rfl
      exact hx ha
theorem hits_fold {w : List Int} : ∀ {refs : List Int} {out : List RecT}, (out.map (·.key)).Nodup → ((refs.foldl (hitS w) out).map (·.key)).Nodup ∧ (refs.foldl (hitS w) out).length ≤ out.length + refs.length
  | [], out, h => ⟨h, by simp⟩
  | r :: refs, out, h => by
    obtain ⟨h1, h2⟩ := hits_fold (refs := refs) (hitS_nodup (r := r) (w := w) h)
    have := hitS_len w out r
    exact ⟨h1, by simp only [List.foldl_cons, List.length_cons]; omega⟩
def insR (x : RecT) : List RecT → List RecT
  | [] => [x]
  | y :: l => if ltB x.key y.key = true then x :: y :: l else y :: insR x l
def sortR (l : List RecT) : List RecT := l.foldr insR []
theorem insR_perm (x : RecT) : ∀ l : List RecT, (insR x l).Perm (x :: l)
  | [] => .refl _
  | y :: l => by
    unfold insR
    split
    · exact .refl _
    · exact ((insR_perm x l).cons y).trans (.swap x y l)
theorem sortR_perm : ∀ l : List RecT, (sortR l).Perm l
  | [] => .refl _
  | x :: l => (insR_perm x _).trans ((sortR_perm l).cons x)
def ltR (x y : RecT) : Prop := ltB x.key y.key = true
theorem insR_rises {x : RecT} : ∀ {l : List RecT}, l.Pairwise ltR → (∀ y ∈ l, y.key ≠ x.key) → (insR x l).Pairwise ltR
  | [], _, _ => by simp [insR]
  | y :: l, h, hx => by
    rw [List.pairwise_cons] at h
    unfold insR
    split
    · rename_i hl
      rw [List.pairwise_cons]
      refine ⟨fun z hz => ?_, List.pairwise_cons.2 h⟩
      rcases List.mem_cons.1 hz with rfl | hz
      · exact hl
      · exact ltB_trans hl (h.1 z hz)
    · rename_i hl
      rw [List.pairwise_cons]
      refine ⟨fun z hz => ?_, insR_rises h.2 fun z hz => hx z (by simp [hz])⟩
      rcases List.mem_cons.1 ((insR_perm x l).mem_iff.1 hz) with rfl | hz
      · exact lt_of_le_ne (by unfold leB; simpa using hl) (hx y (by simp))
      · exact h.1 z hz
theorem sortR_rises : ∀ {l : List RecT}, (l.map (·.key)).Nodup → (sortR l).Pairwise ltR
  | [], _ => List.Pairwise.nil
  | x :: l, h => by
    rw [List.map_cons, List.nodup_cons] at h
    refine insR_rises (sortR_rises h.2) fun y hy he => h.1 ?_
    rw [← he]
    exact List.mem_map_of_mem (f := (·.key)) ((sortR_perm l).mem_iff.1 hy)
theorem rises_eq : ∀ {l l' : List RecT}, l.Pairwise ltR → l'.Pairwise ltR → l.Perm l' → l = l'
  | [], l', _, _, p => p.nil_eq
  | x :: l, [], _, _, p => by have := p.length_eq; simp at this
  | x :: l, y :: l', h, h', p => by
    rw [List.pairwise_cons] at h h'
    have e : x = y := by
      rcases List.mem_cons.1 (p.mem_iff.1 (List.mem_cons_self (a := x))) with e | hx
      · exact e
      · rcases List.mem_cons.1 (p.mem_iff.2 (List.mem_cons_self (a := y))) with e | hy
        · exact e.symm
        · have := ltB_trans (h.1 y hy) (h'.1 x hx)
          rw [ltB_self] at this; cases this
    subst e
    rw [rises_eq h.2 h'.2 (List.Perm.cons_inv p)]
theorem sorted_is {l l' : List RecT} (hp : l'.Perm l) (hs : SegS 0 l.length l') (hn : (l.map (·.key)).Nodup) : l' = sortR l := by
  refine rises_eq ?_ (sortR_rises hn) (hp.trans (sortR_perm l).symm)
  have hn' : (l'.map (·.key)).Nodup := (hp.map _).nodup_iff.2 hn
  rw [List.pairwise_iff_getElem]
  intro i j hi hj hij
  have h1 := hs i j (Nat.zero_le _) hij (by rw [← hp.length_eq]; exact hj)
  unfold kyL at h1
  rw [List.getD_eq_getElem?_getD, List.getD_eq_getElem?_getD, List.getElem?_eq_getElem hi, List.getElem?_eq_getElem hj] at h1
  refine lt_of_le_ne h1 fun e => ?_
  have := List.pairwise_iff_getElem.1 hn' i j (by simpa using hi) (by simpa using hj) hij
  apply this
  simpa using e
def seek_Hits.C : Contract
  | [.sl _ (.ints .i64 w), .agg [.int .i64 b, .int .i64 t, .int .i64 a, .sl _ (.ints .i64 l), .bool o]] => some (false, pD (roomy w.length ∧ l.length ≤ 200) (.sl false (.recs (sortR (hitsOf w l)))))
  | _ => none
set_option maxRecDepth 20000 in
theorem seek_Hits.spec : FSpec Try.prog 33 seek_Hits.C := by
  refine FSpec.of (ctx_ok (F := [(37, rec_Read.C)]) (S := [(67, slices_SortFunc_sl_api_Rec_api_Rec.K)]) (by simpa using rec_Read.spec) (by simpa using slices_SortFunc_sl_api_Rec_api_Rec.spec) seek_Hits.loops) seek_Hits.at seek_Hits.nm seek_Hits.bd ?_
  intro vs b S v news e hS
  unfold seek_Hits.C at e
  split at e
  rotate_left
  · cases e
  cases e
  rw [seek_Hits.eq]
  unfold seek_Hits.H
  simp (maxSteps := 4000000) only [go_sem, Nat.reduceEqDiff, Nat.reduceLT, Nat.reduceAdd, Nat.reduceSub, Nat.reduceLeDiff, List.reduceReplicate, Int.reduceToNat, rec_Read.C]
  rename_i _ w b t a x l o
  obtain ⟨hw, hl⟩ := hS
  rw [joinW_eq]
  unfold seek_Hits.L1
  refine loop2 (σ := Nat) (fun k => .sref false 2 (hitsOf w (l.take k)).length 0 (hitsOf w (l.take k)).length) (fun k => .int .i64 k) (fun k => [.box (Sk.V ⟨b, t, a, l, o⟩), .map (.sb fun s => decide (s ∈ (hitsOf w (l.take k)).map (·.key))), .row .own (hitsOf w (l.take k)).length (.recs (hitsOf w (l.take k)))]) (fun k => l.length - k) (fun k => k ≤ l.length) 0 rfl (by simp [hitsOf, Sk.V]) (Nat.zero_le _) ?_
  intro I back k hk
  have hnext : k < l.length → hitsOf w (l.take (k + 1)) = hitS w (hitsOf w (l.take k)) (l.getD k 0) := fun h => by
    unfold hitsOf; rw [take_next l k 0 h, List.foldl_append]; rfl
  obtain ⟨hnd, hol⟩ := hits_fold (w := w) (refs := l.take k) (out := []) (by simp)
  have hnd : ((hitsOf w (l.take k)).map (·.key)).Nodup := hnd
  have hol : (hitsOf w (l.take k)).length ≤ k := by
    have : (hitsOf w (l.take k)).length ≤ 0 + (l.take k).length := hol
    rw [List.length_take] at this; omega
  by_cases hlt : k < l.length
  · have hb : ∀ (n : Nat) (lv : List AV) (h : List AObj), _ := fun n lv h => @back n lv h (k + 1)
    rw [hnext hlt] at hb
    clear back hnext
    generalize hitsOf w (l.take k) = out at *
    cases hx : recO w (l.getD k 0) with
    | none =>
      obtain ⟨e, he, hr⟩ := rreadV_no hx
      have hs : hitS w out (l.getD k 0) = out := by unfold hitS; rw [hx]
      rw [hs] at hb
      simp only [rec_Read.C, hr, zeroRc, he, decide_false, joinW_eq, Sk.V, joinW_eq, guard_tt, guard_tf, guard_ft, guard_ff, Int.reduceEq, Int.reduceLT, Int.reduceLE, decide_false, decide_true, Bool.not_false, Bool.not_true, Bool.not_not, not_true_eq_false, not_false_eq_true, true_implies, false_implies, implies_true, and_true, true_and, reduceCtorEq, Bool.and_self, Bool.or_self, Bool.and_true, Bool.true_and, Bool.false_eq_true, if_true, if_false, go_sem, Nat.reduceEqDiff, Nat.reduceLT, Nat.reduceAdd, Nat.reduceSub, Nat.reduceLeDiff, List.reduceReplicate, Int.reduceToNat]
      exact ⟨fun _ => ⟨⟨by omega, by omega⟩, hw, hb _ _ _ (by omega) (by rw [wnext (by omega)]) rfl (by omega)⟩, fun h => absurd h (by omega)⟩
    | some y =>
      obtain ⟨y1, y2, y3, y4⟩ := y
      by_cases hin : y2 ∈ out.map (·.key)
      · have hs : hitS w out (l.getD k 0) = out := by unfold hitS; rw [hx]; simp only [hin, if_true]
        rw [hs] at hb
        simp only [rec_Read.C, rreadV_so hx, hin, decide_true, joinW_eq, Sk.V, joinW_eq, guard_tt, guard_tf, guard_ft, guard_ff, Int.reduceEq, Int.reduceLT, Int.reduceLE, decide_false, decide_true, Bool.not_false, Bool.not_true, Bool.not_not, not_true_eq_false, not_false_eq_true, true_implies, false_implies, implies_true, and_true, true_and, reduceCtorEq, Bool.and_self, Bool.or_self, Bool.and_true, Bool.true_and, Bool.false_eq_true, if_true, if_false, go_sem, Nat.reduceEqDiff, Nat.reduceLT, Nat.reduceAdd, Nat.reduceSub, Nat.reduceLeDiff, List.reduceReplicate, Int.reduceToNat]
        exact ⟨fun _ => ⟨⟨by omega, by omega⟩, hw, hb _ _ _ (by omega) (by rw [wnext (by omega)]) rfl (by omega)⟩, fun h => absurd h (by omega)⟩
      · have hs : hitS w out (l.getD k 0) = out ++ [⟨y1, y2, y3, y4⟩] := by unfold hitS; rw [hx]; simp only [hin, if_false]; rfl
        rw [hs] at hb
        have hmap : (fun j => if j = y2 then true else decide (j ∈ out.map (·.key))) = fun j => decide (j ∈ (out ++ [(⟨y1, y2, y3, y4⟩ : RecT)]).map (·.key)) := by
          funext j
          rw [List.map_append, show decide (j ∈ out.map (·.key) ++ [(⟨y1, y2, y3, y4⟩ : RecT)].map (·.key)) = decide (j ∈ out.map (·.key) ∨ j = y2) from decide_eq_decide.2 (by simp)]
          by_cases e : j = y2
          · simp [e]
          · simp [e]
        simp only [rec_Read.C, rreadV_so hx, hin, decide_false, joinW_eq, Sk.V, joinW_eq, guard_tt, guard_tf, guard_ft, guard_ff, Int.reduceEq, Int.reduceLT, Int.reduceLE, decide_false, decide_true, Bool.not_false, Bool.not_true, Bool.not_not, not_true_eq_false, not_false_eq_true, true_implies, false_implies, implies_true, and_true, true_and, reduceCtorEq, Bool.and_self, Bool.or_self, Bool.and_true, Bool.true_and, Bool.false_eq_true, if_true, if_false, go_sem, Nat.reduceEqDiff, Nat.reduceLT, Nat.reduceAdd, Nat.reduceSub, Nat.reduceLeDiff, List.reduceReplicate, Int.reduceToNat]
        have hl1 : (out ++ [(⟨y1, y2, y3, y4⟩ : RecT)]).length = out.length + 1 := by simp
        refine ⟨fun _ => ⟨⟨by omega, by omega⟩, hw, by rw [hl1]; unfold roomy; omega, hb _ _ _ (by omega) (by rw [wnext (by omega), hl1]) (by rw [hmap, hl1]; rfl) (by omega)⟩, fun h => absurd h (by omega)⟩
  · obtain rfl : k = l.length := by omega
    rw [List.take_length] at hnd hol ⊢
    clear back hnext
    simp only [Sk.V, joinW_eq, guard_tt, guard_tf, guard_ft, guard_ff, Int.reduceEq, Int.reduceLT, Int.reduceLE, decide_false, decide_true, Bool.not_false, Bool.not_true, Bool.not_not, not_true_eq_false, not_false_eq_true, true_implies, false_implies, implies_true, and_true, true_and, reduceCtorEq, Bool.and_self, Bool.or_self, Bool.and_true, Bool.true_and, Bool.false_eq_true, if_true, if_false, go_sem, Nat.reduceEqDiff, Nat.reduceLT, Nat.reduceAdd, Nat.reduceSub, Nat.reduceLeDiff, List.reduceReplicate, Int.reduceToNat]
    refine ⟨fun h => absurd h (by omega), fun _ => ?_⟩
    refine sort_K ⟨b, t, a, l, o⟩ _ _ (hitsOf w l) _ rfl (by omega) hnd _ fun l' tl hp hs => ?_
    simp only [hpS, SkT.V, joinW_eq, guard_tt, guard_tf, guard_ft, guard_ff, Int.reduceEq, Int.reduceLT, Int.reduceLE, decide_false, decide_true, Bool.not_false, Bool.not_true, Bool.not_not, not_true_eq_false, not_false_eq_true, true_implies, false_implies, implies_true, and_true, true_and, reduceCtorEq, Bool.and_self, Bool.or_self, Bool.and_true, Bool.true_and, Bool.false_eq_true, if_true, if_false, go_sem, Nat.reduceEqDiff, Nat.reduceLT, Nat.reduceAdd, Nat.reduceSub, Nat.reduceLeDiff, List.reduceReplicate, Int.reduceToNat]
    have e := sorted_is hp hs hnd
    rw [← e]
    refine post_val ?_ rfl
    simp only [List.take_of_length_le (Nat.le_of_eq hp.length_eq), go_sem, Nat.reduceEqDiff, Nat.reduceLT, Nat.reduceAdd, Nat.reduceSub, Nat.reduceLeDiff, List.reduceReplicate, Int.reduceToNat]
end Lam
namespace Lam
set_option maxRecDepth 20000
open Go Go.Proofs
set_option linter.unusedVariables false
set_option linter.unnecessarySimpa false
set_option linter.unusedSimpArgs false
theorem and1 (t : Int) : andI .i64 t 1 = t % 2 := by
  unfold andI
  have e : (BitVec.ofInt IntKind.i64.bits t &&& BitVec.ofInt IntKind.i64.bits 1).toNat = (t % 2).toNat := by
    show (BitVec.ofInt 64 t &&& BitVec.ofInt 64 1).toNat = _
    rw [BitVec.toNat_and, BitVec.toNat_ofInt, show (BitVec.ofInt 64 1).toNat = 1 from rfl, Nat.and_one_is_mod]
    omega
  rw [e, w64 (by omega) (by omega)]; omega
theorem tmod2 (t : Int) : t.tmod 2 = 0 ↔ t % 2 = 0 := by
  rcases Int.le_total 0 t with h | h
  · rw [Int.tmod_eq_emod_of_nonneg h]
  · have e : t = -(-t) := by omega
    have h1 : t.tmod 2 = -((-t).tmod 2) := by rw [← Int.neg_tmod, Int.neg_neg]
    rw [h1, Int.tmod_eq_emod_of_nonneg (by omega)]; omega
theorem downB_iff (t : Int) : downB t = !decide (t.tmod 2 = 0) := by
  unfold downB
  rw [and1, ← decide_not]
  refine decide_eq_decide.2 ?_
  rw [tmod2]; omega
def lamplighterref13_Begin.C : Contract
  | [.sl _ (.ints .i64 w), .int .i64 b] => some (false, pD (w.length ≤ 65536 ∧ i64s w) (beginV w b))
  | _ => none
set_option maxRecDepth 20000 in
theorem lamplighterref13_Begin.spec : FSpec Try.prog 26 lamplighterref13_Begin.C := by
  refine FSpec.of (ctx_ok (F := [(62, lamplighterref09_Read.C)]) (S := []) (by simpa using lamplighterref09_Read.spec) (by simp) lamplighterref13_Begin.loops) lamplighterref13_Begin.at lamplighterref13_Begin.nm lamplighterref13_Begin.bd ?_
  intro vs b S v news e hS
  unfold lamplighterref13_Begin.C at e
  split at e
  rotate_left
  · cases e
  cases e
  rw [lamplighterref13_Begin.eq]
  unfold lamplighterref13_Begin.H
  simp (maxSteps := 4000000) only [go_sem, Nat.reduceEqDiff, Nat.reduceLT, Nat.reduceAdd, Nat.reduceSub, Nat.reduceLeDiff, List.reduceReplicate, Int.reduceToNat, lamplighterref09_Read.C]
  rename_i w b
  unfold beginV beginO
  cases hn : nodeO w b with
  | none =>
    obtain ⟨e, he, hr⟩ := readV_no hn
    simp only [hr, zeroNd, he, decide_true, decide_false, joinW_eq, skZ, Sk.V, joinW_eq, guard_tt, guard_tf, guard_ft, guard_ff, Int.reduceEq, Int.reduceLT, Int.reduceLE, decide_false, decide_true, Bool.not_false, Bool.not_true, Bool.not_not, not_true_eq_false, not_false_eq_true, true_implies, false_implies, implies_true, and_true, true_and, reduceCtorEq, Bool.and_self, Bool.or_self, Bool.and_true, Bool.true_and, Bool.false_eq_true, if_true, if_false, go_sem, Nat.reduceEqDiff, Nat.reduceLT, Nat.reduceAdd, Nat.reduceSub, Nat.reduceLeDiff, List.reduceReplicate, Int.reduceToNat]
    exact ⟨hS, post_val rfl rfl⟩
  | some n =>
    have h0 := (nodeO_some hn).1
    obtain ⟨n1, n2, n3, n4, n5⟩ := n
    by_cases hb : 256 ≤ b
    · simp only [readV_so hn, hb, if_true, decide_true, joinW_eq, skZ, Sk.V, joinW_eq, guard_tt, guard_tf, guard_ft, guard_ff, Int.reduceEq, Int.reduceLT, Int.reduceLE, decide_false, decide_true, Bool.not_false, Bool.not_true, Bool.not_not, not_true_eq_false, not_false_eq_true, true_implies, false_implies, implies_true, and_true, true_and, reduceCtorEq, Bool.and_self, Bool.or_self, Bool.and_true, Bool.true_and, Bool.false_eq_true, if_true, if_false, go_sem, Nat.reduceEqDiff, Nat.reduceLT, Nat.reduceAdd, Nat.reduceSub, Nat.reduceLeDiff, List.reduceReplicate, Int.reduceToNat]
      exact ⟨hS, fun _ => post_val rfl rfl, fun h => absurd h (by omega)⟩
    · simp only [readV_so hn, hb, if_false, decide_false, joinW_eq, Sk.V, joinW_eq, guard_tt, guard_tf, guard_ft, guard_ff, Int.reduceEq, Int.reduceLT, Int.reduceLE, decide_false, decide_true, Bool.not_false, Bool.not_true, Bool.not_not, not_true_eq_false, not_false_eq_true, true_implies, false_implies, implies_true, and_true, true_and, reduceCtorEq, Bool.and_self, Bool.or_self, Bool.and_true, Bool.true_and, Bool.false_eq_true, if_true, if_false, go_sem, Nat.reduceEqDiff, Nat.reduceLT, Nat.reduceAdd, Nat.reduceSub, Nat.reduceLeDiff, List.reduceReplicate, Int.reduceToNat]
      have h1 := h0.2.2.1
      simp only at h1
      have ht : n2.tmod 2 = n2 % 2 := Int.tmod_eq_emod_of_nonneg h1
      have hd := downB_iff n2
      by_cases hm : n2.tmod 2 = 1
      · rw [hm] at hd
        simp only [hm, decide_true, hd, joinW_eq, guard_tt, guard_tf, guard_ft, guard_ff, Int.reduceEq, Int.reduceLT, Int.reduceLE, decide_false, decide_true, Bool.not_false, Bool.not_true, Bool.not_not, not_true_eq_false, not_false_eq_true, true_implies, false_implies, implies_true, and_true, true_and, reduceCtorEq, Bool.and_self, Bool.or_self, Bool.and_true, Bool.true_and, Bool.false_eq_true, if_true, if_false, go_sem, Nat.reduceEqDiff, Nat.reduceLT, Nat.reduceAdd, Nat.reduceSub, Nat.reduceLeDiff, List.reduceReplicate, Int.reduceToNat]
        exact ⟨hS, fun h => absurd h (by omega), fun _ => post_val rfl rfl⟩
      · have hz : n2.tmod 2 = 0 := by omega
        rw [hz] at hd
        simp only [hz, hd, joinW_eq, guard_tt, guard_tf, guard_ft, guard_ff, Int.reduceEq, Int.reduceLT, Int.reduceLE, decide_false, decide_true, Bool.not_false, Bool.not_true, Bool.not_not, not_true_eq_false, not_false_eq_true, true_implies, false_implies, implies_true, and_true, true_and, reduceCtorEq, Bool.and_self, Bool.or_self, Bool.and_true, Bool.true_and, Bool.false_eq_true, if_true, if_false, go_sem, Nat.reduceEqDiff, Nat.reduceLT, Nat.reduceAdd, Nat.reduceSub, Nat.reduceLeDiff, List.reduceReplicate, Int.reduceToNat]
        exact ⟨hS, fun h => absurd h (by omega), fun _ => post_val rfl rfl⟩
def lamplighterref13_Holds.C : Contract
  | [.sl _ (.ints .i64 w), .agg [.int .i64 b, .int .i64 t, .int .i64 _, .sl _ (.ints .i64 _), .bool _]] => some (false, pD (w.length ≤ 65536 ∧ i64s w) (.bool (holdsB w b t)))
  | _ => none
set_option maxRecDepth 20000 in
theorem lamplighterref13_Holds.spec : FSpec Try.prog 31 lamplighterref13_Holds.C := by
  refine FSpec.of (ctx_ok (F := [(62, lamplighterref09_Read.C)]) (S := []) (by simpa using lamplighterref09_Read.spec) (by simp) lamplighterref13_Holds.loops) lamplighterref13_Holds.at lamplighterref13_Holds.nm lamplighterref13_Holds.bd ?_
  intro vs b S v news e hS
  unfold lamplighterref13_Holds.C at e
  split at e
  rotate_left
  · cases e
  cases e
  rw [lamplighterref13_Holds.eq]
  unfold lamplighterref13_Holds.H
  simp (maxSteps := 4000000) only [go_sem, Nat.reduceEqDiff, Nat.reduceLT, Nat.reduceAdd, Nat.reduceSub, Nat.reduceLeDiff, List.reduceReplicate, Int.reduceToNat, lamplighterref09_Read.C]
  rename_i w b t _ _ _ _
  unfold holdsB
  cases hn : nodeO w b with
  | none =>
    obtain ⟨e, he, hr⟩ := readV_no hn
    simp only [hr, zeroNd, he, decide_true, decide_false, joinW_eq, joinW_eq, guard_tt, guard_tf, guard_ft, guard_ff, Int.reduceEq, Int.reduceLT, Int.reduceLE, decide_false, decide_true, Bool.not_false, Bool.not_true, Bool.not_not, not_true_eq_false, not_false_eq_true, true_implies, false_implies, implies_true, and_true, true_and, reduceCtorEq, Bool.and_self, Bool.or_self, Bool.and_true, Bool.true_and, Bool.false_eq_true, if_true, if_false, go_sem, Nat.reduceEqDiff, Nat.reduceLT, Nat.reduceAdd, Nat.reduceSub, Nat.reduceLeDiff, List.reduceReplicate, Int.reduceToNat]
    exact ⟨hS, post_val rfl rfl⟩
  | some n =>
    obtain ⟨n1, n2, n3, n4, n5⟩ := n
    simp only [readV_so hn, decide_true, joinW_eq, joinW_eq, guard_tt, guard_tf, guard_ft, guard_ff, Int.reduceEq, Int.reduceLT, Int.reduceLE, decide_false, decide_true, Bool.not_false, Bool.not_true, Bool.not_not, not_true_eq_false, not_false_eq_true, true_implies, false_implies, implies_true, and_true, true_and, reduceCtorEq, Bool.and_self, Bool.or_self, Bool.and_true, Bool.true_and, Bool.false_eq_true, if_true, if_false, go_sem, Nat.reduceEqDiff, Nat.reduceLT, Nat.reduceAdd, Nat.reduceSub, Nat.reduceLeDiff, List.reduceReplicate, Int.reduceToNat]
    exact ⟨hS, post_val rfl rfl⟩
theorem stepS_out {w : List Int} {b t a : Int} {l : List Int} (h : ¬ (InW w b ∧ 0 ≤ a ∧ a ≤ 12)) : stepS w ⟨b, t, a, l, false⟩ = ⟨b, t, a, l, false⟩ := by
  have hs : spotI w ⟨b, t, a, l, false⟩ < 0 := by
    unfold spotI
    split
    · rename_i hc
      simp only [Bool.and_eq_true, decide_eq_true_eq] at hc
      have hb : InW w b := ⟨hc.1.1, hc.1.2, hc.2⟩
      show placeI (16 * b) a < 0
      unfold placeI
      rw [if_neg]
      · decide
      · simp only [Bool.and_eq_true, decide_eq_true_eq]
        rintro ⟨⟨_, h1⟩, h2⟩
        exact h ⟨hb, h1, by omega⟩
    · decide
  unfold stepS
  rw [decide_eq_true hs]; rfl
def lamplighterref13_Step.C : Contract
  | [.sl _ (.ints .i64 w), .agg [.int .i64 b, .int .i64 t, .int .i64 a, .sl _ (.ints .i64 l), .bool o]] => some (false, pD (w.length ≤ 65536 ∧ l.length ≤ 65536) (stepS w ⟨b, t, a, l, o⟩).V)
  | _ => none
set_option maxRecDepth 20000 in
theorem lamplighterref13_Step.spec : FSpec Try.prog 29 lamplighterref13_Step.C := by
  refine FSpec.of (ctx_ok (F := []) (S := []) (by simp) (by simp) lamplighterref13_Step.loops) lamplighterref13_Step.at lamplighterref13_Step.nm lamplighterref13_Step.bd ?_
  intro vs b S v news e hS
  unfold lamplighterref13_Step.C at e
  split at e
  rotate_left
  · cases e
  cases e
  rw [lamplighterref13_Step.eq]
  unfold lamplighterref13_Step.H
  simp (maxSteps := 4000000) only [go_sem, Nat.reduceEqDiff, Nat.reduceLT, Nat.reduceAdd, Nat.reduceSub, Nat.reduceLeDiff, List.reduceReplicate, Int.reduceToNat]
  rename_i w b t a x l o
  obtain ⟨hw, hl⟩ := hS
  cases o with
  | true =>
    have e : stepS w ⟨b, t, a, l, true⟩ = ⟨b, t, a, l, true⟩ := stepS_over rfl
    simp only [e, Sk.V, joinW_eq, joinW_eq, guard_tt, guard_tf, guard_ft, guard_ff, Int.reduceEq, Int.reduceLT, Int.reduceLE, decide_false, decide_true, Bool.not_false, Bool.not_true, Bool.not_not, not_true_eq_false, not_false_eq_true, true_implies, false_implies, implies_true, and_true, true_and, reduceCtorEq, Bool.and_self, Bool.or_self, Bool.and_true, Bool.true_and, Bool.false_eq_true, if_true, if_false, go_sem, Nat.reduceEqDiff, Nat.reduceLT, Nat.reduceAdd, Nat.reduceSub, Nat.reduceLeDiff, List.reduceReplicate, Int.reduceToNat]
    exact post_val rfl rfl
  | false =>
    by_cases hin : InW w b ∧ 0 ≤ a ∧ a ≤ 12
    rotate_left
    · have e : stepS w ⟨b, t, a, l, false⟩ = ⟨b, t, a, l, false⟩ := stepS_out hin
      have hg : (decide (b < 0) || decide (255 < b) || decide ((w.length : Int) < IntKind.i64.wrap (IntKind.i64.wrap (16 * b) + 16)) || decide (a < 0) || decide (12 < a)) = true := by
        simp only [Bool.or_eq_true, decide_eq_true_eq]
        by_cases h0 : b < 0
        · simp [h0]
        · by_cases h1 : 255 < b
          · simp [h1]
          · rw [w64 (n := 16 * b) (by omega) (by omega), w64 (by omega) (by omega)]
            unfold InW at hin
            omega
      rw [e]
      simp only [Sk.V, joinW_eq, joinW_eq, guard_tt, guard_tf, guard_ft, guard_ff, Int.reduceEq, Int.reduceLT, Int.reduceLE, decide_false, decide_true, Bool.not_false, Bool.not_true, Bool.not_not, not_true_eq_false, not_false_eq_true, true_implies, false_implies, implies_true, and_true, true_and, reduceCtorEq, Bool.and_self, Bool.or_self, Bool.and_true, Bool.true_and, Bool.false_eq_true, if_true, if_false, go_sem, Nat.reduceEqDiff, Nat.reduceLT, Nat.reduceAdd, Nat.reduceSub, Nat.reduceLeDiff, List.reduceReplicate, Int.reduceToNat]
      refine ⟨fun _ => post_val rfl rfl, fun h => ?_⟩
      rw [hg] at h; cases h
    · obtain ⟨hb, ha0, ha12⟩ := hin
      obtain ⟨k, rfl⟩ := Int.eq_ofNat_of_zero_le ha0
      have hb' := hb
      unfold InW at hb'
      have e1 : IntKind.i64.wrap (16 * b) = 16 * b := w64 (by omega) (by omega)
      have e2 : IntKind.i64.wrap (16 * b + 16) = 16 * b + 16 := w64 (by omega) (by omega)
      have e3 : IntKind.i64.wrap (16 * b + 3) = 16 * b + 3 := w64 (by omega) (by omega)
      have e4 : IntKind.i64.wrap (16 * b + 3 + (k : Int)) = 16 * b + 3 + k := w64 (by omega) (by omega)
      have hg : (decide (b < 0) || decide (255 < b) || decide ((w.length : Int) < 16 * b + 16) || decide ((k : Int) < 0) || decide (12 < (k : Int))) = false := by
        simp only [Bool.or_eq_false_iff, decide_eq_false_iff_not]
        omega
      have hW : w.getD (16 * b + 3 + (k : Int)).toNat 0 = slotW w b k := by unfold slotW; congr 1; omega
      have hdn := downB_iff t
      simp only [e1, e2, e3, e4, hg, hW, joinW_eq, guard_tt, guard_tf, guard_ft, guard_ff, Int.reduceEq, Int.reduceLT, Int.reduceLE, decide_false, decide_true, Bool.not_false, Bool.not_true, Bool.not_not, not_true_eq_false, not_false_eq_true, true_implies, false_implies, implies_true, and_true, true_and, reduceCtorEq, Bool.and_self, Bool.or_self, Bool.and_true, Bool.true_and, Bool.false_eq_true, if_true, if_false, go_sem, Nat.reduceEqDiff, Nat.reduceLT, Nat.reduceAdd, Nat.reduceSub, Nat.reduceLeDiff, List.reduceReplicate, Int.reduceToNat]
      obtain ⟨W, hWW⟩ : ∃ W, slotW w b k = W := ⟨_, rfl⟩
      have el : l.length ≠ 0 → IntKind.i64.wrap ((l.length : Int) - 1) = ((l.length - 1 : Nat) : Int) := fun h => by rw [w64 (by omega) (by omega)]; omega
      have hC : (decide (0 < W) && (decide ((l.length : Int) = 0) || !decide (l.getD (IntKind.i64.wrap ((l.length : Int) - 1)).toNat 0 = W))) = decide (0 < W ∧ l.getLast? ≠ some W) := by
        have := last_getD l W
        rw [Bool.decide_and, ← this]
        congr 1
        by_cases h0 : l.length = 0
        · simp [h0]
        · rw [el h0, Int.toNat_natCast, show decide ((l.length : Int) = 0) = decide (l.length = 0) from decide_eq_decide.2 (by omega)]
      have hwl : ∀ c : Bool, (if c then stepS w ⟨b, t, k, l, false⟩ else stepS w ⟨b, t, k, l, false⟩) = stepS w ⟨b, t, k, l, false⟩ := fun c => by cases c <;> rfl
      have hsee : seeR l W = if decide (0 < W ∧ l.getLast? ≠ some W) = true then l ++ [W] else l := by unfold seeR; simp only [decide_eq_true_eq]
      rw [hWW]
      simp only [hC, joinW_eq, joinW_eq, guard_tt, guard_tf, guard_ft, guard_ff, Int.reduceEq, Int.reduceLT, Int.reduceLE, decide_false, decide_true, Bool.not_false, Bool.not_true, Bool.not_not, not_true_eq_false, not_false_eq_true, true_implies, false_implies, implies_true, and_true, true_and, reduceCtorEq, Bool.and_self, Bool.or_self, Bool.and_true, Bool.true_and, Bool.false_eq_true, if_true, if_false, go_sem, Nat.reduceEqDiff, Nat.reduceLT, Nat.reduceAdd, Nat.reduceSub, Nat.reduceLeDiff, List.reduceReplicate, Int.reduceToNat]
      refine ⟨⟨by omega, by omega⟩, by unfold roomy; omega, rfl, rfl, rfl, fun _ h0 => by rw [el (by omega)]; omega, ?_⟩
      have hll : (l ++ [W]).length = l.length + 1 := by simp
      by_cases hC1 : 0 < W ∧ ¬ l.getLast? = some W
      · have hs : seeR l W = l ++ [W] := by unfold seeR; rw [if_pos hC1]
        by_cases ht : t.tmod 2 = 0
        · rw [decide_eq_true ht] at hdn
          have hst := stepS_up (refs := l) hb (k := k) (by omega) hdn
          rw [hWW, hs] at hst
          by_cases h12 : k = 12
          · rw [if_pos (.inr h12)] at hst
            have d12 : (k : Int) = 12 := by omega
            rw [hst]
            simp only [hC1, ht, d12, Sk.V, not_true_eq_false, not_false_eq_true, decide_true, decide_false, false_implies, true_implies, joinW_eq, guard_tt, guard_tf, guard_ft, guard_ff, Int.reduceEq, Int.reduceLT, Int.reduceLE, decide_false, decide_true, Bool.not_false, Bool.not_true, Bool.not_not, not_true_eq_false, not_false_eq_true, true_implies, false_implies, implies_true, and_true, true_and, reduceCtorEq, Bool.and_self, Bool.or_self, Bool.and_true, Bool.true_and, Bool.false_eq_true, if_true, if_false, go_sem, Nat.reduceEqDiff, Nat.reduceLT, Nat.reduceAdd, Nat.reduceSub, Nat.reduceLeDiff, List.reduceReplicate, Int.reduceToNat]
            refine ⟨by unfold roomy; rw [hll]; omega, post_val ?_ rfl⟩
            simp only [go_sem, Nat.reduceEqDiff, Nat.reduceLT, Nat.reduceAdd, Nat.reduceSub, Nat.reduceLeDiff, List.reduceReplicate, Int.reduceToNat]
          · have d12 : ¬ (k : Int) = 12 := by omega
            by_cases hW0 : W ≤ 0
            · rw [if_pos (.inl (by omega))] at hst
              rw [hst]
              simp only [hC1, ht, d12, hW0, Sk.V, not_true_eq_false, not_false_eq_true, decide_true, decide_false, false_implies, true_implies, joinW_eq, guard_tt, guard_tf, guard_ft, guard_ff, Int.reduceEq, Int.reduceLT, Int.reduceLE, decide_false, decide_true, Bool.not_false, Bool.not_true, Bool.not_not, not_true_eq_false, not_false_eq_true, true_implies, false_implies, implies_true, and_true, true_and, reduceCtorEq, Bool.and_self, Bool.or_self, Bool.and_true, Bool.true_and, Bool.false_eq_true, if_true, if_false, go_sem, Nat.reduceEqDiff, Nat.reduceLT, Nat.reduceAdd, Nat.reduceSub, Nat.reduceLeDiff, List.reduceReplicate, Int.reduceToNat]
              refine ⟨by unfold roomy; rw [hll]; omega, post_val ?_ rfl⟩
              simp only [go_sem, Nat.reduceEqDiff, Nat.reduceLT, Nat.reduceAdd, Nat.reduceSub, Nat.reduceLeDiff, List.reduceReplicate, Int.reduceToNat]
            · rw [if_neg (by omega)] at hst
              rw [hst]
              simp only [hC1, ht, d12, hW0, wnext (show k < 4611686018427387904 by omega), Sk.V, not_true_eq_false, not_false_eq_true, decide_true, decide_false, false_implies, true_implies, joinW_eq, guard_tt, guard_tf, guard_ft, guard_ff, Int.reduceEq, Int.reduceLT, Int.reduceLE, decide_false, decide_true, Bool.not_false, Bool.not_true, Bool.not_not, not_true_eq_false, not_false_eq_true, true_implies, false_implies, implies_true, and_true, true_and, reduceCtorEq, Bool.and_self, Bool.or_self, Bool.and_true, Bool.true_and, Bool.false_eq_true, if_true, if_false, go_sem, Nat.reduceEqDiff, Nat.reduceLT, Nat.reduceAdd, Nat.reduceSub, Nat.reduceLeDiff, List.reduceReplicate, Int.reduceToNat]
              refine ⟨by unfold roomy; rw [hll]; omega, post_val ?_ rfl⟩
              simp only [go_sem, Nat.reduceEqDiff, Nat.reduceLT, Nat.reduceAdd, Nat.reduceSub, Nat.reduceLeDiff, List.reduceReplicate, Int.reduceToNat]
        · rw [decide_eq_false ht] at hdn
          have hst := stepS_down (refs := l) hb (k := k) (by omega) hdn
          rw [hWW, hs] at hst
          by_cases hk0 : k = 0
          · rw [if_pos hk0] at hst
            have d0 : (k : Int) = 0 := by omega
            rw [hst]
            simp only [hC1, ht, d0, Sk.V, not_true_eq_false, not_false_eq_true, decide_true, decide_false, false_implies, true_implies, joinW_eq, guard_tt, guard_tf, guard_ft, guard_ff, Int.reduceEq, Int.reduceLT, Int.reduceLE, decide_false, decide_true, Bool.not_false, Bool.not_true, Bool.not_not, not_true_eq_false, not_false_eq_true, true_implies, false_implies, implies_true, and_true, true_and, reduceCtorEq, Bool.and_self, Bool.or_self, Bool.and_true, Bool.true_and, Bool.false_eq_true, if_true, if_false, go_sem, Nat.reduceEqDiff, Nat.reduceLT, Nat.reduceAdd, Nat.reduceSub, Nat.reduceLeDiff, List.reduceReplicate, Int.reduceToNat]
            refine ⟨by unfold roomy; rw [hll]; omega, post_val ?_ rfl⟩
            simp only [go_sem, Nat.reduceEqDiff, Nat.reduceLT, Nat.reduceAdd, Nat.reduceSub, Nat.reduceLeDiff, List.reduceReplicate, Int.reduceToNat]
          · rw [if_neg hk0] at hst
            have d0 : ¬ (k : Int) = 0 := by omega
            have ek : IntKind.i64.wrap ((k : Int) - 1) = ((k - 1 : Nat) : Int) := by rw [w64 (by omega) (by omega)]; omega
            rw [hst]
            simp only [hC1, ht, d0, ek, Sk.V, not_true_eq_false, not_false_eq_true, decide_true, decide_false, false_implies, true_implies, joinW_eq, guard_tt, guard_tf, guard_ft, guard_ff, Int.reduceEq, Int.reduceLT, Int.reduceLE, decide_false, decide_true, Bool.not_false, Bool.not_true, Bool.not_not, not_true_eq_false, not_false_eq_true, true_implies, false_implies, implies_true, and_true, true_and, reduceCtorEq, Bool.and_self, Bool.or_self, Bool.and_true, Bool.true_and, Bool.false_eq_true, if_true, if_false, go_sem, Nat.reduceEqDiff, Nat.reduceLT, Nat.reduceAdd, Nat.reduceSub, Nat.reduceLeDiff, List.reduceReplicate, Int.reduceToNat]
            refine ⟨by unfold roomy; rw [hll]; omega, post_val ?_ rfl⟩
            simp only [go_sem, Nat.reduceEqDiff, Nat.reduceLT, Nat.reduceAdd, Nat.reduceSub, Nat.reduceLeDiff, List.reduceReplicate, Int.reduceToNat]
      · have hs : seeR l W = l := by unfold seeR; rw [if_neg hC1]
        by_cases ht : t.tmod 2 = 0
        · rw [decide_eq_true ht] at hdn
          have hst := stepS_up (refs := l) hb (k := k) (by omega) hdn
          rw [hWW, hs] at hst
          by_cases h12 : k = 12
          · rw [if_pos (.inr h12)] at hst
            have d12 : (k : Int) = 12 := by omega
            rw [hst]
            simp only [hC1, ht, d12, Sk.V, not_true_eq_false, not_false_eq_true, decide_true, decide_false, false_implies, true_implies, joinW_eq, guard_tt, guard_tf, guard_ft, guard_ff, Int.reduceEq, Int.reduceLT, Int.reduceLE, decide_false, decide_true, Bool.not_false, Bool.not_true, Bool.not_not, not_true_eq_false, not_false_eq_true, true_implies, false_implies, implies_true, and_true, true_and, reduceCtorEq, Bool.and_self, Bool.or_self, Bool.and_true, Bool.true_and, Bool.false_eq_true, if_true, if_false, go_sem, Nat.reduceEqDiff, Nat.reduceLT, Nat.reduceAdd, Nat.reduceSub, Nat.reduceLeDiff, List.reduceReplicate, Int.reduceToNat]
            refine post_val ?_ rfl
            simp only [go_sem, Nat.reduceEqDiff, Nat.reduceLT, Nat.reduceAdd, Nat.reduceSub, Nat.reduceLeDiff, List.reduceReplicate, Int.reduceToNat]
          · have d12 : ¬ (k : Int) = 12 := by omega
            by_cases hW0 : W ≤ 0
            · rw [if_pos (.inl (by omega))] at hst
              rw [hst]
              simp only [hC1, ht, d12, hW0, Sk.V, not_true_eq_false, not_false_eq_true, decide_true, decide_false, false_implies, true_implies, joinW_eq, guard_tt, guard_tf, guard_ft, guard_ff, Int.reduceEq, Int.reduceLT, Int.reduceLE, decide_false, decide_true, Bool.not_false, Bool.not_true, Bool.not_not, not_true_eq_false, not_false_eq_true, true_implies, false_implies, implies_true, and_true, true_and, reduceCtorEq, Bool.and_self, Bool.or_self, Bool.and_true, Bool.true_and, Bool.false_eq_true, if_true, if_false, go_sem, Nat.reduceEqDiff, Nat.reduceLT, Nat.reduceAdd, Nat.reduceSub, Nat.reduceLeDiff, List.reduceReplicate, Int.reduceToNat]
              refine post_val ?_ rfl
              simp only [go_sem, Nat.reduceEqDiff, Nat.reduceLT, Nat.reduceAdd, Nat.reduceSub, Nat.reduceLeDiff, List.reduceReplicate, Int.reduceToNat]
            · rw [if_neg (by omega)] at hst
              rw [hst]
              simp only [hC1, ht, d12, hW0, wnext (show k < 4611686018427387904 by omega), Sk.V, not_true_eq_false, not_false_eq_true, decide_true, decide_false, false_implies, true_implies, joinW_eq, guard_tt, guard_tf, guard_ft, guard_ff, Int.reduceEq, Int.reduceLT, Int.reduceLE, decide_false, decide_true, Bool.not_false, Bool.not_true, Bool.not_not, not_true_eq_false, not_false_eq_true, true_implies, false_implies, implies_true, and_true, true_and, reduceCtorEq, Bool.and_self, Bool.or_self, Bool.and_true, Bool.true_and, Bool.false_eq_true, if_true, if_false, go_sem, Nat.reduceEqDiff, Nat.reduceLT, Nat.reduceAdd, Nat.reduceSub, Nat.reduceLeDiff, List.reduceReplicate, Int.reduceToNat]
              refine post_val ?_ rfl
              simp only [go_sem, Nat.reduceEqDiff, Nat.reduceLT, Nat.reduceAdd, Nat.reduceSub, Nat.reduceLeDiff, List.reduceReplicate, Int.reduceToNat]
        · rw [decide_eq_false ht] at hdn
          have hst := stepS_down (refs := l) hb (k := k) (by omega) hdn
          rw [hWW, hs] at hst
          by_cases hk0 : k = 0
          · rw [if_pos hk0] at hst
            have d0 : (k : Int) = 0 := by omega
            rw [hst]
            simp only [hC1, ht, d0, Sk.V, not_true_eq_false, not_false_eq_true, decide_true, decide_false, false_implies, true_implies, joinW_eq, guard_tt, guard_tf, guard_ft, guard_ff, Int.reduceEq, Int.reduceLT, Int.reduceLE, decide_false, decide_true, Bool.not_false, Bool.not_true, Bool.not_not, not_true_eq_false, not_false_eq_true, true_implies, false_implies, implies_true, and_true, true_and, reduceCtorEq, Bool.and_self, Bool.or_self, Bool.and_true, Bool.true_and, Bool.false_eq_true, if_true, if_false, go_sem, Nat.reduceEqDiff, Nat.reduceLT, Nat.reduceAdd, Nat.reduceSub, Nat.reduceLeDiff, List.reduceReplicate, Int.reduceToNat]
            refine post_val ?_ rfl
            simp only [go_sem, Nat.reduceEqDiff, Nat.reduceLT, Nat.reduceAdd, Nat.reduceSub, Nat.reduceLeDiff, List.reduceReplicate, Int.reduceToNat]
          · rw [if_neg hk0] at hst
            have d0 : ¬ (k : Int) = 0 := by omega
            have ek : IntKind.i64.wrap ((k : Int) - 1) = ((k - 1 : Nat) : Int) := by rw [w64 (by omega) (by omega)]; omega
            rw [hst]
            simp only [hC1, ht, d0, ek, Sk.V, not_true_eq_false, not_false_eq_true, decide_true, decide_false, false_implies, true_implies, joinW_eq, guard_tt, guard_tf, guard_ft, guard_ff, Int.reduceEq, Int.reduceLT, Int.reduceLE, decide_false, decide_true, Bool.not_false, Bool.not_true, Bool.not_not, not_true_eq_false, not_false_eq_true, true_implies, false_implies, implies_true, and_true, true_and, reduceCtorEq, Bool.and_self, Bool.or_self, Bool.and_true, Bool.true_and, Bool.false_eq_true, if_true, if_false, go_sem, Nat.reduceEqDiff, Nat.reduceLT, Nat.reduceAdd, Nat.reduceSub, Nat.reduceLeDiff, List.reduceReplicate, Int.reduceToNat]
            refine post_val ?_ rfl
            simp only [go_sem, Nat.reduceEqDiff, Nat.reduceLT, Nat.reduceAdd, Nat.reduceSub, Nat.reduceLeDiff, List.reduceReplicate, Int.reduceToNat]
end Lam
namespace Lam
set_option maxRecDepth 20000
open Go Go.Proofs
set_option linter.unusedVariables false
set_option linter.unnecessarySimpa false
set_option linter.unusedSimpArgs false
def lamplighterref13_Recs.C : Contract
  | [.sl _ (.recs a), .sl _ (.recs b)] => some (false, pD (roomy a.length ∧ a = b) (.bool true))
  | _ => none
set_option maxRecDepth 20000 in
theorem lamplighterref13_Recs.spec : FSpec Try.prog 32 lamplighterref13_Recs.C := by
  refine FSpec.of (ctx_ok (F := []) (S := []) (by simp) (by simp) lamplighterref13_Recs.loops) lamplighterref13_Recs.at lamplighterref13_Recs.nm lamplighterref13_Recs.bd ?_
  intro vs b S v news e hS
  unfold lamplighterref13_Recs.C at e
  split at e
  rotate_left
  · cases e
  cases e
  rw [lamplighterref13_Recs.eq]
  unfold lamplighterref13_Recs.H
  simp (maxSteps := 4000000) only [go_sem, Nat.reduceEqDiff, Nat.reduceLT, Nat.reduceAdd, Nat.reduceSub, Nat.reduceLeDiff, List.reduceReplicate, Int.reduceToNat]
  rename_i _ a _ b
  obtain ⟨hr, rfl⟩ := hS
  have hr' := hr
  unfold roomy at hr'
  simp only [decide_true, joinW_eq, joinW_eq, guard_tt, guard_tf, guard_ft, guard_ff, Int.reduceEq, Int.reduceLT, Int.reduceLE, decide_false, decide_true, Bool.not_false, Bool.not_true, Bool.not_not, not_true_eq_false, not_false_eq_true, true_implies, false_implies, implies_true, and_true, true_and, reduceCtorEq, Bool.and_self, Bool.or_self, Bool.and_true, Bool.true_and, Bool.false_eq_true, if_true, if_false, go_sem, Nat.reduceEqDiff, Nat.reduceLT, Nat.reduceAdd, Nat.reduceSub, Nat.reduceLeDiff, List.reduceReplicate, Int.reduceToNat]
  unfold lamplighterref13_Recs.L1
  refine loop1 (σ := Nat) (fun k => .int .i64 k) (fun k => []) (fun k => a.length - k) (fun k => k ≤ a.length) 0 rfl rfl (Nat.zero_le _) ?_
  rintro I back k hk
  by_cases hkl : k < a.length
  · have d1 : decide ((k : Int) < (a.length : Int)) = true := decide_eq_true (by omega)
    simp only [d1, joinW_eq, wnext (show k < 4611686018427387904 by omega), joinW_eq, guard_tt, guard_tf, guard_ft, guard_ff, Int.reduceEq, Int.reduceLT, Int.reduceLE, decide_false, decide_true, Bool.not_false, Bool.not_true, Bool.not_not, not_true_eq_false, not_false_eq_true, true_implies, false_implies, implies_true, and_true, true_and, reduceCtorEq, Bool.and_self, Bool.or_self, Bool.and_true, Bool.true_and, Bool.false_eq_true, if_true, if_false, go_sem, Nat.reduceEqDiff, Nat.reduceLT, Nat.reduceAdd, Nat.reduceSub, Nat.reduceLeDiff, List.reduceReplicate, Int.reduceToNat]
    exact ⟨⟨by omega, by omega⟩, ⟨by omega, by omega⟩, back (k + 1) (by omega) rfl rfl (by omega)⟩
  · have d1 : decide ((k : Int) < (a.length : Int)) = false := decide_eq_false (by omega)
    simp only [d1, joinW_eq, joinW_eq, guard_tt, guard_tf, guard_ft, guard_ff, Int.reduceEq, Int.reduceLT, Int.reduceLE, decide_false, decide_true, Bool.not_false, Bool.not_true, Bool.not_not, not_true_eq_false, not_false_eq_true, true_implies, false_implies, implies_true, and_true, true_and, reduceCtorEq, Bool.and_self, Bool.or_self, Bool.and_true, Bool.true_and, Bool.false_eq_true, if_true, if_false, go_sem, Nat.reduceEqDiff, Nat.reduceLT, Nat.reduceAdd, Nat.reduceSub, Nat.reduceLeDiff, List.reduceReplicate, Int.reduceToNat]
    exact post_val rfl rfl
/-- where a key stands, of the first so many -/
def posK (out : List RecT) (key : Bytes) : Nat → Nat
  | 0 => 0
  | k + 1 => if ltB (kyL out k) key = true then k + 1 else posK out key k
def hasK (out : List RecT) (key : Bytes) : Nat → Bool
  | 0 => false
  | k + 1 => if kyL out k = key then true else hasK out key k
theorem posK_le (out : List RecT) (key : Bytes) : ∀ k, posK out key k ≤ k
  | 0 => Nat.le_refl _
  | k + 1 => by
    unfold posK
    have := posK_le out key k
    split <;> omega
theorem hasK_iff {out : List RecT} {key : Bytes} : ∀ {k}, k ≤ out.length → (hasK out key k = true ↔ ∃ i, i < k ∧ kyL out i = key)
  | 0, _ => ⟨(fun h => by cases h), fun ⟨i, h, _⟩ => by omega⟩
  | k + 1, hk => by
    unfold hasK
    by_cases h : kyL out k = key
    · rw [if_pos h]; exact ⟨fun _ => ⟨k, by omega, h⟩, fun _ => rfl⟩
    · rw [if_neg h, hasK_iff (by omega)]
      refine ⟨fun ⟨i, h1, h2⟩ => ⟨i, by omega, h2⟩, fun ⟨i, h1, h2⟩ => ?_⟩
      by_cases e : i = k
      · subst e; exact absurd h2 h
      · exact ⟨i, by omega, h2⟩
theorem hasK_mem {out : List RecT} {key : Bytes} : hasK out key out.length = decide (key ∈ out.map (·.key)) := by
  rw [Bool.eq_iff_iff, hasK_iff (Nat.le_refl _), decide_eq_true_iff, List.mem_map]
  constructor
  · rintro ⟨i, h1, h2⟩
    refine ⟨out.getD i d0, ?_, h2⟩
    rw [List.getD_eq_getElem?_getD, List.getElem?_eq_getElem h1]; exact List.getElem_mem h1
  · rintro ⟨x, h1, h2⟩
    obtain ⟨i, h3, h4⟩ := List.getElem_of_mem h1
    refine ⟨i, h3, ?_⟩
    unfold kyL
    rw [List.getD_eq_getElem?_getD, List.getElem?_eq_getElem h3, Option.getD_some, h4]; exact h2
theorem rises_lt {out : List RecT} (h : out.Pairwise ltR) {i j : Nat} (hij : i < j) (hj : j < out.length) : ltB (kyL out i) (kyL out j) = true := by
  have := List.pairwise_iff_getElem.1 h i j (by omega) hj hij
  unfold kyL
  rw [List.getD_eq_getElem?_getD, List.getD_eq_getElem?_getD, List.getElem?_eq_getElem (by omega), List.getElem?_eq_getElem hj]
  exact this
theorem posK_below {out : List RecT} {key : Bytes} (h : out.Pairwise ltR) : ∀ {k i}, k ≤ out.length → i < posK out key k → ltB (kyL out i) key = true
  | 0, i, _, hi => by unfold posK at hi; omega
  | k + 1, i, hk, hi => by
    unfold posK at hi
    split at hi
    · rename_i hc
      by_cases e : i = k
      · subst e; exact hc
      · exact ltB_trans (rises_lt h (by omega) (by omega)) hc
    · exact posK_below h (by omega) hi
theorem posK_above {out : List RecT} {key : Bytes} : ∀ {k i}, posK out key k ≤ i → i < k → ltB (kyL out i) key = false
  | 0, i, _, hi => by omega
  | k + 1, i, h, hi => by
    unfold posK at h
    split at h
    · omega
    · rename_i hc
      by_cases e : i = k
      · subst e; simpa using hc
      · exact posK_above h (by omega)
theorem insR_at {x : RecT} : ∀ {out : List RecT} {p : Nat}, p ≤ out.length → (∀ i, i < p → ltB (kyL out i) x.key = true) → (∀ i, p ≤ i → i < out.length → ltB x.key (kyL out i) = true) → insR x out = out.take p ++ x :: out.drop p
  | [], p, hp, _, _ => by simp [insR]
  | y :: out, 0, _, _, h2 => by
    have := h2 0 (Nat.le_refl _) (by simp)
    unfold insR
    rw [if_pos (show ltB x.key y.key = true from this)]; rfl
  | y :: out, p + 1, hp, h1, h2 => by
    have h0 := h1 0 (by omega)
    have hn : ¬ ltB x.key y.key = true := fun h => by
      have := ltB_trans (show ltB y.key x.key = true from h0) h
      rw [ltB_self] at this; cases this
    unfold insR
    rw [if_neg hn, insR_at (out := out) (p := p) (by simp at hp; omega) (fun i hi => h1 (i + 1) (by omega)) (fun i q1 q2 => h2 (i + 1) (by omega) (by simp; omega))]
    rfl
theorem insR_pos {x : RecT} {out : List RecT} (h : out.Pairwise ltR) (hx : x.key ∉ out.map (·.key)) : insR x out = out.take (posK out x.key out.length) ++ x :: out.drop (posK out x.key out.length) := by
  refine insR_at (posK_le _ _ _) (fun i hi => posK_below h (Nat.le_refl _) hi) fun i q1 q2 => ?_
  have h1 := posK_above (out := out) (key := x.key) q1 q2
  refine lt_of_le_ne h1 fun e => hx ?_
  rw [e]
  refine List.mem_map.2 ⟨out.getD i d0, ?_, rfl⟩
  rw [List.getD_eq_getElem?_getD, List.getElem?_eq_getElem q2]; exact List.getElem_mem q2
/-- what is hit, in order at once -/
def hitR (w : List Int) (out : List RecT) (r : Int) : List RecT := match recO w r with
  | none => out
  | some x => if x.key ∈ out.map (·.key) then out else insR (rcT x) out
theorem hitR_rises {w : List Int} {out : List RecT} {r : Int} (h : out.Pairwise ltR) : (hitR w out r).Pairwise ltR := by
  unfold hitR
  split
  · exact h
  · split
    · exact h
    · rename_i x _ hx
      refine insR_rises h fun y hy he => hx ?_
      show (rcT x).key ∈ _
      rw [← he]
      exact List.mem_map_of_mem (f := (·.key)) hy
theorem hitR_perm {w : List Int} {out out' : List RecT} {r : Int} (h : out.Perm out') : (hitR w out r).Perm (hitS w out' r) := by
  have hm : ∀ k : Bytes, k ∈ out.map (·.key) ↔ k ∈ out'.map (·.key) := fun k => (h.map _).mem_iff
  unfold hitR hitS
  cases recO w r with
  | none => exact h
  | some x =>
    simp only
    by_cases hx : x.key ∈ out.map (·.key)
    · rw [if_pos hx, if_pos ((hm _).1 hx)]; exact h
    · rw [if_neg hx, if_neg (fun h' => hx ((hm _).2 h'))]
      exact (insR_perm _ _).trans ((h.cons _).trans (List.perm_append_comm (l₁ := [rcT x]) (l₂ := out')))
theorem hitsR_fold {w : List Int} : ∀ (refs : List Int) {out out' : List RecT}, out.Pairwise ltR → out.Perm out' → (refs.foldl (hitR w) out).Pairwise ltR ∧ (refs.foldl (hitR w) out).Perm (refs.foldl (hitS w) out')
  | [], _, _, h, p => ⟨h, p⟩
  | r :: refs, _, _, h, p => hitsR_fold refs (hitR_rises h) (hitR_perm p)
theorem hitsR_is (w refs : List Int) : refs.foldl (hitR w) [] = sortR (hitsOf w refs) := by
  obtain ⟨h1, h2⟩ := hitsR_fold (w := w) refs (out := []) (out' := []) List.Pairwise.nil (.refl _)
  have hnd : ((hitsOf w refs).map (·.key)).Nodup := (hits_fold (w := w) (refs := refs) (out := []) (by simp)).1
  exact rises_eq h1 (sortR_rises hnd) (h2.trans (sortR_perm _).symm)
def lamplighterref13_Hits.C : Contract
  | [.sl _ (.ints .i64 w), .agg [.int .i64 b, .int .i64 t, .int .i64 a, .sl _ (.ints .i64 l), .bool o]] => some (false, pD (w.length ≤ 65536 ∧ i64s w ∧ l.length ≤ 200) (.sl false (.recs (sortR (hitsOf w l)))))
  | _ => none
set_option maxRecDepth 20000 in
theorem lamplighterref13_Hits.spec : FSpec Try.prog 34 lamplighterref13_Hits.C := by
  refine FSpec.of (ctx_ok (F := [(70, lamplighterref07_Read.C)]) (S := []) (by simpa using lamplighterref07_Read.spec) (by simp) lamplighterref13_Hits.loops) lamplighterref13_Hits.at lamplighterref13_Hits.nm lamplighterref13_Hits.bd ?_
  intro vs b S v news e hS
  unfold lamplighterref13_Hits.C at e
  split at e
  rotate_left
  · cases e
  cases e
  rw [lamplighterref13_Hits.eq]
  unfold lamplighterref13_Hits.H
  simp (maxSteps := 4000000) only [go_sem, Nat.reduceEqDiff, Nat.reduceLT, Nat.reduceAdd, Nat.reduceSub, Nat.reduceLeDiff, List.reduceReplicate, Int.reduceToNat, lamplighterref07_Read.C]
  rename_i w b t a x l o
  obtain ⟨hw, hi, hl⟩ := hS
  rw [← hitsR_is]
  simp only [joinW_eq, joinW_eq, guard_tt, guard_tf, guard_ft, guard_ff, Int.reduceEq, Int.reduceLT, Int.reduceLE, decide_false, decide_true, Bool.not_false, Bool.not_true, Bool.not_not, not_true_eq_false, not_false_eq_true, true_implies, false_implies, implies_true, and_true, true_and, reduceCtorEq, Bool.and_self, Bool.or_self, Bool.and_true, Bool.true_and, Bool.false_eq_true, if_true, if_false, go_sem, Nat.reduceEqDiff, Nat.reduceLT, Nat.reduceAdd, Nat.reduceSub, Nat.reduceLeDiff, List.reduceReplicate, Int.reduceToNat]
  unfold lamplighterref13_Hits.L1
  refine loop2 (σ := Nat) (fun s => .sl false (.recs ((l.take s).foldl (hitR w) []))) (fun s => .int .i64 s) (fun s => [.box (.agg [.int .i64 b, .int .i64 t, .int .i64 a, .sl false (.ints .i64 l), .bool o])]) (fun s => l.length - s) (fun s => s ≤ l.length) 0 rfl rfl (Nat.zero_le _) ?_
  rintro I back k hk
  have hnext : k < l.length → (l.take (k + 1)).foldl (hitR w) [] = hitR w ((l.take k).foldl (hitR w) []) (l.getD k 0) := fun h => by
    rw [take_next l k 0 h, List.foldl_append]; rfl
  obtain ⟨hrs, hpm⟩ := hitsR_fold (w := w) (l.take k) (out := []) (out' := []) List.Pairwise.nil (.refl _)
  have hol : ((l.take k).foldl (hitR w) []).length ≤ k := by
    have h1 := (hits_fold (w := w) (refs := l.take k) (out := []) (by simp)).2
    rw [← hpm.length_eq, List.length_take] at h1
    simp only [List.length_nil] at h1
    omega
  by_cases hlt : k < l.length
  · have hb : ∀ (n : Nat) (lv : List AV) (h : List AObj), _ := fun n lv h => @back n lv h (k + 1)
    simp only [hnext hlt] at hb
    clear back hnext
    generalize (l.take k).foldl (hitR w) [] = out at *
    have d1 : decide ((k : Int) < (l.length : Int)) = true := decide_eq_true (by omega)
    cases hx : recO w (l.getD k 0) with
    | none =>
      obtain ⟨e, he, hr⟩ := rreadV_no hx
      have hs : hitR w out (l.getD k 0) = out := by unfold hitR; rw [hx]
      rw [hs] at hb
      simp only [lamplighterref07_Read.C, d1, hr, zeroRc, he, decide_false, joinW_eq, wnext (show k < 4611686018427387904 by omega), joinW_eq, guard_tt, guard_tf, guard_ft, guard_ff, Int.reduceEq, Int.reduceLT, Int.reduceLE, decide_false, decide_true, Bool.not_false, Bool.not_true, Bool.not_not, not_true_eq_false, not_false_eq_true, true_implies, false_implies, implies_true, and_true, true_and, reduceCtorEq, Bool.and_self, Bool.or_self, Bool.and_true, Bool.true_and, Bool.false_eq_true, if_true, if_false, go_sem, Nat.reduceEqDiff, Nat.reduceLT, Nat.reduceAdd, Nat.reduceSub, Nat.reduceLeDiff, List.reduceReplicate, Int.reduceToNat]
      exact ⟨⟨by omega, by omega⟩, ⟨hw, hi⟩, hb _ _ _ (by omega) rfl rfl (by omega)⟩
    | some y =>
      obtain ⟨y1, y2, y3, y4⟩ := y
      simp only [lamplighterref07_Read.C, d1, rreadV_so hx, decide_false, decide_true, joinW_eq, wnext (show k < 4611686018427387904 by omega), joinW_eq, guard_tt, guard_tf, guard_ft, guard_ff, Int.reduceEq, Int.reduceLT, Int.reduceLE, decide_false, decide_true, Bool.not_false, Bool.not_true, Bool.not_not, not_true_eq_false, not_false_eq_true, true_implies, false_implies, implies_true, and_true, true_and, reduceCtorEq, Bool.and_self, Bool.or_self, Bool.and_true, Bool.true_and, Bool.false_eq_true, if_true, if_false, go_sem, Nat.reduceEqDiff, Nat.reduceLT, Nat.reduceAdd, Nat.reduceSub, Nat.reduceLeDiff, List.reduceReplicate, Int.reduceToNat]
      refine ⟨⟨by omega, by omega⟩, ⟨hw, hi⟩, ?_⟩
      unfold lamplighterref13_Hits.L2
      refine loop3 (σ := Nat) (fun j => .int .i64 (posK out y2 j)) (fun j => .bool (hasK out y2 j)) (fun j => .int .i64 j) (fun s => [.box (.agg [.int .i64 b, .int .i64 t, .int .i64 a, .sl false (.ints .i64 l), .bool o]), .box (.agg [.int .i64 y1, .str y2, .str y3, .int .i64 y4])]) (fun j => out.length - j) (fun j => j ≤ out.length) 0 rfl rfl (Nat.zero_le _) ?_
      rintro I2 back2 j hj
      by_cases hjl : j < out.length
      · have hb2 := @back2 (out.length - j) [.int .i64 (posK out y2 (j + 1)), .bool (hasK out y2 (j + 1)), .int .i64 ((j + 1 : Nat) : Int)] [.box (.agg [.int .i64 b, .int .i64 t, .int .i64 a, .sl false (.ints .i64 l), .bool o]), .box (.agg [.int .i64 y1, .str y2, .str y3, .int .i64 y4])] (j + 1) (by omega) rfl rfl (by omega)
        unfold posK hasK at hb2
        have d2 : decide ((j : Int) < (out.length : Int)) = true := decide_eq_true (by omega)
        simp only [d2, joinW_eq, wnext (show j < 4611686018427387904 by omega), d0_def, kyL_def, Int.toNat_natCast, joinW_eq, guard_tt, guard_tf, guard_ft, guard_ff, Int.reduceEq, Int.reduceLT, Int.reduceLE, decide_false, decide_true, Bool.not_false, Bool.not_true, Bool.not_not, not_true_eq_false, not_false_eq_true, true_implies, false_implies, implies_true, and_true, true_and, reduceCtorEq, Bool.and_self, Bool.or_self, Bool.and_true, Bool.true_and, Bool.false_eq_true, if_true, if_false, go_sem, Nat.reduceEqDiff, Nat.reduceLT, Nat.reduceAdd, Nat.reduceSub, Nat.reduceLeDiff, List.reduceReplicate, Int.reduceToNat]
        refine ⟨⟨by omega, by omega⟩, fun h1 => ⟨⟨by omega, by omega⟩, fun h2 => ?_, fun h2 => ?_⟩, fun h1 => ⟨⟨by omega, by omega⟩, fun h2 => ?_, fun h2 => ?_⟩⟩
        · rw [if_pos h2, if_pos h1] at hb2; exact hb2
        · rw [if_neg (by rw [h2]; decide), if_pos h1] at hb2; exact hb2
        · rw [if_pos h2, if_neg h1] at hb2; exact hb2
        · rw [if_neg (by rw [h2]; decide), if_neg h1] at hb2; exact hb2
      · obtain rfl : j = out.length := by omega
        have d2 : decide ((out.length : Int) < (out.length : Int)) = false := decide_eq_false (by omega)
        clear back2
        have hhk := hasK_mem (out := out) (key := y2)
        have hple := posK_le out y2 out.length
        simp only [d2, hhk, joinW_eq, wnext (show k < 4611686018427387904 by omega), joinW_eq, guard_tt, guard_tf, guard_ft, guard_ff, Int.reduceEq, Int.reduceLT, Int.reduceLE, decide_false, decide_true, Bool.not_false, Bool.not_true, Bool.not_not, not_true_eq_false, not_false_eq_true, true_implies, false_implies, implies_true, and_true, true_and, reduceCtorEq, Bool.and_self, Bool.or_self, Bool.and_true, Bool.true_and, Bool.false_eq_true, if_true, if_false, go_sem, Nat.reduceEqDiff, Nat.reduceLT, Nat.reduceAdd, Nat.reduceSub, Nat.reduceLeDiff, List.reduceReplicate, Int.reduceToNat]
        refine ⟨fun hno => ?_, fun hyes => ?_⟩
        · have hs : hitR w out (l.getD k 0) = insR ⟨y1, y2, y3, y4⟩ out := by
            unfold hitR; rw [hx]; exact if_neg hno
          rw [hs, insR_pos (x := ⟨y1, y2, y3, y4⟩) hrs hno] at hb
          simp only at hb
          generalize posK out y2 out.length = p at *
          rw [take_len (out.drop p) (by simp)]
          refine ⟨⟨by omega, by omega⟩, by unfold roomy; rw [List.length_take]; omega, by unfold roomy; rw [List.length_append, List.length_take]; simp only [List.length_cons, List.length_nil]; omega, ⟨by omega, by omega⟩, by unfold roomy; rw [List.length_append, List.length_take, List.length_cons, List.length_drop]; omega, rfl, rfl, rfl, hb _ _ _ (by omega) rfl rfl (by omega)⟩
        · have hs : hitR w out (l.getD k 0) = out := by
            unfold hitR; rw [hx]; exact if_pos hyes
          rw [hs] at hb
          exact hb _ _ _ (by omega) rfl rfl (by omega)
  · obtain rfl : k = l.length := by omega
    have d1 : decide ((l.length : Int) < (l.length : Int)) = false := decide_eq_false (by omega)
    rw [List.take_length] at hol ⊢
    clear back hnext
    simp only [d1, joinW_eq, joinW_eq, guard_tt, guard_tf, guard_ft, guard_ff, Int.reduceEq, Int.reduceLT, Int.reduceLE, decide_false, decide_true, Bool.not_false, Bool.not_true, Bool.not_not, not_true_eq_false, not_false_eq_true, true_implies, false_implies, implies_true, and_true, true_and, reduceCtorEq, Bool.and_self, Bool.or_self, Bool.and_true, Bool.true_and, Bool.false_eq_true, if_true, if_false, go_sem, Nat.reduceEqDiff, Nat.reduceLT, Nat.reduceAdd, Nat.reduceSub, Nat.reduceLeDiff, List.reduceReplicate, Int.reduceToNat]
    exact post_val rfl rfl
end Lam
namespace Lam
open Go Go.Proofs
set_option linter.unusedVariables false
def lamplighterlaw13_awake.loops : Nat → LInfo
  | 4 => ⟨[5], [false], [1, 3, 4], [], [], []⟩
  | 10 => ⟨[], [], [], [(3, none), (2, some [45, 47]), (2, none), (4, some [49, 53]), (2, none), (2, some [55, 57]), (2, none), (3, some [59, 62]), (2, none), (5, some [64, 69]), (2, none), (3, some [71, 74]), (2, none), (4, some [76, 80])], [], []⟩
  | _ => ⟨[], [], [], [], [], []⟩
def lamplighterlaw13_awake.L1 (c : Ctx) (J1 : AV → AV → AV → List AObj → Prop) (K : AOut → List AObj → Prop) (lv : List AV) (h0 : List AObj) (n0 : Nat) (c1 : AV) (c3 : AV) (c4 : AV) : Prop :=
  ∃ I : Nat → List AV → List AObj → Prop, (∃ n, I n lv h0) ∧ ∀ n h, ∀ t5, I n [t5] h →
    runD (binD T_int .lss t5 (.int .i64 13)) h fun t23 h =>
    condW t23
    (runD (fitD T_api_Seek (loadD h c3)) h fun t27 h =>
    callW false c (.fn (.func 28) [] []) [c1, t27] h (fun t28 h =>
    runH (storeH T_api_Seek h c3 t28) h fun _ h =>
    runD (binD T_int .add t5 (.int .i64 1)) h fun t25 h =>
    (∃ m, m < n ∧ I m (AV.norms n0 h [t25]) (normH n0 h)) ∧ AV.norms n0 h [c1, c3, c4] = [c1, c3, c4])
    (fun v h => K (.pan v) h))
    (J1 c1 c3 c4 h)
def lamplighterlaw13_awake.H (c : Ctx) (h : List AObj) (K : AOut → List AObj → Prop) : Prop :=
  runD (buildSliceD T_sl_int 3 [(0, (.int .i64 5)), (1, (.int .i64 5)), (2, (.int .i64 6))] h.length) h fun t12 h =>
  runD (buildD T_api_Node [(1, (.int .i64 1)), (4, t12)]) h fun t13 h =>
  callW false c (.fn (.func 35) [] []) [t13] h (fun t14 h =>
  runD (extractD t14 0) h fun t15 h =>
  runD (extractD t14 1) h fun t16 h =>
  callW false c (.fn (.func 25) [] []) [t15, (.int .i64 0)] h (fun t19 h =>
  runD (extractD t19 0) h fun t20 h =>
  runD (extractD t19 1) h fun t21 h =>
  allocW T_api_Seek h fun t3 h =>
  runH (storeH T_api_Seek h t3 t20) h fun _ h =>
  joinW (fun (J1 : AV → AV → AV → List AObj → Prop) =>
  promV [false] [(.int .i64 0)] h fun lv h => lamplighterlaw13_awake.L1 c J1 K (AV.norms h.length h lv) (normH h.length h) h.length (AV.norm h.length h t15) (AV.norm h.length h t3) (AV.norm h.length h t21))
  (fun t1 t3 t4 h => callW false c (.fn (.func 25) [] []) [t1, (.int .i64 1)] h (fun t31 h =>
  runD (extractD t31 0) h fun t32 h =>
  runD (extractD t31 1) h fun t33 h =>
  allocW T_api_Seek h fun t6 h =>
  runH (storeH T_api_Seek h t6 t32) h fun _ h =>
  runD (buildD T_api_Rec [(0, (.int .i64 1)), (1, (.str [97]))]) h fun t35 h =>
  callW false c (.fn (.func 60) [] []) [t35] h (fun t36 h =>
  runD (extractD t36 0) h fun t37 h =>
  runD (extractD t36 1) h fun t38 h =>
  runD (buildSliceD T_sl_int 3 [(0, (.int .i64 0)), (1, (.int .i64 1)), (2, (.int .i64 0))] h.length) h fun t40 h =>
  runD (buildD T_api_Seek [(3, t40)]) h fun t41 h =>
  callW false c (.fn (.func 33) [] []) [t37, t41] h (fun t42 h =>
  runD (binD T_api_Errno .eql t4 (.int .i64 0)) h fun t44 h =>
  joinW (fun (J2 : AV → AV → List AObj → Prop) =>
  guardW t44 true
  (runD (fieldAddrD T_api_Seek t3 4) h fun t46 h =>
    runD (fitD T_bool (loadD h t46)) h fun t47 h =>
    J2 (.bool true) t47 h)
  (J2 (.bool false) .und h))
  (fun t45 t47 h => runD (pickD t45 t47 (.bool false)) h fun t48 h =>
  joinW (fun (J3 : AV → AV → List AObj → Prop) =>
  guardW t48 true
  (runD (fieldAddrD T_api_Seek t3 3) h fun t50 h =>
    runD (fitD T_sl_int (loadD h t50)) h fun t51 h =>
    runD (buildSliceD T_sl_int 2 [(0, (.int .i64 6)), (1, (.int .i64 5))] h.length) h fun t52 h =>
    callW false c (.fn (.func 20) [] []) [t51, t52] h (fun t53 h =>
    J3 (.bool true) t53 h)
    (fun v h => K (.pan v) h))
  (J3 (.bool false) .und h))
  (fun t49 t53 h => runD (pickD t49 t53 (.bool false)) h fun t54 h =>
  joinW (fun (J4 : AV → AV → List AObj → Prop) =>
  guardW t54 true
  (runD (binD T_api_Errno .eql t33 (.int .i64 90)) h fun t57 h =>
    J4 (.bool true) t57 h)
  (J4 (.bool false) .und h))
  (fun t55 t57 h => runD (pickD t55 t57 (.bool false)) h fun t58 h =>
  joinW (fun (J5 : AV → AV → List AObj → Prop) =>
  guardW t58 true
  (runD (lenD T_sl_api_Rec h t42) h fun t61 h =>
    runD (binD T_int .eql t61 (.int .i64 1)) h fun t62 h =>
    J5 (.bool true) t62 h)
  (J5 (.bool false) .und h))
  (fun t59 t62 h => runD (pickD t59 t62 (.bool false)) h fun t63 h =>
  joinW (fun (J6 : AV → AV → List AObj → Prop) =>
  guardW t63 true
  (runD (indexAddrD T_sl_api_Rec h t42 (.int .i64 0)) h fun t66 h =>
    runD (fieldAddrD T_api_Rec t66 1) h fun t67 h =>
    runD (fitD T_string (loadD h t67)) h fun t68 h =>
    runD (binD T_string .eql t68 (.str [97])) h fun t69 h =>
    J6 (.bool true) t69 h)
  (J6 (.bool false) .und h))
  (fun t64 t69 h => runD (pickD t64 t69 (.bool false)) h fun t70 h =>
  joinW (fun (J7 : AV → AV → List AObj → Prop) =>
  guardW t70 true
  (runD (fitD T_api_Seek (loadD h t3)) h fun t73 h =>
    callW false c (.fn (.func 30) [] []) [t1, t73] h (fun t74 h =>
    J7 (.bool true) t74 h)
    (fun v h => K (.pan v) h))
  (J7 (.bool false) .und h))
  (fun t71 t74 h => runD (pickD t71 t74 (.bool false)) h fun t75 h =>
  joinW (fun (J8 : AV → AV → List AObj → Prop) =>
  guardW t75 true
  (runD (buildD T_api_Seek []) h fun t78 h =>
    callW false c (.fn (.func 30) [] []) [t1, t78] h (fun t79 h =>
    runD (unD .not t79) h fun t80 h =>
    J8 (.bool true) t80 h)
    (fun v h => K (.pan v) h))
  (J8 (.bool false) .und h))
  (fun t76 t80 h => runD (pickD t76 t80 (.bool false)) h fun t81 h =>
  K (.ret t81) h))))))))
  (fun v h => K (.pan v) h))
  (fun v h => K (.pan v) h))
  (fun v h => K (.pan v) h)))
  (fun v h => K (.pan v) h))
  (fun v h => K (.pan v) h)
theorem lamplighterlaw13_awake.eq (F : List (FuncId × Contract)) (S : List (FuncId × Con)) (h : List AObj) (K : AOut → List AObj → Prop) : funW (ctx F S lamplighterlaw13_awake.loops) Try.f24 [] h K = lamplighterlaw13_awake.H (ctx F S lamplighterlaw13_awake.loops)  h K := by kernel_rfl
theorem lamplighterlaw13_awake.at : Try.prog.funcs[24]? = some Try.f24 := by kernel_rfl
theorem lamplighterlaw13_awake.nm : (Try.f24.name == "runtime.NumGoroutine") = false := by kernel_rfl
theorem lamplighterlaw13_awake.bd : Try.f24.body.isNone = false := by kernel_rfl
end Lam
namespace Lam
set_option maxRecDepth 20000
open Go Go.Proofs
set_option linter.unusedVariables false
set_option linter.unnecessarySimpa false
set_option linter.unusedSimpArgs false
def N13 : List Int := wordsNd ⟨0, 1, 0, 0, [5, 5, 6]⟩
def A13 : List Int := formR ⟨1, [97], [], 0⟩
def stepsN (w : List Int) (s : Sk) : Nat → Sk
  | 0 => s
  | k + 1 => stepS w (stepsN w s k)
def s13 : Sk := ⟨0, 1, 12, [], false⟩
theorem stepS_len (w : List Int) (s : Sk) : (stepS w s).refs.length ≤ s.refs.length + 1 := by
  unfold stepS
  split
  · omega
  · unfold goOn
    simp only
    split
    · simp
    · omega
theorem stepsN_len (w : List Int) (s : Sk) : ∀ k, (stepsN w s k).refs.length ≤ s.refs.length + k
  | 0 => Nat.le_refl _
  | k + 1 => by
    have := stepsN_len w s k
    have := stepS_len w (stepsN w s k)
    unfold stepsN
    omega
theorem aw13_0 : wordsV ⟨0, 1, 0, 0, [5, 5, 6]⟩ = .tup [.sl false (.ints .i64 N13), .int .i64 0] := by unfold wordsV; rw [if_pos (by decide +kernel)]; rfl
theorem aw13_1 : beginV N13 0 = .tup [s13.V, .int .i64 0] := by
  unfold beginV
  rw [show beginO N13 0 = some s13 from by
    unfold beginO
    rw [show nodeO N13 0 = some ⟨0, 1, 0, 0, [5, 5, 6]⟩ from by decide +kernel]
    rfl]
theorem aw13_2 : beginV N13 1 = .tup [skZ.V, .int .i64 90] := by
  unfold beginV
  rw [show beginO N13 1 = none from by
    unfold beginO
    rw [show nodeO N13 1 = none from by decide +kernel]]
theorem aw13_3 : rwordsV ⟨1, [97], [], 0⟩ = .tup [.sl false (.ints .i64 A13), .int .i64 0] := by unfold rwordsV; rw [if_pos (by decide +kernel)]; rfl
theorem aw13_4 : sortR (hitsOf A13 [0, 1, 0]) = [⟨1, [97], [], 0⟩] := by decide +kernel
theorem aw13_5 : holdsB N13 0 1 = true := by
  unfold holdsB
  rw [show nodeO N13 0 = some ⟨0, 1, 0, 0, [5, 5, 6]⟩ from by decide +kernel]; rfl
theorem aw13_6 : holdsB N13 0 0 = false := by
  unfold holdsB
  rw [show nodeO N13 0 = some ⟨0, 1, 0, 0, [5, 5, 6]⟩ from by decide +kernel]; rfl
theorem aw13_7 : stepsN N13 s13 13 = ⟨0, 1, 0, [6, 5], true⟩ := by rfl
def lamplighterlaw13_awake.C : Contract
  | [] => some (false, pD True (.bool true))
  | _ => none
set_option maxRecDepth 20000 in
theorem lamplighterlaw13_awake.spec : FSpec Try.prog 24 lamplighterlaw13_awake.C := by
  refine FSpec.of (ctx_ok (F := [(35, node_Words.C), (60, rec_Words.C), (25, seek_Begin.C), (28, seek_Step.C), (33, seek_Hits.C), (30, seek_Holds.C), (20, lamplighterref02_Numbers.C)]) (S := []) (by simpa using ⟨node_Words.spec, rec_Words.spec, seek_Begin.spec, seek_Step.spec, seek_Hits.spec, seek_Holds.spec, lamplighterref02_Numbers.spec⟩) (by simp) lamplighterlaw13_awake.loops) lamplighterlaw13_awake.at lamplighterlaw13_awake.nm lamplighterlaw13_awake.bd ?_
  intro vs b S v news e hS
  unfold lamplighterlaw13_awake.C at e
  split at e
  rotate_left
  · cases e
  cases e
  rw [lamplighterlaw13_awake.eq]
  unfold lamplighterlaw13_awake.H
  simp (maxSteps := 4000000) only [go_sem, Nat.reduceEqDiff, Nat.reduceLT, Nat.reduceAdd, Nat.reduceSub, Nat.reduceLeDiff, List.reduceReplicate, Int.reduceToNat, node_Words.C, rec_Words.C, seek_Begin.C, seek_Step.C, seek_Hits.C, seek_Holds.C, lamplighterref02_Numbers.C, aw13_0, aw13_1, aw13_2, aw13_3, aw13_4]
  have rN : roomy N13.length := by unfold roomy; decide
  simp only [seek_Begin.C, aw13_0, aw13_1, s13, Sk.V, joinW_eq, guard_tt, guard_tf, guard_ft, guard_ff, Int.reduceEq, Int.reduceLT, Int.reduceLE, decide_false, decide_true, Bool.not_false, Bool.not_true, Bool.not_not, not_true_eq_false, not_false_eq_true, true_implies, false_implies, implies_true, and_true, true_and, reduceCtorEq, Bool.and_self, Bool.or_self, Bool.and_true, Bool.true_and, Bool.false_eq_true, if_true, if_false, go_sem, Nat.reduceEqDiff, Nat.reduceLT, Nat.reduceAdd, Nat.reduceSub, Nat.reduceLeDiff, List.reduceReplicate, Int.reduceToNat]
  refine ⟨rN, ?_⟩
  unfold lamplighterlaw13_awake.L1
  refine loop1 (σ := Nat) (fun k => .int .i64 k) (fun k => [.row .fro 0 (.ints .i64 [5, 5, 6]), .box (stepsN N13 s13 k).V]) (fun k => 13 - k) (fun k => k ≤ 13) 0 rfl rfl (by decide) ?_
  intro I back k hk
  by_cases hlt : k < 13
  · have hb := @back (13 - k) [.int .i64 ((k + 1 : Nat) : Int)] [.row .fro 0 (.ints .i64 [5, 5, 6]), .box (stepS N13 (stepsN N13 s13 k)).V] (k + 1) (by omega) rfl rfl (by omega)
    have hl := stepsN_len N13 s13 k
    rw [show s13.refs.length = 0 from rfl] at hl
    clear back
    generalize stepsN N13 s13 k = s at *
    obtain ⟨b, t, a, l, o⟩ := s
    simp only at hl
    have d1 : decide ((k : Int) < 13) = true := decide_eq_true (by omega)
    generalize hs : stepS N13 ⟨b, t, a, l, o⟩ = s' at *
    obtain ⟨b', t', a', l', o'⟩ := s'
    simp only [Sk.V, d1, seek_Step.C, hs, wnext (show k < 4611686018427387904 by omega), joinW_eq, guard_tt, guard_tf, guard_ft, guard_ff, Int.reduceEq, Int.reduceLT, Int.reduceLE, decide_false, decide_true, Bool.not_false, Bool.not_true, Bool.not_not, not_true_eq_false, not_false_eq_true, true_implies, false_implies, implies_true, and_true, true_and, reduceCtorEq, Bool.and_self, Bool.or_self, Bool.and_true, Bool.true_and, Bool.false_eq_true, if_true, if_false, go_sem, Nat.reduceEqDiff, Nat.reduceLT, Nat.reduceAdd, Nat.reduceSub, Nat.reduceLeDiff, List.reduceReplicate, Int.reduceToNat] at hb ⊢
    exact ⟨⟨by decide, by omega⟩, hb⟩
  · obtain rfl : k = 13 := by omega
    clear back
    rw [aw13_7]
    simp only [Sk.V, seek_Begin.C, aw13_2, seek_Hits.C, aw13_4, aw13_5, aw13_6, seek_Holds.C, skZ, lamplighterref02_Numbers.C, decide_true, decide_false, joinW_eq, guard_tt, guard_tf, guard_ft, guard_ff, Int.reduceEq, Int.reduceLT, Int.reduceLE, decide_false, decide_true, Bool.not_false, Bool.not_true, Bool.not_not, not_true_eq_false, not_false_eq_true, true_implies, false_implies, implies_true, and_true, true_and, reduceCtorEq, Bool.and_self, Bool.or_self, Bool.and_true, Bool.true_and, Bool.false_eq_true, if_true, if_false, go_sem, Nat.reduceEqDiff, Nat.reduceLT, Nat.reduceAdd, Nat.reduceSub, Nat.reduceLeDiff, List.reduceReplicate, Int.reduceToNat]
    exact ⟨rN, by unfold roomy; decide, by unfold roomy; omega, rN, rN, post_val rfl rfl⟩
end Lam
namespace Lam
open Go Go.Proofs
set_option linter.unusedVariables false
def lamplighterlaw13_SeekTells.loops : Nat → LInfo
  | 2 => ⟨[], [], [], [(4, none), (4, some [17, 21])], [], []⟩
  | _ => ⟨[], [], [], [], [], []⟩
def lamplighterlaw13_SeekTells.H (c : Ctx) (t0 : AV) (t1 : AV) (t2 : AV) (h : List AObj) (K : AOut → List AObj → Prop) : Prop :=
  boxW T_api_Seek t2 h fun t5 h =>
  callW false c (.fn (.func 24) [] []) [] h (fun t13 h =>
  runD (lenD T_sl_int h t0) h fun t15 h =>
  runD (binD T_int .gtr t15 (.int .i64 1000)) h fun t16 h =>
  joinW (fun (J1 : AV → AV → List AObj → Prop) =>
  guardW t16 false
  (runD (fieldAddrD T_api_Seek t5 3) h fun t18 h =>
    runD (fitD T_sl_int (loadD h t18)) h fun t19 h =>
    runD (lenD T_sl_int h t19) h fun t20 h =>
    runD (binD T_int .gtr t20 (.int .i64 100)) h fun t21 h =>
    J1 (.bool false) t21 h)
  (J1 (.bool true) .und h))
  (fun t17 t21 h => runD (pickD t17 (.bool true) t21) h fun t22 h =>
  condW t22
  (K (.ret t13) h)
  (callW false c (.fn (.func 25) [] []) [t0, t1] h (fun t27 h =>
  runD (extractD t27 0) h fun t28 h =>
  runD (extractD t27 1) h fun t29 h =>
  allocW T_api_Seek h fun t8 h =>
  runH (storeH T_api_Seek h t8 t28) h fun _ h =>
  callW false c (.fn (.func 26) [] []) [t0, t1] h (fun t33 h =>
  runD (extractD t33 0) h fun t34 h =>
  runD (extractD t33 1) h fun t35 h =>
  allocW T_api_Seek h fun t10 h =>
  runH (storeH T_api_Seek h t10 t34) h fun _ h =>
  runD (fitD T_api_Seek (loadD h t8)) h fun t36 h =>
  runD (fitD T_api_Seek (loadD h t10)) h fun t37 h =>
  callW false c.noS (.fn (.func 27) [] []) [t36, t37] h (fun t38 h =>
  joinW (fun (J2 : AV → AV → List AObj → Prop) =>
  guardW t38 true
  (runD (binD T_api_Errno .eql t29 t35) h fun t42 h =>
    J2 (.bool true) t42 h)
  (J2 (.bool false) .und h))
  (fun t39 t42 h => runD (pickD t39 t42 (.bool false)) h fun t43 h =>
  joinW (fun (J3 : AV → AV → List AObj → Prop) =>
  guardW t43 true
  (runD (fitD T_api_Seek (loadD h t5)) h fun t46 h =>
    callW false c.noS (.fn (.func 28) [] []) [t0, t46] h (fun t47 h =>
    runD (fitD T_api_Seek (loadD h t5)) h fun t49 h =>
    callW false c.noS (.fn (.func 29) [] []) [t0, t49] h (fun t50 h =>
    callW false c.noS (.fn (.func 27) [] []) [t47, t50] h (fun t51 h =>
    J3 (.bool true) t51 h)
    (fun _ _ => False))
    (fun _ _ => False))
    (fun _ _ => False))
  (J3 (.bool false) .und h))
  (fun t44 t51 h => runD (pickD t44 t51 (.bool false)) h fun t52 h =>
  joinW (fun (J4 : AV → AV → List AObj → Prop) =>
  guardW t13 true
  (J4 (.bool true) t52 h)
  (J4 (.bool false) .und h))
  (fun t54 t55 h => runD (pickD t54 t55 (.bool false)) h fun t56 h =>
  joinW (fun (J5 : AV → AV → List AObj → Prop) =>
  guardW t56 true
  (runD (fitD T_api_Seek (loadD h t5)) h fun t59 h =>
    callW false c.noS (.fn (.func 30) [] []) [t0, t59] h (fun t60 h =>
    runD (fitD T_api_Seek (loadD h t5)) h fun t62 h =>
    callW false c.noS (.fn (.func 31) [] []) [t0, t62] h (fun t63 h =>
    runD (binD T_bool .eql t60 t63) h fun t64 h =>
    J5 (.bool true) t64 h)
    (fun _ _ => False))
    (fun _ _ => False))
  (J5 (.bool false) .und h))
  (fun t57 t64 h => runD (pickD t57 t64 (.bool false)) h fun t65 h =>
  joinW (fun (J6 : AV → AV → List AObj → Prop) =>
  guardW t65 true
  (runD (fitD T_api_Seek (loadD h t5)) h fun t68 h =>
    callW false c.noS (.fn (.func 33) [] []) [t0, t68] h (fun t69 h =>
    runD (fitD T_api_Seek (loadD h t5)) h fun t71 h =>
    callW false c.noS (.fn (.func 34) [] []) [t0, t71] h (fun t72 h =>
    callW false c.noS (.fn (.func 32) [] []) [t69, t72] h (fun t73 h =>
    J6 (.bool true) t73 h)
    (fun _ _ => False))
    (fun _ _ => False))
    (fun _ _ => False))
  (J6 (.bool false) .und h))
  (fun t66 t73 h => runD (pickD t66 t73 (.bool false)) h fun t74 h =>
  K (.ret t74) h))))))
  (fun _ _ => False))
  (fun v h => K (.pan v) h))
  (fun v h => K (.pan v) h))))
  (fun v h => K (.pan v) h)
theorem lamplighterlaw13_SeekTells.eq (F : List (FuncId × Contract)) (S : List (FuncId × Con)) (t0 t1 t2 : AV) (h : List AObj) (K : AOut → List AObj → Prop) : funW (ctx F S lamplighterlaw13_SeekTells.loops) Try.f9 [t0, t1, t2] h K = lamplighterlaw13_SeekTells.H (ctx F S lamplighterlaw13_SeekTells.loops) t0 t1 t2 h K := by kernel_rfl
end Lam
namespace Lam
open Go Go.Proofs
set_option linter.unusedVariables false
set_option linter.unnecessarySimpa false
set_option linter.unusedSimpArgs false
abbrev SeekTells_ctx : Ctx := ctx [(24, lamplighterlaw13_awake.C), (25, seek_Begin.C), (26, lamplighterref13_Begin.C), (27, lamplighterref13_Same.C), (28, seek_Step.C), (29, lamplighterref13_Step.C), (30, seek_Holds.C), (31, lamplighterref13_Holds.C), (33, seek_Hits.C), (34, lamplighterref13_Hits.C), (32, lamplighterref13_Recs.C)] [] lamplighterlaw13_SeekTells.loops
set_option maxRecDepth 20000 in
set_option maxHeartbeats 1000000 in
theorem SeekTells_vc (words : List Int) (block : Int) (s_block : Int) (s_turn : Int) (s_at : Int) (s_refs : List Int) (s_over : Bool) (w_words : wfL (.ints .i64 words)) (n_words : words.length ≤ maxLen) (w_block : (Lit.int .i64 block).wf = true) (w_s_block : (Lit.int .i64 s_block).wf = true) (w_s_turn : (Lit.int .i64 s_turn).wf = true) (w_s_at : (Lit.int .i64 s_at).wf = true) (w_s_refs : wfL (.ints .i64 s_refs)) (n_s_refs : s_refs.length ≤ maxLen) : lamplighterlaw13_SeekTells.H SeekTells_ctx (.sl false (.ints .i64 words)) (.int .i64 block) (.agg [(.int .i64 s_block), (.int .i64 s_turn), (.int .i64 s_at), (.sl false (.ints .i64 s_refs)), (.bool s_over)]) [] Told := by
  unfold lamplighterlaw13_SeekTells.H
  simp (maxSteps := 4000000) only [go_sem, Nat.reduceEqDiff, Nat.reduceLT, Nat.reduceAdd, Nat.reduceSub, Nat.reduceLeDiff, List.reduceReplicate, Int.reduceToNat, lamplighterlaw13_awake.C, seek_Begin.C, lamplighterref13_Begin.C, lamplighterref13_Same.C, seek_Step.C, lamplighterref13_Step.C, seek_Holds.C, lamplighterref13_Holds.C, seek_Hits.C, lamplighterref13_Hits.C, lamplighterref13_Recs.C]
  refine ⟨fun _ => rfl, fun hg => ?_⟩
  simp only [Bool.or_eq_false_iff, decide_eq_false_iff_not] at hg
  have hrw : roomy words.length := by unfold roomy; omega
  obtain ⟨⟨xb, xt, xa, xr, xo⟩, e, hbv, hxr⟩ : ∃ (x : Sk) (e : Int), beginV words block = .tup [x.V, .int .i64 e] ∧ x.refs = [] := by
    unfold beginV
    cases hb : beginO words block with
    | none => exact ⟨skZ, 90, rfl, rfl⟩
    | some x => exact ⟨x, 0, rfl, begin_refs hb⟩
  simp only at hxr
  subst hxr
  have hsl := stepS_len1 words ⟨s_block, s_turn, s_at, s_refs, s_over⟩
  simp only at hsl
  have hi := wf_i64s w_words
  have hso : (sortR (hitsOf words s_refs)).length ≤ 100 := by
    have h1 := (hits_fold (w := words) (refs := s_refs) (out := []) (by simp)).2
    have h2 := (sortR_perm (hitsOf words s_refs)).length_eq
    simp only [List.length_nil] at h1
    unfold hitsOf at h2 ⊢
    omega
  have hw4 : words.length ≤ 65536 := by omega
  have hr4 : s_refs.length ≤ 65536 := by omega
  simp only [hbv, Sk.V, lamplighterref13_Same.C, sameS_self, seek_Step.C, lamplighterref13_Step.C, seek_Holds.C, lamplighterref13_Holds.C, seek_Hits.C, lamplighterref13_Hits.C, lamplighterref13_Recs.C, joinW_eq, decide_true, joinW_eq, guard_tt, guard_tf, guard_ft, guard_ff, Int.reduceEq, Int.reduceLT, Int.reduceLE, decide_false, decide_true, Bool.not_false, Bool.not_true, Bool.not_not, not_true_eq_false, not_false_eq_true, true_implies, false_implies, implies_true, and_true, true_and, reduceCtorEq, Bool.and_self, Bool.or_self, Bool.and_true, Bool.true_and, Bool.false_eq_true, if_true, if_false, go_sem, Nat.reduceEqDiff, Nat.reduceLT, Nat.reduceAdd, Nat.reduceSub, Nat.reduceLeDiff, List.reduceReplicate, Int.reduceToNat]
  exact ⟨hrw, ⟨hw4, hi⟩, by unfold roomy; omega, ⟨hw4, hr4⟩, ⟨hw4, hr4⟩, by unfold roomy; omega, hrw, ⟨hw4, hi⟩, ⟨hrw, by omega⟩, ⟨hw4, hi, by omega⟩, by unfold roomy; omega, rfl⟩
theorem SeekTells_ok : Ok Try.prog SeekTells_ctx := ctx_ok (by simpa using ⟨lamplighterlaw13_awake.spec, seek_Begin.spec, lamplighterref13_Begin.spec, lamplighterref13_Same.spec, seek_Step.spec, lamplighterref13_Step.spec, seek_Holds.spec, lamplighterref13_Holds.spec, seek_Hits.spec, lamplighterref13_Hits.spec, lamplighterref13_Recs.spec⟩) (by simp) _
theorem SeekTells_law (words : Lst) (block : Int) (s : AV) (k_words : words.kind = (.int .i64)) (w_words : wfL words) (n_words : words.len ≤ maxLen) (w_block : (Lit.int .i64 block).wf = true) (g_s : GoodV T_api_Seek s) : funW SeekTells_ctx Try.f9 [(.sl false words), (.int .i64 block), s] [] Told := by
  obtain ⟨_, rfl, _, _, rfl, ⟨s_block, rfl, w_s_block⟩, _, _, rfl, ⟨s_turn, rfl, w_s_turn⟩, _, _, rfl, ⟨s_at, rfl, w_s_at⟩, _, _, rfl, ⟨s_refs, rfl, k_s_refs, w_s_refs, n_s_refs⟩, _, _, rfl, ⟨s_over, rfl⟩, rfl⟩ := g_s
  obtain ⟨words, rfl⟩ := gkind_ints k_words
  obtain ⟨s_refs, rfl⟩ := gkind_ints k_s_refs
  rw [SeekTells_ctx, lamplighterlaw13_SeekTells.eq]
  exact SeekTells_vc words block s_block s_turn s_at s_refs s_over w_words n_words w_block w_s_block w_s_turn w_s_at w_s_refs n_s_refs
end Lam
