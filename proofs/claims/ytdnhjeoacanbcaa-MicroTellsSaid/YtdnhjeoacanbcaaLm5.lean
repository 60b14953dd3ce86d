/- What functions of the program come to, each proved from its code. -/
import Derived.Test.YtdnhjeoacanbcaaLm4
namespace Lam
open Go Go.Proofs
set_option linter.unusedVariables false
def micro_Run.loops : Nat → LInfo
  | _ => ⟨[], [], [], [], []⟩
def micro_Run.H (c : Ctx) (t0 : AV) (t1 : AV) (h : List AObj) (K : AOut → List AObj → Prop) : Prop :=
  boxW T_api_Mem t0 h fun t2 h =>
  allocW T_api_Mem h fun t4 h =>
  runD (fitD T_api_Mem (loadD h t2)) h fun t6 h =>
  callW c (.fn (.func 104) [] []) [t6, t1] h (fun t8 h =>
  runD (unD .not t8) h fun t9 h =>
  condW t9
  (runD (fitD T_api_Mem (loadD h t2)) h fun t10 h =>
    runH (storeH T_api_Mem h t4 t10) h fun _ h =>
    loadRes (fitD T_api_Mem (loadD h t4)) fun r0 => K (.ret (.tup [r0, (.int .i64 40)])) h)
  (runD (fitD T_api_Mem (loadD h t2)) h fun t11 h =>
  runD (lenD T_sl_api_Micro h t1) h fun t14 h =>
  callW c (.fn (.func 105) [] []) [t11, t1, t14] h (fun t15 h =>
  runH (storeH T_api_Mem h t4 t15) h fun _ h =>
  loadRes (fitD T_api_Mem (loadD h t4)) fun r0 => K (.ret (.tup [r0, (.int .i64 0)])) h)
  (fun v h => K (.pan v) h)))
  (fun v h => K (.pan v) h)
def micro_Do.loops : Nat → LInfo
  | _ => ⟨[], [], [], [], []⟩
def micro_Do.H (c : Ctx) (t0 : AV) (t1 : AV) (h : List AObj) (K : AOut → List AObj → Prop) : Prop :=
  boxW T_api_Mem t0 h fun t2 h =>
  boxW T_api_Micro t1 h fun t3 h =>
  allocW T_api_Mem h fun t4 h =>
  runD (fitD T_api_Mem (loadD h t2)) h fun t6 h =>
  runD (fitD T_api_Micro (loadD h t3)) h fun t7 h =>
  runD (buildSliceD T_sl_api_Micro 1 [(0, t7)] h.length) h fun t8 h =>
  callW c (.fn (.func 63) [] []) [t6, t8] h (fun t9 h =>
  runD (extractD t9 0) h fun t10 h =>
  runD (extractD t9 1) h fun t11 h =>
  runH (storeH T_api_Mem h t4 t10) h fun _ h =>
  loadRes (fitD T_api_Mem (loadD h t4)) fun r0 => K (.ret (.tup [r0, t11])) h)
  (fun v h => K (.pan v) h)
def micro_Crash.loops : Nat → LInfo
  | _ => ⟨[], [], [], [], []⟩
def micro_Crash.H (c : Ctx) (t0 : AV) (t1 : AV) (t2 : AV) (t3 : AV) (h : List AObj) (K : AOut → List AObj → Prop) : Prop :=
  boxW T_api_Mem t0 h fun t4 h =>
  runD (fitD T_api_Mem (loadD h t4)) h fun t10 h =>
  callW c (.fn (.func 104) [] []) [t10, t1] h (fun t12 h =>
  runD (unD .not t12) h fun t13 h =>
  condW t13
  (K (.ret (.tup [(.sl true (.ints .i64 [])), (.int .i64 40)])) h)
  (runD (fitD T_api_Mem (loadD h t4)) h fun t14 h =>
  runD (lenD T_sl_api_Micro h t1) h fun t18 h =>
  runD (minD t2 t18) h fun t19 h =>
  runD (maxD (.int .i64 0) t19) h fun t20 h =>
  callW c (.fn (.func 105) [] []) [t14, t1, t20] h (fun t21 h =>
  callW c (.fn (.func 111) [] []) [t21, t3] h (fun t23 h =>
  runD (extractD t23 0) h fun t24 h =>
  runD (extractD t23 1) h fun t25 h =>
  K (.ret (.tup [t24, t25])) h)
  (fun v h => K (.pan v) h))
  (fun v h => K (.pan v) h)))
  (fun v h => K (.pan v) h)
def micro_Check.loops : Nat → LInfo
  | 1 => ⟨[], [], [], [(3, none), (2, some [8, 10]), (2, none), (3, some [12, 15])], []⟩
  | 2 => ⟨[], [], [], [(2, none), (4, some [18, 22])], []⟩
  | _ => ⟨[], [], [], [], []⟩
def micro_Check.H (c : Ctx) (t0 : AV) (t1 : AV) (h : List AObj) (K : AOut → List AObj → Prop) : Prop :=
  boxW T_int t1 h fun t3 h =>
  runD (fitD T_int (loadD h t3)) h fun t6 h =>
  runD (binD T_int .geq t6 (.int .i64 0)) h fun t7 h =>
  joinW (fun (J1 : AV → AV → List AObj → Prop) =>
  guardW t7 true
  (runD (fitD T_int (loadD h t3)) h fun t9 h =>
    runD (binD T_int .leq t9 (.int .i64 4096)) h fun t10 h =>
    J1 (.bool true) t10 h)
  (J1 (.bool false) .und h))
  (fun t8 t10 h => runD (pickD t8 t10 (.bool false)) h fun t11 h =>
  joinW (fun (J2 : AV → AV → List AObj → Prop) =>
  guardW t11 true
  (runD (fitD T_int (loadD h t3)) h fun t13 h =>
    runD (binD T_int .rem t13 (.int .i64 8)) h fun t14 h =>
    runD (binD T_int .eql t14 (.int .i64 0)) h fun t15 h =>
    J2 (.bool true) t15 h)
  (J2 (.bool false) .und h))
  (fun t12 t15 h => runD (pickD t12 t15 (.bool false)) h fun t16 h =>
  joinW (fun (J3 : AV → AV → List AObj → Prop) =>
  guardW t16 true
  (callW c (.fn (.func 113) [] []) [t0, (.fn (.func 114) [] [t3])] h (fun t21 h =>
    runD (unD .not t21) h fun t22 h =>
    J3 (.bool true) t22 h)
    (fun v h => K (.pan v) h))
  (J3 (.bool false) .und h))
  (fun t18 t22 h => runD (pickD t18 t22 (.bool false)) h fun t23 h =>
  K (.ret t23) h)))
def micro_sound.loops : Nat → LInfo
  | 1 => ⟨[], [], [], [(3, none), (5, some [7, 12])], []⟩
  | _ => ⟨[], [], [], [], []⟩
def micro_sound.H (c : Ctx) (t0 : AV) (t1 : AV) (h : List AObj) (K : AOut → List AObj → Prop) : Prop :=
  boxW T_api_Mem t0 h fun t2 h =>
  runD (fitD T_api_Mem (loadD h t2)) h fun t5 h =>
  callW c (.fn (.func 124) [] []) [t5] h (fun t6 h =>
  joinW (fun (J1 : AV → AV → List AObj → Prop) =>
  guardW t6 true
  (runD (fieldAddrD T_api_Mem t2 0) h fun t9 h =>
    runD (fitD T_sl_int (loadD h t9)) h fun t10 h =>
    runD (lenD T_sl_int h t10) h fun t11 h =>
    callW c (.fn (.func 70) [] []) [t1, t11] h (fun t12 h =>
    J1 (.bool true) t12 h)
    (fun v h => K (.pan v) h))
  (J1 (.bool false) .und h))
  (fun t7 t12 h => runD (pickD t7 t12 (.bool false)) h fun t13 h =>
  K (.ret t13) h))
  (fun v h => K (.pan v) h)
def micro_first.loops : Nat → LInfo
  | 4 => ⟨[15], [false], [1, 6, 7, 8, 14], [], []⟩
  | _ => ⟨[], [], [], [], []⟩
def micro_first.L1 (c : Ctx) (J1 : AV → AV → List AObj → Prop) (K : AOut → List AObj → Prop) (lv : List AV) (h0 : List AObj) (n0 : Nat) (c1 : AV) (c6 : AV) (c7 : AV) (c8 : AV) (c14 : AV) : Prop :=
  ∃ I : Nat → List AV → List AObj → Prop, (∃ n, I n lv h0) ∧ ∀ n h, ∀ t15, I n [t15] h →
    runD (binD T_int .lss t15 c14) h fun t16 h =>
    condW t16
    (runD (indexAddrD T_sl_api_Micro h c1 t15) h fun t21 h =>
    runD (fieldAddrD T_api_Micro t21 0) h fun t22 h =>
    runD (fitD T_int (loadD h t22)) h fun t23 h =>
    runD (lookupD T_map_int_func_p_micro_doer_api_Micro h c8 t23) h fun t24 h =>
    runD (indexAddrD T_sl_api_Micro h c1 t15) h fun t28 h =>
    runD (fitD T_api_Micro (loadD h t28)) h fun t29 h =>
    callW c t24 [c7, t29] h (fun t30 h =>
    runD (binD T_int .add t15 (.int .i64 1)) h fun t31 h =>
    (∃ m, m < n ∧ I m (AV.norms n0 h [t31]) (normH n0 h)) ∧ AV.norms n0 h [c1, c6, c7, c8, c14] = [c1, c6, c7, c8, c14])
    (fun v h => K (.pan v) h))
    (J1 c6 c7 h)
def micro_first.H (c : Ctx) (t0 : AV) (t1 : AV) (t2 : AV) (h : List AObj) (K : AOut → List AObj → Prop) : Prop :=
  boxW T_api_Mem t0 h fun t3 h =>
  allocW T_api_Mem h fun t6 h =>
  runD (fitD T_api_Mem (loadD h t3)) h fun t10 h =>
  runD (buildD T_micro_doer [(0, t10)]) h fun t11 h =>
  boxW T_micro_doer t11 h fun t12 h =>
  callW c (.fn (.func 125) [] []) [] h (fun t13 h =>
  joinW (fun (J1 : AV → AV → List AObj → Prop) =>
  promV [false] [(.int .i64 0)] h fun lv h => micro_first.L1 c J1 K (AV.norms h.length h lv) (normH h.length h) h.length (AV.norm h.length h t1) (AV.norm h.length h t6) (AV.norm h.length h t12) (AV.norm h.length h t13) (AV.norm h.length h t2))
  (fun t6 t7 h => runD (nilCheckD t7) h fun t33 h =>
  runD (fieldAddrD T_micro_doer t33 0) h fun t34 h =>
  runD (fitD T_api_Mem (loadD h t34)) h fun t35 h =>
  runH (storeH T_api_Mem h t6 t35) h fun _ h =>
  loadRes (fitD T_api_Mem (loadD h t6)) fun r0 => K (.ret r0) h))
  (fun v h => K (.pan v) h)
def micro_Check_1.loops : Nat → LInfo
  | _ => ⟨[], [], [], [], []⟩
def micro_Check_1.H (c : Ctx) (t0 : AV) (t1 : AV) (h : List AObj) (K : AOut → List AObj → Prop) : Prop :=
  boxW T_api_Micro t0 h fun t2 h =>
  runD (fitD T_api_Micro (loadD h t2)) h fun t4 h =>
  runD (fitD T_int (loadD h t1)) h fun t5 h =>
  callW c (.fn (.func 115) [] []) [t4, t5] h (fun t6 h =>
  runD (unD .not t6) h fun t7 h =>
  K (.ret t7) h)
  (fun v h => K (.pan v) h)
def micro_may.loops : Nat → LInfo
  | 2 => ⟨[], [], [], [(4, none), (7, some [14, 21]), (2, none), (8, some [23, 31])], []⟩
  | _ => ⟨[], [], [], [], []⟩
def micro_may.H (c : Ctx) (t0 : AV) (t1 : AV) (h : List AObj) (K : AOut → List AObj → Prop) : Prop :=
  boxW T_api_Micro t0 h fun t2 h =>
  runD (makeMapD T_map_int_int h.length) h fun t6 h =>
  runH (mapSetH T_map_int_int h t6 (.int .i64 1) t1) h fun _ h =>
  runD (binD T_int .quo t1 (.int .i64 8)) h fun t9 h =>
  runH (mapSetH T_map_int_int h t6 (.int .i64 2) t9) h fun _ h =>
  runD (fieldAddrD T_api_Micro t2 1) h fun t11 h =>
  runD (fitD T_int (loadD h t11)) h fun t12 h =>
  runD (binD T_int .geq t12 (.int .i64 0)) h fun t13 h =>
  joinW (fun (J1 : AV → AV → List AObj → Prop) =>
  guardW t13 true
  (runD (fieldAddrD T_api_Micro t2 1) h fun t15 h =>
    runD (fitD T_int (loadD h t15)) h fun t16 h =>
    runD (fieldAddrD T_api_Micro t2 0) h fun t18 h =>
    runD (fitD T_int (loadD h t18)) h fun t19 h =>
    runD (lookupD T_map_int_int h t6 t19) h fun t20 h =>
    runD (binD T_int .lss t16 t20) h fun t21 h =>
    J1 (.bool true) t21 h)
  (J1 (.bool false) .und h))
  (fun t14 t21 h => runD (pickD t14 t21 (.bool false)) h fun t22 h =>
  joinW (fun (J2 : AV → AV → List AObj → Prop) =>
  guardW t22 true
  (runD (fieldAddrD T_api_Micro t2 0) h fun t24 h =>
    runD (fitD T_int (loadD h t24)) h fun t25 h =>
    runD (binD T_int .eql t25 (.int .i64 1)) h fun t26 h =>
    joinW (fun (J3 : AV → AV → List AObj → Prop) =>
    guardW t26 false
    (runD (fieldAddrD T_api_Micro t2 2) h fun t28 h =>
      runD (fitD T_int (loadD h t28)) h fun t29 h =>
      runD (binD T_int .eql t29 (.int .i64 0)) h fun t30 h =>
      J3 (.bool false) t30 h)
    (J3 (.bool true) .und h))
    (fun t27 t30 h => runD (pickD t27 (.bool true) t30) h fun t31 h =>
    J2 (.bool true) t31 h))
  (J2 (.bool false) .und h))
  (fun t23 t31 h => runD (pickD t23 t31 (.bool false)) h fun t32 h =>
  K (.ret t32) h))
def micro_kinds.loops : Nat → LInfo
  | _ => ⟨[], [], [], [], []⟩
def micro_kinds.H (c : Ctx) (h : List AObj) (K : AOut → List AObj → Prop) : Prop :=
  runD (makeMapD T_map_int_func_p_micro_doer_api_Micro h.length) h fun t1 h =>
  runH (mapSetH T_map_int_func_p_micro_doer_api_Micro h t1 (.int .i64 1) (.fn (.func 136) [] [])) h fun _ h =>
  runH (mapSetH T_map_int_func_p_micro_doer_api_Micro h t1 (.int .i64 2) (.fn (.func 137) [] [])) h fun _ h =>
  K (.ret t1) h
def micro_doer_store.loops : Nat → LInfo
  | _ => ⟨[], [], [], [], []⟩
def micro_doer_store.H (c : Ctx) (t0 : AV) (t1 : AV) (h : List AObj) (K : AOut → List AObj → Prop) : Prop :=
  boxW T_api_Micro t1 h fun t3 h =>
  runD (nilCheckD t0) h fun t7 h =>
  runD (fieldAddrD T_micro_doer t7 0) h fun t8 h =>
  runD (fitD T_api_Mem (loadD h t8)) h fun t9 h =>
  runD (fieldAddrD T_api_Micro t3 1) h fun t10 h =>
  runD (fitD T_int (loadD h t10)) h fun t11 h =>
  runD (fieldAddrD T_api_Micro t3 2) h fun t12 h =>
  runD (fitD T_int (loadD h t12)) h fun t13 h =>
  callW c.noS (.fn (.func 142) [] []) [t9, t11, t13] h (fun t14 h =>
  runD (extractD t14 0) h fun t15 h =>
  runD (extractD t14 1) h fun t16 h =>
  runD (nilCheckD t0) h fun t17 h =>
  runD (fieldAddrD T_micro_doer t17 0) h fun t18 h =>
  runH (storeH T_api_Mem h t18 t15) h fun _ h =>
  K (.ret (.tup [])) h)
  (fun _ _ => False)
def micro_doer_persist.loops : Nat → LInfo
  | _ => ⟨[], [], [], [], []⟩
def micro_doer_persist.H (c : Ctx) (t0 : AV) (t1 : AV) (h : List AObj) (K : AOut → List AObj → Prop) : Prop :=
  boxW T_api_Micro t1 h fun t3 h =>
  runD (nilCheckD t0) h fun t7 h =>
  runD (fieldAddrD T_micro_doer t7 0) h fun t8 h =>
  runD (fitD T_api_Mem (loadD h t8)) h fun t9 h =>
  runD (fieldAddrD T_api_Micro t3 1) h fun t10 h =>
  runD (fitD T_int (loadD h t10)) h fun t11 h =>
  callW c.noS (.fn (.func 143) [] []) [t9, t11] h (fun t12 h =>
  runD (extractD t12 0) h fun t13 h =>
  runD (extractD t12 1) h fun t14 h =>
  runD (nilCheckD t0) h fun t15 h =>
  runD (fieldAddrD T_micro_doer t15 0) h fun t16 h =>
  runH (storeH T_api_Mem h t16 t13) h fun _ h =>
  runD (nilCheckD t0) h fun t20 h =>
  runD (fieldAddrD T_micro_doer t20 0) h fun t21 h =>
  runD (fitD T_api_Mem (loadD h t21)) h fun t22 h =>
  callW c (.fn (.func 144) [] []) [t22] h (fun t23 h =>
  runD (extractD t23 0) h fun t24 h =>
  runD (extractD t23 1) h fun t25 h =>
  runD (nilCheckD t0) h fun t26 h =>
  runD (fieldAddrD T_micro_doer t26 0) h fun t27 h =>
  runH (storeH T_api_Mem h t27 t24) h fun _ h =>
  K (.ret (.tup [])) h)
  (fun v h => K (.pan v) h))
  (fun _ _ => False)
theorem micro_Run.eq (F : List (FuncId × Contract)) (S : List (FuncId × Con)) (t0 t1 : AV) (h : List AObj) (K : AOut → List AObj → Prop) : funW (ctx F S micro_Run.loops) Try.f63 [t0, t1] h K = micro_Run.H (ctx F S micro_Run.loops) t0 t1 h K := by kernel_rfl
theorem micro_Do.eq (F : List (FuncId × Contract)) (S : List (FuncId × Con)) (t0 t1 : AV) (h : List AObj) (K : AOut → List AObj → Prop) : funW (ctx F S micro_Do.loops) Try.f65 [t0, t1] h K = micro_Do.H (ctx F S micro_Do.loops) t0 t1 h K := by kernel_rfl
theorem micro_Crash.eq (F : List (FuncId × Contract)) (S : List (FuncId × Con)) (t0 t1 t2 t3 : AV) (h : List AObj) (K : AOut → List AObj → Prop) : funW (ctx F S micro_Crash.loops) Try.f67 [t0, t1, t2, t3] h K = micro_Crash.H (ctx F S micro_Crash.loops) t0 t1 t2 t3 h K := by kernel_rfl
theorem micro_Check.eq (F : List (FuncId × Contract)) (S : List (FuncId × Con)) (t0 t1 : AV) (h : List AObj) (K : AOut → List AObj → Prop) : funW (ctx F S micro_Check.loops) Try.f70 [t0, t1] h K = micro_Check.H (ctx F S micro_Check.loops) t0 t1 h K := by kernel_rfl
theorem micro_sound.eq (F : List (FuncId × Contract)) (S : List (FuncId × Con)) (t0 t1 : AV) (h : List AObj) (K : AOut → List AObj → Prop) : funW (ctx F S micro_sound.loops) Try.f104 [t0, t1] h K = micro_sound.H (ctx F S micro_sound.loops) t0 t1 h K := by kernel_rfl
theorem micro_first.eq (F : List (FuncId × Contract)) (S : List (FuncId × Con)) (t0 t1 t2 : AV) (h : List AObj) (K : AOut → List AObj → Prop) : funW (ctx F S micro_first.loops) Try.f105 [t0, t1, t2] h K = micro_first.H (ctx F S micro_first.loops) t0 t1 t2 h K := by kernel_rfl
theorem micro_Check_1.eq (F : List (FuncId × Contract)) (S : List (FuncId × Con)) (t0 t1 : AV) (h : List AObj) (K : AOut → List AObj → Prop) : funW (ctx F S micro_Check_1.loops) Try.f114 [t0, t1] h K = micro_Check_1.H (ctx F S micro_Check_1.loops) t0 t1 h K := by kernel_rfl
theorem micro_may.eq (F : List (FuncId × Contract)) (S : List (FuncId × Con)) (t0 t1 : AV) (h : List AObj) (K : AOut → List AObj → Prop) : funW (ctx F S micro_may.loops) Try.f115 [t0, t1] h K = micro_may.H (ctx F S micro_may.loops) t0 t1 h K := by kernel_rfl
theorem micro_kinds.eq (F : List (FuncId × Contract)) (S : List (FuncId × Con)) (h : List AObj) (K : AOut → List AObj → Prop) : funW (ctx F S micro_kinds.loops) Try.f125 [] h K = micro_kinds.H (ctx F S micro_kinds.loops)  h K := by kernel_rfl
theorem micro_doer_store.eq (F : List (FuncId × Contract)) (S : List (FuncId × Con)) (t0 t1 : AV) (h : List AObj) (K : AOut → List AObj → Prop) : funW (ctx F S micro_doer_store.loops) Try.f136 [t0, t1] h K = micro_doer_store.H (ctx F S micro_doer_store.loops) t0 t1 h K := by kernel_rfl
theorem micro_doer_persist.eq (F : List (FuncId × Contract)) (S : List (FuncId × Con)) (t0 t1 : AV) (h : List AObj) (K : AOut → List AObj → Prop) : funW (ctx F S micro_doer_persist.loops) Try.f137 [t0, t1] h K = micro_doer_persist.H (ctx F S micro_doer_persist.loops) t0 t1 h K := by kernel_rfl
theorem micro_Run.at : Try.prog.funcs[63]? = some Try.f63 := by kernel_rfl
theorem micro_Run.nm : (Try.f63.name == "runtime.NumGoroutine") = false := by kernel_rfl
theorem micro_Run.bd : Try.f63.body.isNone = false := by kernel_rfl
theorem micro_Do.at : Try.prog.funcs[65]? = some Try.f65 := by kernel_rfl
theorem micro_Do.nm : (Try.f65.name == "runtime.NumGoroutine") = false := by kernel_rfl
theorem micro_Do.bd : Try.f65.body.isNone = false := by kernel_rfl
theorem micro_Crash.at : Try.prog.funcs[67]? = some Try.f67 := by kernel_rfl
theorem micro_Crash.nm : (Try.f67.name == "runtime.NumGoroutine") = false := by kernel_rfl
theorem micro_Crash.bd : Try.f67.body.isNone = false := by kernel_rfl
theorem micro_Check.at : Try.prog.funcs[70]? = some Try.f70 := by kernel_rfl
theorem micro_Check.nm : (Try.f70.name == "runtime.NumGoroutine") = false := by kernel_rfl
theorem micro_Check.bd : Try.f70.body.isNone = false := by kernel_rfl
theorem micro_sound.at : Try.prog.funcs[104]? = some Try.f104 := by kernel_rfl
theorem micro_sound.nm : (Try.f104.name == "runtime.NumGoroutine") = false := by kernel_rfl
theorem micro_sound.bd : Try.f104.body.isNone = false := by kernel_rfl
theorem micro_first.at : Try.prog.funcs[105]? = some Try.f105 := by kernel_rfl
theorem micro_first.nm : (Try.f105.name == "runtime.NumGoroutine") = false := by kernel_rfl
theorem micro_first.bd : Try.f105.body.isNone = false := by kernel_rfl
theorem micro_Check_1.at : Try.prog.funcs[114]? = some Try.f114 := by kernel_rfl
theorem micro_Check_1.nm : (Try.f114.name == "runtime.NumGoroutine") = false := by kernel_rfl
theorem micro_Check_1.bd : Try.f114.body.isNone = false := by kernel_rfl
theorem micro_may.at : Try.prog.funcs[115]? = some Try.f115 := by kernel_rfl
theorem micro_may.nm : (Try.f115.name == "runtime.NumGoroutine") = false := by kernel_rfl
theorem micro_may.bd : Try.f115.body.isNone = false := by kernel_rfl
theorem micro_kinds.at : Try.prog.funcs[125]? = some Try.f125 := by kernel_rfl
theorem micro_kinds.nm : (Try.f125.name == "runtime.NumGoroutine") = false := by kernel_rfl
theorem micro_kinds.bd : Try.f125.body.isNone = false := by kernel_rfl
theorem micro_doer_store.at : Try.prog.funcs[136]? = some Try.f136 := by kernel_rfl
theorem micro_doer_store.nm : (Try.f136.name == "runtime.NumGoroutine") = false := by kernel_rfl
theorem micro_doer_store.bd : Try.f136.body.isNone = false := by kernel_rfl
theorem micro_doer_persist.at : Try.prog.funcs[137]? = some Try.f137 := by kernel_rfl
theorem micro_doer_persist.nm : (Try.f137.name == "runtime.NumGoroutine") = false := by kernel_rfl
theorem micro_doer_persist.bd : Try.f137.body.isNone = false := by kernel_rfl
end Lam
namespace Lam
open Go Go.Proofs
set_option linter.unusedVariables false
set_option linter.unnecessarySimpa false
set_option linter.unusedSimpArgs false
def micro_may.C : Contract
  | [.agg [.int .i64 k, .int .i64 a, .int .i64 w], .int .i64 n] => some (false, pD True (.bool (mmay ⟨k, a, w⟩ n)))
  | _ => none
set_option maxRecDepth 20000 in
theorem micro_may.spec : FSpec Try.prog 115 micro_may.C := by
  refine FSpec.of (ctx_ok (F := []) (S := []) (by simp) (by simp) micro_may.loops) micro_may.at micro_may.nm micro_may.bd ?_
  intro vs b S v news e hS
  unfold micro_may.C at e
  split at e
  rotate_left
  · cases e
  cases e
  rw [micro_may.eq]
  unfold micro_may.H
  simp (maxSteps := 4000000) only [go_sem, Nat.reduceEqDiff, Nat.reduceLT, Nat.reduceAdd, Nat.reduceSub, Nat.reduceLeDiff, List.reduceReplicate, Int.reduceToNat]
  refine ⟨by decide, ?_⟩
  exact post_val rfl rfl
def micro_Check_1.K : Con := fun args h K => match args with
  | [a0, a1] => micro_Check_1.H (ctx [(115, micro_may.C)] [] micro_Check_1.loops) a0 a1 h K
  | _ => False
theorem micro_Check_1.spec : SSpec Try.prog 114 micro_Check_1.K := by
  refine SSpec.of (ctx_ok (F := [(115, micro_may.C)]) (S := []) (by simpa using micro_may.spec) (by simp) micro_Check_1.loops) micro_Check_1.at micro_Check_1.nm micro_Check_1.bd ?_
  intro args h K hC
  unfold micro_Check_1.K at hC
  split at hC
  · rw [micro_Check_1.eq]; exact hC
  · exact hC.elim
def slices_IndexFunc_sl_api_Micro_api_Micro.K : Con := fun args h K => match args with
  | [a0, a1] => slices_IndexFunc_sl_api_Micro_api_Micro.H (ctx [] [(114, micro_Check_1.K)] slices_IndexFunc_sl_api_Micro_api_Micro.loops) a0 a1 h K
  | _ => False
theorem slices_IndexFunc_sl_api_Micro_api_Micro.spec : SSpec Try.prog 131 slices_IndexFunc_sl_api_Micro_api_Micro.K := by
  refine SSpec.of (ctx_ok (F := []) (S := [(114, micro_Check_1.K)]) (by simp) (by simpa using micro_Check_1.spec) slices_IndexFunc_sl_api_Micro_api_Micro.loops) slices_IndexFunc_sl_api_Micro_api_Micro.at slices_IndexFunc_sl_api_Micro_api_Micro.nm slices_IndexFunc_sl_api_Micro_api_Micro.bd ?_
  intro args h K hC
  unfold slices_IndexFunc_sl_api_Micro_api_Micro.K at hC
  split at hC
  · rw [slices_IndexFunc_sl_api_Micro_api_Micro.eq]; exact hC
  · exact hC.elim
def slices_ContainsFunc_sl_api_Micro_api_Micro.K : Con := fun args h K => match args with
  | [a0, a1] => slices_ContainsFunc_sl_api_Micro_api_Micro.H (ctx [] [(131, slices_IndexFunc_sl_api_Micro_api_Micro.K)] slices_ContainsFunc_sl_api_Micro_api_Micro.loops) a0 a1 h K
  | _ => False
theorem slices_ContainsFunc_sl_api_Micro_api_Micro.spec : SSpec Try.prog 113 slices_ContainsFunc_sl_api_Micro_api_Micro.K := by
  refine SSpec.of (ctx_ok (F := []) (S := [(131, slices_IndexFunc_sl_api_Micro_api_Micro.K)]) (by simp) (by simpa using slices_IndexFunc_sl_api_Micro_api_Micro.spec) slices_ContainsFunc_sl_api_Micro_api_Micro.loops) slices_ContainsFunc_sl_api_Micro_api_Micro.at slices_ContainsFunc_sl_api_Micro_api_Micro.nm slices_ContainsFunc_sl_api_Micro_api_Micro.bd ?_
  intro args h K hC
  unfold slices_ContainsFunc_sl_api_Micro_api_Micro.K at hC
  split at hC
  · rw [slices_ContainsFunc_sl_api_Micro_api_Micro.eq]; exact hC
  · exact hC.elim

theorem micro_Check_1_vc (x : Mic) (n : Int) (h : List AObj) (K : AOut → List AObj → Prop) (id : Nat) (hid : h[id]? = some (.box (.int .i64 n)))
    (hK : K (.ret (.bool (!mmay x n))) (h ++ [.box (encMic x)])) : micro_Check_1.K [.agg [.int .i64 x.kind, .int .i64 x.at_, .int .i64 x.val], .ptr id []] h K := by
  have hlt : id < h.length := (List.getElem?_eq_some_iff.1 hid).1
  have hid' : ∀ r, (h ++ r)[id]? = some (.box (.int .i64 n)) := fun r => by rw [List.getElem?_append_left hlt]; exact hid
  have hlen : ∀ o r, (h ++ o :: r)[h.length]? = some o := fun o r => by simp
  unfold micro_Check_1.K
  simp only
  unfold micro_Check_1.H
  simp only [go_sem, Nat.reduceEqDiff, Nat.reduceLT, Nat.reduceAdd, Nat.reduceSub, Nat.reduceLeDiff, List.reduceReplicate, Int.reduceToNat, hid', hlen, micro_may.C]
  exact hK

theorem index_vc (l : List Mic) (n : Int) (K : AOut → List AObj → Prop) (x : Bool) (hr : roomy l.length) (h : List AObj) (hh : h = [.box (.int .i64 n)])
    (hK : ∀ r h', (r = -1 ∧ (∀ y ∈ l, mmay y n = true)) ∨ (0 ≤ r ∧ ∃ y ∈ l, mmay y n = false) → K (.ret (.int .i64 r)) h') :
    slices_IndexFunc_sl_api_Micro_api_Micro.K [.sl x (.mics l), .fn (.func 114) [] [.ptr 0 []]] h K := by
  unfold roomy at hr
  unfold slices_IndexFunc_sl_api_Micro_api_Micro.K
  simp only
  unfold slices_IndexFunc_sl_api_Micro_api_Micro.H
  subst hh
  simp only [go_sem, Nat.reduceEqDiff, Nat.reduceLT, Nat.reduceAdd, Nat.reduceSub, Nat.reduceLeDiff, List.reduceReplicate, Int.reduceToNat, joinW_eq]
  unfold slices_IndexFunc_sl_api_Micro_api_Micro.L1
  refine ⟨fun m lv h' => ∃ k : Nat, k + m = l.length ∧ lv = [.int .i64 k] ∧ h' = [.box (.int .i64 n)] ∧ ∀ y ∈ l.take k, mmay y n = true, ⟨l.length, 0, by omega, rfl, rfl, by simp⟩, ?_⟩
  rintro m h' t8 ⟨k, hk, hlv, rfl, hall⟩
  simp only [List.cons.injEq, and_true] at hlv
  subst hlv
  simp only [go_sem, Nat.reduceEqDiff, Nat.reduceLT, Nat.reduceAdd, Nat.reduceSub, Nat.reduceLeDiff, List.reduceReplicate, Int.reduceToNat]
  refine ⟨fun hlt => ⟨by omega, ?_⟩, fun hge => ?_⟩
  · have hkl : k < l.length := by omega
    apply micro_Check_1_vc _ n _ _ 0 rfl
    simp only [go_sem, Nat.reduceEqDiff, Nat.reduceLT, Nat.reduceAdd, Nat.reduceSub, Nat.reduceLeDiff, List.reduceReplicate, Int.reduceToNat]
    refine ⟨fun h => hK _ _ (.inr ⟨by omega, _, getD_mem l k _ hkl, by simpa using h⟩), fun h => ?_⟩
    refine ⟨m - 1, by omega, k + 1, by omega, by rw [w64 (by omega) (by omega)]; rfl, ?_⟩
    intro y hy
    rw [take_next l k ⟨0, 0, 0⟩ hkl] at hy
    rcases List.mem_append.1 hy with hy | hy
    · exact hall y hy
    · rw [List.mem_singleton.1 hy]; simpa using h
  · have : k = l.length := by omega
    subst this
    rw [List.take_length] at hall
    exact hK _ _ (.inl ⟨rfl, hall⟩)

theorem contains_vc (l : List Mic) (n : Int) (K : AOut → List AObj → Prop) (x : Bool) (hr : roomy l.length) (h : List AObj) (hh : h = [.box (.int .i64 n)])
    (hK : ∀ h', K (.ret (.bool (!l.all (mmay · n)))) h') :
    slices_ContainsFunc_sl_api_Micro_api_Micro.K [.sl x (.mics l), .fn (.func 114) [] [.ptr 0 []]] h K := by
  unfold slices_ContainsFunc_sl_api_Micro_api_Micro.K
  simp only
  unfold slices_ContainsFunc_sl_api_Micro_api_Micro.H
  subst hh
  simp only [go_sem, Nat.reduceEqDiff, Nat.reduceLT, Nat.reduceAdd, Nat.reduceSub, Nat.reduceLeDiff, List.reduceReplicate, Int.reduceToNat]
  apply index_vc l n _ x hr _ rfl
  intro r h' hcase
  simp only [go_sem, Nat.reduceEqDiff, Nat.reduceLT, Nat.reduceAdd, Nat.reduceSub, Nat.reduceLeDiff, List.reduceReplicate, Int.reduceToNat]
  have : decide (0 ≤ r) = !l.all (mmay · n) := by
    rcases hcase with ⟨rfl, h⟩ | ⟨h0, y, hy, h⟩
    · have : l.all (mmay · n) = true := List.all_eq_true.2 h
      rw [this]; rfl
    · have : l.all (mmay · n) = false := by
        rw [List.all_eq_false]; exact ⟨y, hy, by simp [h]⟩
      rw [this]; simpa using h0
  rw [this]; exact hK h'

def micro_Check.C : Contract
  | [.sl _ (.mics l), .int .i64 n] => some (false, pD (roomy l.length) (.bool (sizedB n && l.all (mmay · n))))
  | _ => none
set_option maxRecDepth 20000 in
theorem micro_Check.spec : FSpec Try.prog 70 micro_Check.C := by
  refine FSpec.of (ctx_ok (F := []) (S := [(113, slices_ContainsFunc_sl_api_Micro_api_Micro.K)]) (by simp) (by simpa using slices_ContainsFunc_sl_api_Micro_api_Micro.spec) micro_Check.loops) micro_Check.at micro_Check.nm micro_Check.bd ?_
  intro vs b S v news e hS
  unfold micro_Check.C at e
  split at e
  rotate_left
  · cases e
  cases e
  rw [micro_Check.eq]
  unfold micro_Check.H
  simp (maxSteps := 4000000) only [go_sem, Nat.reduceEqDiff, Nat.reduceLT, Nat.reduceAdd, Nat.reduceSub, Nat.reduceLeDiff, List.reduceReplicate, Int.reduceToNat]
  refine ⟨by simp, ?_⟩
  rw [joinW_eq]
  simp only [guardW_bool]
  refine ⟨fun hs => ?_, fun hs => ?_⟩
  · apply contains_vc _ _ _ _ hS _ rfl
    intro h'
    simp only [go_sem, Nat.reduceEqDiff, Nat.reduceLT, Nat.reduceAdd, Nat.reduceSub, Nat.reduceLeDiff, List.reduceReplicate, Int.reduceToNat, Bool.not_not]
    exact post_val (by rw [show sizedB _ = true from hs, Bool.true_and]; rfl) rfl
  · simp only [go_sem, Nat.reduceEqDiff, Nat.reduceLT, Nat.reduceAdd, Nat.reduceSub, Nat.reduceLeDiff, List.reduceReplicate, Int.reduceToNat]
    exact post_val (by rw [show sizedB _ = false from hs, Bool.false_and]; rfl) rfl


def micro_doer_store.K : Con := fun args h K => match args with
  | [a0, a1] => micro_doer_store.H (ctx [(142, pmem_Put.C)] [] micro_doer_store.loops) a0 a1 h K
  | _ => False
theorem micro_doer_store.spec : SSpec Try.prog 136 micro_doer_store.K := by
  refine SSpec.of (ctx_ok (F := [(142, pmem_Put.C)]) (S := []) (by simpa using pmem_Put.spec) (by simp) micro_doer_store.loops) micro_doer_store.at micro_doer_store.nm micro_doer_store.bd ?_
  intro args h K hC
  unfold micro_doer_store.K at hC
  split at hC
  · rw [micro_doer_store.eq]; exact hC
  · exact hC.elim
def micro_doer_persist.K : Con := fun args h K => match args with
  | [a0, a1] => micro_doer_persist.H (ctx [(143, pmem_Flush.C), (144, pmem_Fence.C)] [] micro_doer_persist.loops) a0 a1 h K
  | _ => False
theorem micro_doer_persist.spec : SSpec Try.prog 137 micro_doer_persist.K := by
  refine SSpec.of (ctx_ok (F := [(143, pmem_Flush.C), (144, pmem_Fence.C)]) (S := []) (by simpa using ⟨pmem_Flush.spec, pmem_Fence.spec⟩) (by simp) micro_doer_persist.loops) micro_doer_persist.at micro_doer_persist.nm micro_doer_persist.bd ?_
  intro args h K hC
  unfold micro_doer_persist.K at hC
  split at hC
  · rw [micro_doer_persist.eq]; exact hC
  · exact hC.elim
def micro_kinds.K : Con := fun args h K => match args with
  | [] => micro_kinds.H (ctx [] [] micro_kinds.loops)  h K
  | _ => False
theorem micro_kinds.spec : SSpec Try.prog 125 micro_kinds.K := by
  refine SSpec.of (ctx_ok (F := []) (S := []) (by simp) (by simp) micro_kinds.loops) micro_kinds.at micro_kinds.nm micro_kinds.bd ?_
  intro args h K hC
  unfold micro_kinds.K at hC
  split at hC
  · rw [micro_kinds.eq]; exact hC
  · exact hC.elim
def micro_first.C : Contract
  | [.agg [.sl false (.ints .i64 vol), .sl false (.ints .i64 per), .sl false (.pends pend)], .sl _ (.mics l), .int .i64 n] => some (false, pD (Mm.ok ⟨vol, per, pend⟩ ∧ (∀ x ∈ l, MayN x vol.length) ∧ pend.length + l.length ≤ 1000000 ∧ 0 ≤ n ∧ n ≤ (l.length : Int)) (runS ⟨vol, per, pend⟩ (l.take n.toNat)).V)
  | _ => none
set_option maxRecDepth 20000 in
theorem micro_first.spec : FSpec Try.prog 105 micro_first.C := by
  refine FSpec.of (ctx_ok (F := []) (S := [(125, micro_kinds.K), (136, micro_doer_store.K), (137, micro_doer_persist.K)]) (by simp) (by simpa using ⟨micro_kinds.spec, micro_doer_store.spec, micro_doer_persist.spec⟩) micro_first.loops) micro_first.at micro_first.nm micro_first.bd ?_
  intro vs b S v news e hS
  unfold micro_first.C at e
  split at e
  rotate_left
  · cases e
  cases e
  rw [micro_first.eq]
  unfold micro_first.H
  simp (maxSteps := 4000000) only [go_sem, Nat.reduceEqDiff, Nat.reduceLT, Nat.reduceAdd, Nat.reduceSub, Nat.reduceLeDiff, List.reduceReplicate, Int.reduceToNat, micro_kinds.K, micro_kinds.H]
  rename_i vol per pend _ l n
  obtain ⟨ok, hl, hsz, hn0, hn1⟩ := hS
  rw [joinW_eq]
  unfold micro_first.L1
  refine loop1 (σ := Nat) (fun k => .int .i64 k) (fun k => [.box (memV vol per pend), .box (memV [] [] []), .box (.agg [(runS ⟨vol, per, pend⟩ (l.take k)).V]), .map (.ifn fun j => if j = 2 then some 137 else if j = 1 then some 136 else none)]) (fun k => n.toNat - k) (fun k => k ≤ n.toNat) 0 rfl rfl (Nat.zero_le _) ?_
  intro I back k hk
  have okk := runS_ok (l.take k) ok fun x hx => hl x ((List.take_sublist _ _).subset hx)
  have lenk := runS_len (l.take k) ⟨vol, per, pend⟩
  have pendk := runS_pend_le (l.take k) ⟨vol, per, pend⟩
  rw [List.length_take] at pendk
  simp only [] at lenk pendk
  simp only [go_sem, Nat.reduceEqDiff, Nat.reduceLT, Nat.reduceAdd, Nat.reduceSub, Nat.reduceLeDiff, List.reduceReplicate, Int.reduceToNat]
  refine ⟨fun hlt => ?_, fun hge => ?_⟩
  · have hkl : k < l.length := by omega
    have hnx : runS ⟨vol, per, pend⟩ (l.take (k + 1)) = stepM (runS ⟨vol, per, pend⟩ (l.take k)) (l.getD k ⟨0, 0, 0⟩) := by
      rw [take_next l k ⟨0, 0, 0⟩ hkl, runS_append]; rfl
    have hx := hl _ (getD_mem l k ⟨0, 0, 0⟩ hkl)
    generalize l.getD k ⟨0, 0, 0⟩ = x at *
    generalize runS ⟨vol, per, pend⟩ (l.take k) = m at *
    have hsm : smallM m.vol m.per m.pend := OkM.small okk (by omega)
    refine ⟨by omega, ?_⟩
    rcases hx with ⟨hkd, h0, h1⟩ | ⟨hkd, h0, h1, _⟩
    · have hp : placeB m.vol m.per m.pend x.at_ = true := place_iff.2 ⟨⟨h0, by omega⟩, okk⟩
      have hst : stepM m x = store m x.at_ x.val := by unfold stepM; rw [if_pos hkd]
      have e : (if x.kind = 2 then some 137 else if x.kind = 1 then some 136 else none : Option Nat) = some 136 := by rw [if_neg (by omega), if_pos hkd]
      simp only [e, micro_doer_store.K, micro_doer_store.H, pmem_Put.C, putM_ok hp, go_sem, Nat.reduceEqDiff, Nat.reduceLT, Nat.reduceAdd, Nat.reduceSub, Nat.reduceLeDiff, List.reduceReplicate, Int.reduceToNat]
      refine ⟨by omega, ⟨hsm, by unfold roomy; omega⟩, back (k + 1) (by omega) (by rw [wnext (by omega)]) ?_ (by omega)⟩
      rw [hnx, hst]; rfl
    · have hp : placeB m.vol m.per m.pend (firstI m.vol x.at_) = true := (OkM.first okk h0 (by omega)).2
      have hst : stepM m x = persist m x.at_ := by unfold stepM; rw [if_neg (by omega)]
      have e : (if x.kind = 2 then some 137 else if x.kind = 1 then some 136 else none : Option Nat) = some 137 := by rw [if_pos hkd]
      have okf := okk.flush x.at_
      simp only [e, micro_doer_persist.K, micro_doer_persist.H, pmem_Flush.C, flushM_ok hp, fenceM_ok, check_iff.2 okf, pmem_Fence.C, go_sem, Nat.reduceEqDiff, Nat.reduceLT, Nat.reduceAdd, Nat.reduceSub, Nat.reduceLeDiff, List.reduceReplicate, Int.reduceToNat]
      refine ⟨by omega, hsm, OkM.small okf (by rw [flushP_len]; omega), back (k + 1) (by omega) (by rw [wnext (by omega)]) ?_ (by omega)⟩
      rw [hnx, hst]; rfl
  · have : k = n.toNat := by omega
    subst this
    refine post_val ?_ rfl
    simp only [go_sem, Nat.reduceEqDiff, Nat.reduceLT, Nat.reduceAdd, Nat.reduceSub, Nat.reduceLeDiff, List.reduceReplicate, Int.reduceToNat]

def soundB (m : Mm) (l : List Mic) : Bool := m.okB && stepsB l m.vol.length
def micro_sound.C : Contract
  | [.agg [.sl false (.ints .i64 vol), .sl false (.ints .i64 per), .sl false (.pends pend)], .sl _ (.mics l)] => some (false, pD (smallM vol per pend ∧ roomy l.length) (.bool (soundB ⟨vol, per, pend⟩ l)))
  | _ => none
set_option maxRecDepth 20000 in
theorem micro_sound.spec : FSpec Try.prog 104 micro_sound.C := by
  refine FSpec.of (ctx_ok (F := [(124, pmem_Check.C), (70, micro_Check.C)]) (S := []) (by simpa using ⟨pmem_Check.spec, micro_Check.spec⟩) (by simp) micro_sound.loops) micro_sound.at micro_sound.nm micro_sound.bd ?_
  intro vs b S v news e hS
  unfold micro_sound.C at e
  split at e
  rotate_left
  · cases e
  cases e
  rw [micro_sound.eq]
  unfold micro_sound.H
  simp (maxSteps := 4000000) only [go_sem, Nat.reduceEqDiff, Nat.reduceLT, Nat.reduceAdd, Nat.reduceSub, Nat.reduceLeDiff, List.reduceReplicate, Int.reduceToNat, pmem_Check.C, micro_Check.C]
  exact ⟨hS.1, fun _ => hS.2, post_val rfl rfl⟩
/-- steps that may be, on a memory that may be -/
theorem sound_iff {m : Mm} {l : List Mic} : soundB m l = true ↔ m.ok ∧ ∀ x ∈ l, MayN x m.vol.length := by
  unfold soundB stepsB
  rw [Bool.and_eq_true, Bool.and_eq_true, Mm.ok_iff, List.all_eq_true]
  constructor
  · rintro ⟨h1, _, h2⟩
    exact ⟨h1, fun x hx => (mmay_iff h1.sz).1 (h2 x hx)⟩
  · rintro ⟨h1, h2⟩
    have hmd := h1.md
    have hsz := h1.sz
    refine ⟨h1, ?_, fun x hx => (mmay_iff h1.sz).2 (h2 x hx)⟩
    unfold sizedB
    simp only [Bool.and_eq_true, decide_eq_true_eq]
    refine ⟨⟨by omega, by omega⟩, ?_⟩
    rw [Int.tmod_eq_emod_of_nonneg (by omega)]; omega
def runV (m : Mm) (l : List Mic) : AV := if soundB m l = true then .tup [(runS m l).V, .int .i64 0] else .tup [m.V, .int .i64 40]
theorem runV_ok {m : Mm} {l : List Mic} (h : soundB m l = true) : runV m l = .tup [(runS m l).V, .int .i64 0] := by unfold runV; simp only [h, if_true]
theorem runV_no {m : Mm} {l : List Mic} (h : soundB m l = false) : runV m l = .tup [m.V, .int .i64 40] := by unfold runV; rw [h]; rfl
theorem runV_ex (m : Mm) (l : List Mic) : ∃ (A : Mm) (e : Int), runV m l = .tup [A.V, .int .i64 e] ∧ A.vol.length = m.vol.length ∧ A.per.length = m.per.length ∧ A.pend.length ≤ m.pend.length + l.length := by
  cases h : soundB m l with
  | true => exact ⟨_, _, runV_ok h, runS_len _ _, runS_per _ _, runS_pend_le _ _⟩
  | false => exact ⟨_, _, runV_no h, rfl, rfl, Nat.le_add_right _ _⟩
def micro_Run.C : Contract
  | [.agg [.sl false (.ints .i64 vol), .sl false (.ints .i64 per), .sl false (.pends pend)], .sl _ (.mics l)] => some (false, pD (smallM vol per pend ∧ pend.length + l.length ≤ 1000000) (runV ⟨vol, per, pend⟩ l))
  | _ => none
set_option maxRecDepth 20000 in
theorem micro_Run.spec : FSpec Try.prog 63 micro_Run.C := by
  refine FSpec.of (ctx_ok (F := [(104, micro_sound.C), (105, micro_first.C)]) (S := []) (by simpa using ⟨micro_sound.spec, micro_first.spec⟩) (by simp) micro_Run.loops) micro_Run.at micro_Run.nm micro_Run.bd ?_
  intro vs b S v news e hS
  unfold micro_Run.C at e
  split at e
  rotate_left
  · cases e
  cases e
  rw [micro_Run.eq]
  unfold micro_Run.H
  simp (maxSteps := 4000000) only [go_sem, Nat.reduceEqDiff, Nat.reduceLT, Nat.reduceAdd, Nat.reduceSub, Nat.reduceLeDiff, List.reduceReplicate, Int.reduceToNat, micro_sound.C, micro_first.C]
  rename_i vol per pend _ l
  obtain ⟨hs, hz⟩ := hS
  refine ⟨⟨hs, by unfold roomy; omega⟩, fun h => ?_, fun h => ?_⟩
  · unfold runV; rw [h]; exact post_val rfl rfl
  · obtain ⟨ok, hl⟩ := sound_iff.1 h
    refine ⟨⟨ok, hl, hz, by omega, by omega⟩, ?_⟩
    unfold runV; simp only [h, if_true]
    refine post_val ?_ rfl
    simp only [go_sem, Nat.reduceEqDiff, Nat.reduceLT, Nat.reduceAdd, Nat.reduceSub, Nat.reduceLeDiff, List.reduceReplicate, Int.reduceToNat, Int.toNat_natCast, List.take_length]
def micro_Do.C : Contract
  | [.agg [.sl false (.ints .i64 vol), .sl false (.ints .i64 per), .sl false (.pends pend)], .agg [.int .i64 a, .int .i64 b, .int .i64 c]] => some (false, pD (smallM vol per pend ∧ pend.length + 1 ≤ 1000000) (runV ⟨vol, per, pend⟩ [⟨a, b, c⟩]))
  | _ => none
set_option maxRecDepth 20000 in
theorem micro_Do.spec : FSpec Try.prog 65 micro_Do.C := by
  refine FSpec.of (ctx_ok (F := [(63, micro_Run.C)]) (S := []) (by simpa using micro_Run.spec) (by simp) micro_Do.loops) micro_Do.at micro_Do.nm micro_Do.bd ?_
  intro vs b S v news e hS
  unfold micro_Do.C at e
  split at e
  rotate_left
  · cases e
  cases e
  rw [micro_Do.eq]
  unfold micro_Do.H
  simp (maxSteps := 4000000) only [go_sem, Nat.reduceEqDiff, Nat.reduceLT, Nat.reduceAdd, Nat.reduceSub, Nat.reduceLeDiff, List.reduceReplicate, Int.reduceToNat, micro_Run.C]
  rename_i vol per pend a b c
  unfold runV
  cases h : soundB ⟨vol, per, pend⟩ [⟨a, b, c⟩]
  · simp only [joinW_eq, guard_tt, guard_tf, guard_ft, guard_ff, Int.reduceEq, Int.reduceLT, Int.reduceLE, decide_false, decide_true, Bool.not_false, Bool.not_true, Bool.not_not, not_true_eq_false, not_false_eq_true, true_implies, false_implies, implies_true, and_true, true_and, reduceCtorEq, Bool.and_self, Bool.or_self, Bool.and_true, Bool.true_and, Bool.false_eq_true, if_true, if_false, go_sem, Nat.reduceEqDiff, Nat.reduceLT, Nat.reduceAdd, Nat.reduceSub, Nat.reduceLeDiff, List.reduceReplicate, Int.reduceToNat]
    exact ⟨⟨hS.1, by omega⟩, post_val rfl rfl⟩
  · simp only [joinW_eq, guard_tt, guard_tf, guard_ft, guard_ff, Int.reduceEq, Int.reduceLT, Int.reduceLE, decide_false, decide_true, Bool.not_false, Bool.not_true, Bool.not_not, not_true_eq_false, not_false_eq_true, true_implies, false_implies, implies_true, and_true, true_and, reduceCtorEq, Bool.and_self, Bool.or_self, Bool.and_true, Bool.true_and, Bool.false_eq_true, if_true, if_false, go_sem, Nat.reduceEqDiff, Nat.reduceLT, Nat.reduceAdd, Nat.reduceSub, Nat.reduceLeDiff, List.reduceReplicate, Int.reduceToNat]
    exact ⟨⟨hS.1, by omega⟩, post_val rfl rfl⟩
def cutI (n : Int) (len : Nat) : Int := if (if (len : Int) < n then (len : Int) else n) > 0 then (if (len : Int) < n then (len : Int) else n) else 0
theorem cutI_range (n : Int) (len : Nat) : 0 ≤ cutI n len ∧ cutI n len ≤ (len : Int) := by unfold cutI; split <;> (try split) <;> omega
theorem cutI_nat {n len : Nat} (h : n ≤ len) : (cutI n len).toNat = n := by unfold cutI; split <;> (try split) <;> omega
def mcrashV (m : Mm) (l : List Mic) (n : Int) (keep : List Int) : AV := if soundB m l = true then .tup [.sl false (.ints .i64 (crashW keep (runS m (l.take (cutI n l.length).toNat)).per (runS m (l.take (cutI n l.length).toNat)).pend)), .int .i64 0] else .tup [.sl false (.ints .i64 []), .int .i64 40]
theorem mcrash_ok {m : Mm} {l : List Mic} {n : Int} {keep : List Int} (h : soundB m l = true) : mcrashV m l n keep = .tup [.sl false (.ints .i64 (crashW keep (runS m (l.take (cutI n l.length).toNat)).per (runS m (l.take (cutI n l.length).toNat)).pend)), .int .i64 0] := by unfold mcrashV; simp only [h, if_true]
theorem mcrash_no {m : Mm} {l : List Mic} {n : Int} {keep : List Int} (h : soundB m l = false) : mcrashV m l n keep = .tup [.sl false (.ints .i64 []), .int .i64 40] := by unfold mcrashV; rw [h]; rfl
theorem mcrash_ex (m : Mm) (l : List Mic) (n : Int) (keep : List Int) : ∃ (w : List Int) (e : Int), mcrashV m l n keep = .tup [.sl false (.ints .i64 w), .int .i64 e] ∧ w.length ≤ m.per.length := by
  cases h : soundB m l with
  | true => exact ⟨_, _, mcrash_ok h, by rw [crashW_len, runS_per]; exact Nat.le_refl _⟩
  | false => exact ⟨_, _, mcrash_no h, Nat.zero_le _⟩
def micro_Crash.C : Contract
  | [.agg [.sl false (.ints .i64 vol), .sl false (.ints .i64 per), .sl false (.pends pend)], .sl _ (.mics l), .int .i64 n, .sl _ (.ints .i64 keep)] => some (false, pD (smallM vol per pend ∧ pend.length + l.length ≤ 1000000 ∧ roomy keep.length ∧ i64s keep) (mcrashV ⟨vol, per, pend⟩ l n keep))
  | _ => none
set_option maxRecDepth 20000 in
theorem micro_Crash.spec : FSpec Try.prog 67 micro_Crash.C := by
  refine FSpec.of (ctx_ok (F := [(104, micro_sound.C), (105, micro_first.C), (111, pmem_Crash.C)]) (S := []) (by simpa using ⟨micro_sound.spec, micro_first.spec, pmem_Crash.spec⟩) (by simp) micro_Crash.loops) micro_Crash.at micro_Crash.nm micro_Crash.bd ?_
  intro vs b S v news e hS
  unfold micro_Crash.C at e
  split at e
  rotate_left
  · cases e
  cases e
  rw [micro_Crash.eq]
  unfold micro_Crash.H
  simp (maxSteps := 4000000) only [go_sem, Nat.reduceEqDiff, Nat.reduceLT, Nat.reduceAdd, Nat.reduceSub, Nat.reduceLeDiff, List.reduceReplicate, Int.reduceToNat, micro_sound.C, micro_first.C, pmem_Crash.C]
  rename_i vol per pend _ l n _ keep
  obtain ⟨hs, hz, hk1, hk2⟩ := hS
  have hfold : (if (if (l.length : Int) < n then (l.length : Int) else n) > 0 then (if (l.length : Int) < n then (l.length : Int) else n) else 0) = cutI n l.length := rfl
  rw [hfold]
  have hc := cutI_range n l.length
  refine ⟨⟨hs, by unfold roomy; omega⟩, fun h => ?_, fun h => ?_⟩
  · unfold mcrashV; rw [h]; exact post_val rfl rfl
  · obtain ⟨ok, hl⟩ := sound_iff.1 h
    unfold mcrashV; simp only [h, if_true]
    have okk := runS_ok (l.take (cutI n l.length).toNat) ok fun x hx => hl x ((List.take_sublist _ _).subset hx)
    have pendk := runS_pend_le (l.take (cutI n l.length).toNat) ⟨vol, per, pend⟩
    rw [List.length_take] at pendk
    simp only [] at pendk
    generalize runS ⟨vol, per, pend⟩ (l.take (cutI n l.length).toNat) = m at *
    have hsm : smallM m.vol m.per m.pend := OkM.small okk (by omega)
    have hck : checkB m.vol m.per m.pend = true := check_iff.2 okk
    simp only [hck, crashM_ok, go_sem, Nat.reduceEqDiff, Nat.reduceLT, Nat.reduceAdd, Nat.reduceSub, Nat.reduceLeDiff, List.reduceReplicate, Int.reduceToNat]
    exact ⟨⟨ok, hl, hz, hc⟩, ⟨hsm, hk1, hk2⟩, post_val rfl rfl⟩
end Lam
namespace Lam
open Go Go.Proofs
set_option linter.unusedVariables false
def lamplighterlaw05_awake.loops : Nat → LInfo
  | 6 => ⟨[], [], [], [(5, none), (3, some [41, 44])], []⟩
  | 8 => ⟨[], [], [], [(3, none), (5, some [48, 53]), (2, none), (5, some [55, 60]), (2, none), (5, some [62, 67]), (2, none), (2, some [69, 71]), (2, none), (4, some [73, 77]), (2, none), (4, some [79, 83]), (2, none), (2, some [85, 87]), (2, none), (2, some [89, 91]), (2, none), (3, some [93, 96])], []⟩
  | _ => ⟨[], [], [], [], []⟩
def lamplighterlaw05_awake.H (c : Ctx) (h : List AObj) (K : AOut → List AObj → Prop) : Prop :=
  runD (makeSliceD T_sl_int (.int .i64 8) (.int .i64 8) h.length) h fun t11 h =>
  callW c (.fn (.func 103) [] []) [t11] h (fun t12 h =>
  runD (extractD t12 0) h fun t13 h =>
  runD (extractD t12 1) h fun t14 h =>
  allocW T_api_Mem h fun t1 h =>
  runH (storeH T_api_Mem h t1 t13) h fun _ h =>
  runD (buildD T_api_Micro [(0, (.int .i64 1)), (1, (.int .i64 2)), (2, (.int .i64 7))]) h fun t15 h =>
  runD (buildD T_api_Micro [(0, (.int .i64 2))]) h fun t16 h =>
  runD (buildD T_api_Micro [(0, (.int .i64 1)), (1, (.int .i64 3)), (2, (.int .i64 9))]) h fun t17 h =>
  runD (buildSliceD T_sl_api_Micro 3 [(0, t15), (1, t16), (2, t17)] h.length) h fun t18 h =>
  runD (fitD T_api_Mem (loadD h t1)) h fun t20 h =>
  callW c (.fn (.func 63) [] []) [t20, t18] h (fun t22 h =>
  runD (extractD t22 0) h fun t23 h =>
  runD (extractD t22 1) h fun t24 h =>
  allocW T_api_Mem h fun t4 h =>
  runH (storeH T_api_Mem h t4 t23) h fun _ h =>
  runD (fitD T_api_Mem (loadD h t1)) h fun t26 h =>
  callW c (.fn (.func 67) [] []) [t26, t18, (.int .i64 3), (.sl true (.ints .i64 []))] h (fun t28 h =>
  runD (extractD t28 0) h fun t29 h =>
  runD (extractD t28 1) h fun t30 h =>
  runD (fitD T_api_Mem (loadD h t1)) h fun t32 h =>
  runD (buildD T_api_Micro []) h fun t33 h =>
  callW c (.fn (.func 65) [] []) [t32, t33] h (fun t34 h =>
  runD (extractD t34 0) h fun t35 h =>
  runD (extractD t34 1) h fun t36 h =>
  allocW T_api_Mem h fun t8 h =>
  runH (storeH T_api_Mem h t8 t35) h fun _ h =>
  runD (fieldAddrD T_api_Mem t4 0) h fun t37 h =>
  runD (fitD T_sl_int (loadD h t37)) h fun t38 h =>
  runD (lenD T_sl_int h t38) h fun t39 h =>
  runD (binD T_int .neq t39 (.int .i64 8)) h fun t40 h =>
  joinW (fun (J1 : AV → AV → List AObj → Prop) =>
  guardW t40 false
  (runD (lenD T_sl_int h t29) h fun t43 h =>
    runD (binD T_int .neq t43 (.int .i64 8)) h fun t44 h =>
    J1 (.bool false) t44 h)
  (J1 (.bool true) .und h))
  (fun t41 t44 h => runD (pickD t41 (.bool true) t44) h fun t45 h =>
  condW t45
  (K (.ret (.bool false)) h)
  (runD (binD T_api_Errno .eql t24 (.int .i64 0)) h fun t47 h =>
  joinW (fun (J2 : AV → AV → List AObj → Prop) =>
  guardW t47 true
  (runD (fieldAddrD T_api_Mem t4 0) h fun t49 h =>
    runD (fitD T_sl_int (loadD h t49)) h fun t50 h =>
    runD (indexAddrD T_sl_int h t50 (.int .i64 3)) h fun t51 h =>
    runD (fitD T_int (loadD h t51)) h fun t52 h =>
    runD (binD T_int .eql t52 (.int .i64 9)) h fun t53 h =>
    J2 (.bool true) t53 h)
  (J2 (.bool false) .und h))
  (fun t48 t53 h => runD (pickD t48 t53 (.bool false)) h fun t54 h =>
  joinW (fun (J3 : AV → AV → List AObj → Prop) =>
  guardW t54 true
  (runD (fieldAddrD T_api_Mem t4 1) h fun t56 h =>
    runD (fitD T_sl_int (loadD h t56)) h fun t57 h =>
    runD (indexAddrD T_sl_int h t57 (.int .i64 2)) h fun t58 h =>
    runD (fitD T_int (loadD h t58)) h fun t59 h =>
    runD (binD T_int .eql t59 (.int .i64 7)) h fun t60 h =>
    J3 (.bool true) t60 h)
  (J3 (.bool false) .und h))
  (fun t55 t60 h => runD (pickD t55 t60 (.bool false)) h fun t61 h =>
  joinW (fun (J4 : AV → AV → List AObj → Prop) =>
  guardW t61 true
  (runD (fieldAddrD T_api_Mem t4 1) h fun t63 h =>
    runD (fitD T_sl_int (loadD h t63)) h fun t64 h =>
    runD (indexAddrD T_sl_int h t64 (.int .i64 3)) h fun t65 h =>
    runD (fitD T_int (loadD h t65)) h fun t66 h =>
    runD (binD T_int .eql t66 (.int .i64 0)) h fun t67 h =>
    J4 (.bool true) t67 h)
  (J4 (.bool false) .und h))
  (fun t62 t67 h => runD (pickD t62 t67 (.bool false)) h fun t68 h =>
  joinW (fun (J5 : AV → AV → List AObj → Prop) =>
  guardW t68 true
  (runD (binD T_api_Errno .eql t30 (.int .i64 0)) h fun t71 h =>
    J5 (.bool true) t71 h)
  (J5 (.bool false) .und h))
  (fun t69 t71 h => runD (pickD t69 t71 (.bool false)) h fun t72 h =>
  joinW (fun (J6 : AV → AV → List AObj → Prop) =>
  guardW t72 true
  (runD (indexAddrD T_sl_int h t29 (.int .i64 2)) h fun t75 h =>
    runD (fitD T_int (loadD h t75)) h fun t76 h =>
    runD (binD T_int .eql t76 (.int .i64 7)) h fun t77 h =>
    J6 (.bool true) t77 h)
  (J6 (.bool false) .und h))
  (fun t73 t77 h => runD (pickD t73 t77 (.bool false)) h fun t78 h =>
  joinW (fun (J7 : AV → AV → List AObj → Prop) =>
  guardW t78 true
  (runD (indexAddrD T_sl_int h t29 (.int .i64 3)) h fun t81 h =>
    runD (fitD T_int (loadD h t81)) h fun t82 h =>
    runD (binD T_int .eql t82 (.int .i64 0)) h fun t83 h =>
    J7 (.bool true) t83 h)
  (J7 (.bool false) .und h))
  (fun t79 t83 h => runD (pickD t79 t83 (.bool false)) h fun t84 h =>
  joinW (fun (J8 : AV → AV → List AObj → Prop) =>
  guardW t84 true
  (runD (binD T_api_Errno .eql t36 (.int .i64 40)) h fun t87 h =>
    J8 (.bool true) t87 h)
  (J8 (.bool false) .und h))
  (fun t85 t87 h => runD (pickD t85 t87 (.bool false)) h fun t88 h =>
  joinW (fun (J9 : AV → AV → List AObj → Prop) =>
  guardW t88 true
  (callW c (.fn (.func 70) [] []) [t18, (.int .i64 8)] h (fun t91 h =>
    J9 (.bool true) t91 h)
    (fun v h => K (.pan v) h))
  (J9 (.bool false) .und h))
  (fun t89 t91 h => runD (pickD t89 t91 (.bool false)) h fun t92 h =>
  joinW (fun (J10 : AV → AV → List AObj → Prop) =>
  guardW t92 true
  (callW c (.fn (.func 70) [] []) [t18, (.int .i64 0)] h (fun t95 h =>
    runD (unD .not t95) h fun t96 h =>
    J10 (.bool true) t96 h)
    (fun v h => K (.pan v) h))
  (J10 (.bool false) .und h))
  (fun t93 t96 h => runD (pickD t93 t96 (.bool false)) h fun t97 h =>
  runD (pickD t97 (.bool true) (.bool false)) h fun t99 h =>
  K (.ret t99) h))))))))))))
  (fun v h => K (.pan v) h))
  (fun v h => K (.pan v) h))
  (fun v h => K (.pan v) h))
  (fun v h => K (.pan v) h)
theorem lamplighterlaw05_awake.eq (F : List (FuncId × Contract)) (S : List (FuncId × Con)) (h : List AObj) (K : AOut → List AObj → Prop) : funW (ctx F S lamplighterlaw05_awake.loops) Try.f61 [] h K = lamplighterlaw05_awake.H (ctx F S lamplighterlaw05_awake.loops)  h K := by kernel_rfl
theorem lamplighterlaw05_awake.at : Try.prog.funcs[61]? = some Try.f61 := by kernel_rfl
theorem lamplighterlaw05_awake.nm : (Try.f61.name == "runtime.NumGoroutine") = false := by kernel_rfl
theorem lamplighterlaw05_awake.bd : Try.f61.body.isNone = false := by kernel_rfl
end Lam
namespace Lam
open Go Go.Proofs
set_option linter.unusedVariables false
set_option linter.unnecessarySimpa false
set_option linter.unusedSimpArgs false
theorem aw5_0 : newM [0, 0, 0, 0, 0, 0, 0, 0] = .tup [memV [0, 0, 0, 0, 0, 0, 0, 0] [0, 0, 0, 0, 0, 0, 0, 0] [], .int .i64 0] := by
  unfold newM; rw [show szB _ = true from by decide +kernel]; rfl
theorem aw5_1 : runV ⟨[0, 0, 0, 0, 0, 0, 0, 0], [0, 0, 0, 0, 0, 0, 0, 0], []⟩ [⟨1, 2, 7⟩, ⟨2, 0, 0⟩, ⟨1, 3, 9⟩] = .tup [memV [0, 0, 7, 9, 0, 0, 0, 0] [0, 0, 7, 0, 0, 0, 0, 0] [⟨3, 9, false⟩], .int .i64 0] := by
  rw [runV_ok (by decide +kernel), show runS ⟨[0, 0, 0, 0, 0, 0, 0, 0], [0, 0, 0, 0, 0, 0, 0, 0], []⟩ [⟨1, 2, 7⟩, ⟨2, 0, 0⟩, ⟨1, 3, 9⟩] = ⟨[0, 0, 7, 9, 0, 0, 0, 0], [0, 0, 7, 0, 0, 0, 0, 0], [⟨3, 9, false⟩]⟩ from by decide +kernel]; rfl
theorem aw5_2 : mcrashV ⟨[0, 0, 0, 0, 0, 0, 0, 0], [0, 0, 0, 0, 0, 0, 0, 0], []⟩ [⟨1, 2, 7⟩, ⟨2, 0, 0⟩, ⟨1, 3, 9⟩] 3 [] = .tup [.sl false (.ints .i64 [0, 0, 7, 0, 0, 0, 0, 0]), .int .i64 0] := by
  rw [mcrash_ok (by decide +kernel), show crashW [] _ _ = [0, 0, 7, 0, 0, 0, 0, 0] from by decide +kernel]
theorem aw5_3 : runV ⟨[0, 0, 0, 0, 0, 0, 0, 0], [0, 0, 0, 0, 0, 0, 0, 0], []⟩ [⟨0, 0, 0⟩] = .tup [memV [0, 0, 0, 0, 0, 0, 0, 0] [0, 0, 0, 0, 0, 0, 0, 0] [], .int .i64 40] := by
  rw [runV_no (by decide +kernel)]; rfl
theorem aw5_4 : (sizedB 8 && [(⟨1, 2, 7⟩ : Mic), ⟨2, 0, 0⟩, ⟨1, 3, 9⟩].all fun x => mmay x 8) = true := by decide +kernel
theorem aw5_5 : (sizedB 0 && [(⟨1, 2, 7⟩ : Mic), ⟨2, 0, 0⟩, ⟨1, 3, 9⟩].all fun x => mmay x 0) = false := by decide +kernel
def lamplighterlaw05_awake.C : Contract
  | [] => some (false, pD True (.bool true))
  | _ => none
set_option maxRecDepth 20000 in
theorem lamplighterlaw05_awake.spec : FSpec Try.prog 61 lamplighterlaw05_awake.C := by
  refine FSpec.of (ctx_ok (F := [(103, pmem_New.C), (63, micro_Run.C), (67, micro_Crash.C), (65, micro_Do.C), (70, micro_Check.C)]) (S := []) (by simpa using ⟨pmem_New.spec, micro_Run.spec, micro_Crash.spec, micro_Do.spec, micro_Check.spec⟩) (by simp) lamplighterlaw05_awake.loops) lamplighterlaw05_awake.at lamplighterlaw05_awake.nm lamplighterlaw05_awake.bd ?_
  intro vs b S v news e hS
  unfold lamplighterlaw05_awake.C at e
  split at e
  rotate_left
  · cases e
  cases e
  rw [lamplighterlaw05_awake.eq]
  unfold lamplighterlaw05_awake.H
  simp (maxSteps := 4000000) only [go_sem, Nat.reduceEqDiff, Nat.reduceLT, Nat.reduceAdd, Nat.reduceSub, Nat.reduceLeDiff, List.reduceReplicate, Int.reduceToNat, pmem_New.C, micro_Run.C, micro_Crash.C, micro_Do.C, micro_Check.C, aw5_0, aw5_1, aw5_2, aw5_3, aw5_4, aw5_5]
  and_intros
  all_goals first | exact post_val rfl rfl | (simp [roomy, i64s]; done)
  all_goals trace_state
end Lam
namespace Lam
open Go Go.Proofs
set_option linter.unusedVariables false
def lamplighterref02_Numbers.loops : Nat → LInfo
  | 4 => ⟨[5], [false], [0, 1], [], []⟩
  | _ => ⟨[], [], [], [], []⟩
def lamplighterref02_Numbers.L1 (c : Ctx) (J1 : List AObj → Prop) (K : AOut → List AObj → Prop) (lv : List AV) (h0 : List AObj) (n0 : Nat) (c0 : AV) (c1 : AV) : Prop :=
  ∃ I : Nat → List AV → List AObj → Prop, (∃ n, I n lv h0) ∧ ∀ n h, ∀ t5, I n [t5] h →
    runD (lenD T_sl_int h c0) h fun t13 h =>
    runD (binD T_int .lss t5 t13) h fun t14 h =>
    condW t14
    (runD (indexAddrD T_sl_int h c0 t5) h fun t19 h =>
    runD (fitD T_int (loadD h t19)) h fun t20 h =>
    runD (indexAddrD T_sl_int h c1 t5) h fun t23 h =>
    runD (fitD T_int (loadD h t23)) h fun t24 h =>
    runD (binD T_int .neq t20 t24) h fun t25 h =>
    condW t25
    (K (.ret (.bool false)) h)
    (runD (binD T_int .add t5 (.int .i64 1)) h fun t16 h =>
    (∃ m, m < n ∧ I m (AV.norms n0 h [t16]) (normH n0 h)) ∧ AV.norms n0 h [c0, c1] = [c0, c1]))
    (J1 h)
def lamplighterref02_Numbers.H (c : Ctx) (t0 : AV) (t1 : AV) (h : List AObj) (K : AOut → List AObj → Prop) : Prop :=
  runD (lenD T_sl_int h t0) h fun t7 h =>
  runD (lenD T_sl_int h t1) h fun t9 h =>
  runD (binD T_int .neq t7 t9) h fun t10 h =>
  condW t10
  (K (.ret (.bool false)) h)
  (joinW (fun (J1 : List AObj → Prop) =>
  promV [false] [(.int .i64 0)] h fun lv h => lamplighterref02_Numbers.L1 c J1 K (AV.norms h.length h lv) (normH h.length h) h.length (AV.norm h.length h t0) (AV.norm h.length h t1))
  (fun h => K (.ret (.bool true)) h))
def lamplighterref02_Text.loops : Nat → LInfo
  | 1 => ⟨[], [], [], [(3, none), (5, some [15, 20])], []⟩
  | 5 => ⟨[6, 7], [true, false], [0, 1], [], []⟩
  | 12 => ⟨[8, 9, 10], [false, false, false], [0, 1, 6, 7], [], []⟩
  | _ => ⟨[], [], [], [], []⟩
def lamplighterref02_Text.L2 (c : Ctx) (J4 : AV → AV → AV → AV → AV → List AObj → Prop) (K : AOut → List AObj → Prop) (lv : List AV) (h0 : List AObj) (n0 : Nat) (c0 : AV) (c1 : AV) (c6 : AV) (c7 : AV) : Prop :=
  ∃ I : Nat → List AV → List AObj → Prop, (∃ n, I n lv h0) ∧ ∀ n h, ∀ t8, ∀ t9, ∀ t10, I n [t8, t9, t10] h →
    runD (binD T_int .lss t10 (.int .i64 7)) h fun t38 h =>
    condW t38
    (runD (binD T_int .rem t9 (.int .i64 256)) h fun t42 h =>
    runD (convD h T_int T_uint8 t42) h fun t43 h =>
    runD (buildSliceD T_sl_uint8 1 [(0, t43)] h.length) h fun t44 h =>
    runDM (appendD T_sl_uint8 h t44 t8 h.length) (appendH T_sl_uint8 h t44 t8) h fun t46 h =>
    runD (binD T_int .quo t9 (.int .i64 256)) h fun t48 h =>
    runD (binD T_int .add t10 (.int .i64 1)) h fun t40 h =>
    (∃ m, m < n ∧ I m (AV.norms n0 h [t46, t48, t40]) (normH n0 h)) ∧ AV.norms n0 h [c0, c1, c6, c7] = [c0, c1, c6, c7])
    (J4 c0 c1 c6 c7 t8 h)
def lamplighterref02_Text.L1 (c : Ctx) (J2 : AV → AV → AV → List AObj → Prop) (K : AOut → List AObj → Prop) (lv : List AV) (h0 : List AObj) (n0 : Nat) (c0 : AV) (c1 : AV) : Prop :=
  ∃ I : Nat → List AV → List AObj → Prop, (∃ n, I n lv h0) ∧ ∀ n h, ∀ t6, ∀ t7, I n [t6, t7] h →
    runD (lenD T_sl_int h c0) h fun t24 h =>
    runD (binD T_int .lss t7 t24) h fun t25 h =>
    condW t25
    (joinW (fun (J3 : AV → AV → AV → AV → List AObj → Prop) =>
    runD (indexAddrD T_sl_int h c0 t7) h fun t30 h =>
    runD (fitD T_int (loadD h t30)) h fun t31 h =>
    runD (binD T_int .lss t31 (.int .i64 0)) h fun t32 h =>
    condW t32
    (K (.ret (.tup [(.str []), (.int .i64 20)])) h)
    (runD (indexAddrD T_sl_int h c0 t7) h fun t35 h =>
    runD (fitD T_int (loadD h t35)) h fun t36 h =>
    joinW (fun (J4 : AV → AV → AV → AV → AV → List AObj → Prop) =>
    promV [false, false, false] [(.sl true (.ints .u8 [])), t36, (.int .i64 0)] h fun lv h => lamplighterref02_Text.L2 c J4 K (AV.norms h.length h lv) (normH h.length h) h.length (AV.norm h.length h c0) (AV.norm h.length h c1) (AV.norm h.length h t6) (AV.norm h.length h t7))
    (fun t0 t1 t6 t7 t8 h => runDM (appendD T_sl_uint8 h t6 t8 h.length) (appendH T_sl_uint8 h t6 t8) h fun t51 h =>
    J3 t0 t1 t51 t7 h)))
    (fun t0 t1 t6 t7 h => runD (binD T_int .add t7 (.int .i64 1)) h fun t27 h =>
    (∃ m, m < n ∧ I m (AV.norms n0 h [t6, t27]) (normH n0 h)) ∧ AV.norms n0 h [t0, t1] = [c0, c1]))
    (J2 c0 c1 t6 h)
def lamplighterref02_Text.H (c : Ctx) (t0 : AV) (t1 : AV) (h : List AObj) (K : AOut → List AObj → Prop) : Prop :=
  runD (binD T_int .lss t1 (.int .i64 0)) h fun t14 h =>
  joinW (fun (J1 : AV → AV → List AObj → Prop) =>
  guardW t14 false
  (runD (lenD T_sl_int h t0) h fun t18 h =>
    runD (binD T_int .mul (.int .i64 7) t18) h fun t19 h =>
    runD (binD T_int .gtr t1 t19) h fun t20 h =>
    J1 (.bool false) t20 h)
  (J1 (.bool true) .und h))
  (fun t15 t20 h => runD (pickD t15 (.bool true) t20) h fun t21 h =>
  condW t21
  (K (.ret (.tup [(.str []), (.int .i64 20)])) h)
  (joinW (fun (J2 : AV → AV → AV → List AObj → Prop) =>
  promV [true, false] [(.sl true (.ints .u8 [])), (.int .i64 0)] h fun lv h => lamplighterref02_Text.L1 c J2 K (AV.norms h.length h lv) (normH h.length h) h.length (AV.norm h.length h t0) (AV.norm h.length h t1))
  (fun t0 t1 t6 h => runD (sliceD T_sl_uint8 h t6 none (some t1) none) h fun t54 h =>
  runD (convD h T_sl_uint8 T_string t54) h fun t55 h =>
  callW c (.fn (.func 121) [] []) [t55] h (fun t57 h =>
  callW c (.fn (.func 22) [] []) [t57, t0] h (fun t60 h =>
  runD (unD .not t60) h fun t61 h =>
  condW t61
  (K (.ret (.tup [(.str []), (.int .i64 20)])) h)
  (K (.ret (.tup [t55, (.int .i64 0)])) h))
  (fun v h => K (.pan v) h))
  (fun v h => K (.pan v) h))))
def lamplighterref02_Check.loops : Nat → LInfo
  | 1 => ⟨[], [], [], [(4, none), (3, some [6, 9])], []⟩
  | _ => ⟨[], [], [], [], []⟩
def lamplighterref02_Check.H (c : Ctx) (t0 : AV) (h : List AObj) (K : AOut → List AObj → Prop) : Prop :=
  runD (lenD T_string h t0) h fun t4 h =>
  runD (binD T_int .geq t4 (.int .i64 1)) h fun t5 h =>
  joinW (fun (J1 : AV → AV → List AObj → Prop) =>
  guardW t5 true
  (runD (lenD T_string h t0) h fun t8 h =>
    runD (binD T_int .leq t8 (.int .i64 21)) h fun t9 h =>
    J1 (.bool true) t9 h)
  (J1 (.bool false) .und h))
  (fun t6 t9 h => runD (pickD t6 t9 (.bool false)) h fun t10 h =>
  K (.ret t10) h)
def lamplighterref02_CheckVal.loops : Nat → LInfo
  | _ => ⟨[], [], [], [], []⟩
def lamplighterref02_CheckVal.H (c : Ctx) (t0 : AV) (h : List AObj) (K : AOut → List AObj → Prop) : Prop :=
  runD (lenD T_string h t0) h fun t4 h =>
  runD (binD T_int .leq t4 (.int .i64 21)) h fun t5 h =>
  K (.ret t5) h
def lamplighterref02_Words.loops : Nat → LInfo
  | 3 => ⟨[3, 4], [true, false], [0], [], []⟩
  | 7 => ⟨[5, 6], [false, false], [0, 3, 4], [], []⟩
  | _ => ⟨[], [], [], [], []⟩
def lamplighterref02_Words.L2 (c : Ctx) (J3 : AV → AV → AV → AV → List AObj → Prop) (K : AOut → List AObj → Prop) (lv : List AV) (h0 : List AObj) (n0 : Nat) (c0 : AV) (c3 : AV) (c4 : AV) : Prop :=
  ∃ I : Nat → List AV → List AObj → Prop, (∃ n, I n lv h0) ∧ ∀ n h, ∀ t5, ∀ t6, I n [t5, t6] h →
    runD (binD T_int .add c4 (.int .i64 7)) h fun t16 h =>
    runD (binD T_int .lss t6 t16) h fun t17 h =>
    condW t17
    (runD (binD T_int .mul t5 (.int .i64 256)) h fun t21 h =>
    runD (lenD T_string h c0) h fun t24 h =>
    runD (binD T_int .lss t6 t24) h fun t25 h =>
    joinW (fun (J4 : AV → List AObj → Prop) =>
    condW t25
    (runD (indexD T_string c0 t6) h fun t29 h =>
      runD (convD h T_uint8 T_int t29) h fun t30 h =>
      runD (binD T_int .add t21 t30) h fun t31 h =>
      J4 t31 h)
    (J4 t21 h))
    (fun t5 h => runD (binD T_int .add t6 (.int .i64 1)) h fun t19 h =>
    (∃ m, m < n ∧ I m (AV.norms n0 h [t5, t19]) (normH n0 h)) ∧ AV.norms n0 h [c0, c3, c4] = [c0, c3, c4]))
    (J3 c0 c3 c4 t5 h)
def lamplighterref02_Words.L1 (c : Ctx) (J1 : AV → List AObj → Prop) (K : AOut → List AObj → Prop) (lv : List AV) (h0 : List AObj) (n0 : Nat) (c0 : AV) : Prop :=
  ∃ I : Nat → List AV → List AObj → Prop, (∃ n, I n lv h0) ∧ ∀ n h, ∀ t3, ∀ t4, I n [t3, t4] h →
    runD (lenD T_string h c0) h fun t9 h =>
    runD (binD T_int .lss t4 t9) h fun t10 h =>
    condW t10
    (joinW (fun (J2 : AV → AV → AV → List AObj → Prop) =>
    joinW (fun (J3 : AV → AV → AV → AV → List AObj → Prop) =>
    promV [false, false] [(.int .i64 0), t4] h fun lv h => lamplighterref02_Words.L2 c J3 K (AV.norms h.length h lv) (normH h.length h) h.length (AV.norm h.length h c0) (AV.norm h.length h t3) (AV.norm h.length h t4))
    (fun t0 t3 t4 t5 h => runD (buildSliceD T_sl_int 1 [(0, t5)] h.length) h fun t34 h =>
    runDM (appendD T_sl_int h t3 t34 h.length) (appendH T_sl_int h t3 t34) h fun t35 h =>
    J2 t0 t35 t4 h))
    (fun t0 t3 t4 h => runD (binD T_int .add t4 (.int .i64 7)) h fun t12 h =>
    (∃ m, m < n ∧ I m (AV.norms n0 h [t3, t12]) (normH n0 h)) ∧ AV.norms n0 h [t0] = [c0]))
    (J1 t3 h)
def lamplighterref02_Words.H (c : Ctx) (t0 : AV) (h : List AObj) (K : AOut → List AObj → Prop) : Prop :=
  joinW (fun (J1 : AV → List AObj → Prop) =>
  promV [true, false] [(.sl true (.ints .i64 [])), (.int .i64 0)] h fun lv h => lamplighterref02_Words.L1 c J1 K (AV.norms h.length h lv) (normH h.length h) h.length (AV.norm h.length h t0))
  (fun t3 h => K (.ret t3) h)
theorem lamplighterref02_Numbers.eq (F : List (FuncId × Contract)) (S : List (FuncId × Con)) (t0 t1 : AV) (h : List AObj) (K : AOut → List AObj → Prop) : funW (ctx F S lamplighterref02_Numbers.loops) Try.f22 [t0, t1] h K = lamplighterref02_Numbers.H (ctx F S lamplighterref02_Numbers.loops) t0 t1 h K := by kernel_rfl
theorem lamplighterref02_Text.eq (F : List (FuncId × Contract)) (S : List (FuncId × Con)) (t0 t1 : AV) (h : List AObj) (K : AOut → List AObj → Prop) : funW (ctx F S lamplighterref02_Text.loops) Try.f98 [t0, t1] h K = lamplighterref02_Text.H (ctx F S lamplighterref02_Text.loops) t0 t1 h K := by kernel_rfl
theorem lamplighterref02_Check.eq (F : List (FuncId × Contract)) (S : List (FuncId × Con)) (t0 : AV) (h : List AObj) (K : AOut → List AObj → Prop) : funW (ctx F S lamplighterref02_Check.loops) Try.f101 [t0] h K = lamplighterref02_Check.H (ctx F S lamplighterref02_Check.loops) t0 h K := by kernel_rfl
theorem lamplighterref02_CheckVal.eq (F : List (FuncId × Contract)) (S : List (FuncId × Con)) (t0 : AV) (h : List AObj) (K : AOut → List AObj → Prop) : funW (ctx F S lamplighterref02_CheckVal.loops) Try.f102 [t0] h K = lamplighterref02_CheckVal.H (ctx F S lamplighterref02_CheckVal.loops) t0 h K := by kernel_rfl
theorem lamplighterref02_Words.eq (F : List (FuncId × Contract)) (S : List (FuncId × Con)) (t0 : AV) (h : List AObj) (K : AOut → List AObj → Prop) : funW (ctx F S lamplighterref02_Words.loops) Try.f121 [t0] h K = lamplighterref02_Words.H (ctx F S lamplighterref02_Words.loops) t0 h K := by kernel_rfl
theorem lamplighterref02_Numbers.at : Try.prog.funcs[22]? = some Try.f22 := by kernel_rfl
theorem lamplighterref02_Numbers.nm : (Try.f22.name == "runtime.NumGoroutine") = false := by kernel_rfl
theorem lamplighterref02_Numbers.bd : Try.f22.body.isNone = false := by kernel_rfl
theorem lamplighterref02_Text.at : Try.prog.funcs[98]? = some Try.f98 := by kernel_rfl
theorem lamplighterref02_Text.nm : (Try.f98.name == "runtime.NumGoroutine") = false := by kernel_rfl
theorem lamplighterref02_Text.bd : Try.f98.body.isNone = false := by kernel_rfl
theorem lamplighterref02_Check.at : Try.prog.funcs[101]? = some Try.f101 := by kernel_rfl
theorem lamplighterref02_Check.nm : (Try.f101.name == "runtime.NumGoroutine") = false := by kernel_rfl
theorem lamplighterref02_Check.bd : Try.f101.body.isNone = false := by kernel_rfl
theorem lamplighterref02_CheckVal.at : Try.prog.funcs[102]? = some Try.f102 := by kernel_rfl
theorem lamplighterref02_CheckVal.nm : (Try.f102.name == "runtime.NumGoroutine") = false := by kernel_rfl
theorem lamplighterref02_CheckVal.bd : Try.f102.body.isNone = false := by kernel_rfl
theorem lamplighterref02_Words.at : Try.prog.funcs[121]? = some Try.f121 := by kernel_rfl
theorem lamplighterref02_Words.nm : (Try.f121.name == "runtime.NumGoroutine") = false := by kernel_rfl
theorem lamplighterref02_Words.bd : Try.f121.body.isNone = false := by kernel_rfl
end Lam
namespace Lam
open Go Go.Proofs
set_option linter.unusedVariables false
set_option linter.unnecessarySimpa false
set_option linter.unusedSimpArgs false
def lamplighterref02_Numbers.C : Contract
  | [.sl _ (.ints .i64 a), .sl _ (.ints .i64 b)] => some (false, pD (roomy a.length) (.bool (decide (a = b))))
  | _ => none
set_option maxRecDepth 20000 in
theorem lamplighterref02_Numbers.spec : FSpec Try.prog 22 lamplighterref02_Numbers.C := by
  refine FSpec.of (ctx_ok (F := []) (S := []) (by simp) (by simp) lamplighterref02_Numbers.loops) lamplighterref02_Numbers.at lamplighterref02_Numbers.nm lamplighterref02_Numbers.bd ?_
  intro vs b S v news e hS
  unfold lamplighterref02_Numbers.C at e
  split at e
  rotate_left
  · cases e
  cases e
  rw [lamplighterref02_Numbers.eq]
  unfold lamplighterref02_Numbers.H
  simp (maxSteps := 4000000) only [go_sem, Nat.reduceEqDiff, Nat.reduceLT, Nat.reduceAdd, Nat.reduceSub, Nat.reduceLeDiff, List.reduceReplicate, Int.reduceToNat]
  rename_i a _ b
  unfold roomy at hS
  refine ⟨fun hne => ?_, fun heq => ?_⟩
  · have : decide (a = b) = false := by rw [decide_eq_false_iff_not]; rintro rfl; exact hne rfl
    rw [this]; exact post_val rfl rfl
  rw [joinW_eq]
  unfold lamplighterref02_Numbers.L1
  have hlen : a.length = b.length := by omega
  refine loop1 (fun k : Nat => .int .i64 k) (fun _ => []) (fun k => a.length - k) (fun k => k ≤ a.length ∧ ∀ i, i < k → a.getD i 0 = b.getD i 0) 0 rfl rfl ⟨Nat.zero_le _, fun i hi => absurd hi (Nat.not_lt_zero i)⟩ ?_
  rintro I back k ⟨hk, hall⟩
  simp only [go_sem, Nat.reduceEqDiff, Nat.reduceLT, Nat.reduceAdd, Nat.reduceSub, Nat.reduceLeDiff, List.reduceReplicate, Int.reduceToNat]
  refine ⟨fun hlt => ⟨by omega, by omega, fun h0 => ?_, fun h0 => ?_⟩, fun hge => ?_⟩
  · have : decide (a = b) = false := by rw [decide_eq_false_iff_not]; rintro rfl; exact h0 rfl
    rw [this]; exact post_val rfl rfl
  · refine back (k + 1) (by omega) (by rw [wnext (by omega)]) rfl ⟨by omega, fun i hi => ?_⟩
    by_cases e : i = k
    · subst e; exact h0
    · exact hall i (by omega)
  · rw [decide_eq_true (ext_d 0 hlen fun i hi => hall i (by omega))]; exact post_val rfl rfl
end Lam
namespace Lam
open Go Go.Proofs
set_option linter.unusedVariables false
def lamplighterref04_Few.loops : Nat → LInfo
  | 1 => ⟨[], [], [], [(5, none), (4, some [7, 11]), (2, none), (4, some [13, 17])], []⟩
  | _ => ⟨[], [], [], [], []⟩
def lamplighterref04_Few.H (c : Ctx) (t0 : AV) (h : List AObj) (K : AOut → List AObj → Prop) : Prop :=
  boxW T_api_Mem t0 h fun t1 h =>
  runD (fieldAddrD T_api_Mem t1 0) h fun t3 h =>
  runD (fitD T_sl_int (loadD h t3)) h fun t4 h =>
  runD (lenD T_sl_int h t4) h fun t5 h =>
  runD (binD T_int .leq t5 (.int .i64 300)) h fun t6 h =>
  joinW (fun (J1 : AV → AV → List AObj → Prop) =>
  guardW t6 true
  (runD (fieldAddrD T_api_Mem t1 1) h fun t8 h =>
    runD (fitD T_sl_int (loadD h t8)) h fun t9 h =>
    runD (lenD T_sl_int h t9) h fun t10 h =>
    runD (binD T_int .leq t10 (.int .i64 300)) h fun t11 h =>
    J1 (.bool true) t11 h)
  (J1 (.bool false) .und h))
  (fun t7 t11 h => runD (pickD t7 t11 (.bool false)) h fun t12 h =>
  joinW (fun (J2 : AV → AV → List AObj → Prop) =>
  guardW t12 true
  (runD (fieldAddrD T_api_Mem t1 2) h fun t14 h =>
    runD (fitD T_sl_api_Pending (loadD h t14)) h fun t15 h =>
    runD (lenD T_sl_api_Pending h t15) h fun t16 h =>
    runD (binD T_int .leq t16 (.int .i64 100)) h fun t17 h =>
    J2 (.bool true) t17 h)
  (J2 (.bool false) .und h))
  (fun t13 t17 h => runD (pickD t13 t17 (.bool false)) h fun t18 h =>
  K (.ret t18) h))
def lamplighterref04_Same.loops : Nat → LInfo
  | 3 => ⟨[], [], [], [(3, none), (2, some [20, 22]), (2, none), (7, some [24, 31])], []⟩
  | 6 => ⟨[7], [false], [2, 3], [], []⟩
  | _ => ⟨[], [], [], [], []⟩
def lamplighterref04_Same.L1 (c : Ctx) (J3 : List AObj → Prop) (K : AOut → List AObj → Prop) (lv : List AV) (h0 : List AObj) (n0 : Nat) (c2 : AV) (c3 : AV) : Prop :=
  ∃ I : Nat → List AV → List AObj → Prop, (∃ n, I n lv h0) ∧ ∀ n h, ∀ t7, I n [t7] h →
    runD (fieldAddrD T_api_Mem c2 2) h fun t34 h =>
    runD (fitD T_sl_api_Pending (loadD h t34)) h fun t35 h =>
    runD (lenD T_sl_api_Pending h t35) h fun t36 h =>
    runD (binD T_int .lss t7 t36) h fun t37 h =>
    condW t37
    (runD (fieldAddrD T_api_Mem c2 2) h fun t40 h =>
    runD (fitD T_sl_api_Pending (loadD h t40)) h fun t41 h =>
    runD (indexAddrD T_sl_api_Pending h t41 t7) h fun t43 h =>
    runD (fitD T_api_Pending (loadD h t43)) h fun t44 h =>
    runD (fieldAddrD T_api_Mem c3 2) h fun t45 h =>
    runD (fitD T_sl_api_Pending (loadD h t45)) h fun t46 h =>
    runD (indexAddrD T_sl_api_Pending h t46 t7) h fun t48 h =>
    runD (fitD T_api_Pending (loadD h t48)) h fun t49 h =>
    runD (binD T_api_Pending .neq t44 t49) h fun t50 h =>
    condW t50
    (K (.ret (.bool false)) h)
    (runD (binD T_int .add t7 (.int .i64 1)) h fun t39 h =>
    (∃ m, m < n ∧ I m (AV.norms n0 h [t39]) (normH n0 h)) ∧ AV.norms n0 h [c2, c3] = [c2, c3]))
    (J3 h)
def lamplighterref04_Same.H (c : Ctx) (t0 : AV) (t1 : AV) (h : List AObj) (K : AOut → List AObj → Prop) : Prop :=
  boxW T_api_Mem t0 h fun t2 h =>
  boxW T_api_Mem t1 h fun t3 h =>
  runD (fieldAddrD T_api_Mem t2 0) h fun t8 h =>
  runD (fitD T_sl_int (loadD h t8)) h fun t9 h =>
  runD (fieldAddrD T_api_Mem t3 0) h fun t10 h =>
  runD (fitD T_sl_int (loadD h t10)) h fun t11 h =>
  callW c (.fn (.func 22) [] []) [t9, t11] h (fun t12 h =>
  runD (fieldAddrD T_api_Mem t2 1) h fun t13 h =>
  runD (fitD T_sl_int (loadD h t13)) h fun t14 h =>
  runD (fieldAddrD T_api_Mem t3 1) h fun t15 h =>
  runD (fitD T_sl_int (loadD h t15)) h fun t16 h =>
  callW c (.fn (.func 22) [] []) [t14, t16] h (fun t17 h =>
  runD (unD .not t12) h fun t19 h =>
  joinW (fun (J1 : AV → AV → List AObj → Prop) =>
  guardW t19 false
  (runD (unD .not t17) h fun t22 h =>
    J1 (.bool false) t22 h)
  (J1 (.bool true) .und h))
  (fun t20 t22 h => runD (pickD t20 (.bool true) t22) h fun t23 h =>
  joinW (fun (J2 : AV → AV → List AObj → Prop) =>
  guardW t23 false
  (runD (fieldAddrD T_api_Mem t2 2) h fun t25 h =>
    runD (fitD T_sl_api_Pending (loadD h t25)) h fun t26 h =>
    runD (lenD T_sl_api_Pending h t26) h fun t27 h =>
    runD (fieldAddrD T_api_Mem t3 2) h fun t28 h =>
    runD (fitD T_sl_api_Pending (loadD h t28)) h fun t29 h =>
    runD (lenD T_sl_api_Pending h t29) h fun t30 h =>
    runD (binD T_int .neq t27 t30) h fun t31 h =>
    J2 (.bool false) t31 h)
  (J2 (.bool true) .und h))
  (fun t24 t31 h => runD (pickD t24 (.bool true) t31) h fun t32 h =>
  condW t32
  (K (.ret (.bool false)) h)
  (joinW (fun (J3 : List AObj → Prop) =>
  promV [false] [(.int .i64 0)] h fun lv h => lamplighterref04_Same.L1 c J3 K (AV.norms h.length h lv) (normH h.length h) h.length (AV.norm h.length h t2) (AV.norm h.length h t3))
  (fun h => K (.ret (.bool true)) h)))))
  (fun v h => K (.pan v) h))
  (fun v h => K (.pan v) h)
def lamplighterref04_Check.loops : Nat → LInfo
  | 2 => ⟨[], [], [], [(6, none), (2, some [16, 18]), (2, none), (3, some [20, 23])], []⟩
  | 6 => ⟨[5], [false], [1, 3, 4], [], []⟩
  | 9 => ⟨[], [], [], [(4, none), (4, some [44, 48])], []⟩
  | 12 => ⟨[7], [false], [1, 3, 4, 5, 6], [(4, none), (2, some [53, 55])], []⟩
  | _ => ⟨[], [], [], [], []⟩
def lamplighterref04_Check.L2 (c : Ctx) (J6 : AV → AV → AV → AV → AV → List AObj → Prop) (K : AOut → List AObj → Prop) (lv : List AV) (h0 : List AObj) (n0 : Nat) (c1 : AV) (c3 : AV) (c4 : AV) (c5 : AV) (c6 : AV) : Prop :=
  ∃ I : Nat → List AV → List AObj → Prop, (∃ n, I n lv h0) ∧ ∀ n h, ∀ t7, I n [t7] h →
    runD (binD T_int .lss t7 c5) h fun t52 h =>
    joinW (fun (J7 : AV → AV → List AObj → Prop) =>
    guardW t52 true
    (runD (fieldAddrD T_api_Pending c6 2) h fun t54 h =>
      runD (fitD T_bool (loadD h t54)) h fun t55 h =>
      J7 (.bool true) t55 h)
    (J7 (.bool false) .und h))
    (fun t53 t55 h => runD (pickD t53 t55 (.bool false)) h fun t56 h =>
    condW t56
    (runD (fieldAddrD T_api_Mem c1 2) h fun t59 h =>
    runD (fitD T_sl_api_Pending (loadD h t59)) h fun t60 h =>
    runD (indexAddrD T_sl_api_Pending h t60 t7) h fun t62 h =>
    runD (fieldAddrD T_api_Pending t62 0) h fun t63 h =>
    runD (fitD T_int (loadD h t63)) h fun t64 h =>
    runD (binD T_int .quo t64 (.int .i64 8)) h fun t65 h =>
    runD (fieldAddrD T_api_Pending c6 0) h fun t66 h =>
    runD (fitD T_int (loadD h t66)) h fun t67 h =>
    runD (binD T_int .quo t67 (.int .i64 8)) h fun t68 h =>
    runD (binD T_int .eql t65 t68) h fun t69 h =>
    joinW (fun (J8 : AV → AV → List AObj → Prop) =>
    guardW t69 true
    (runD (fieldAddrD T_api_Mem c1 2) h fun t71 h =>
      runD (fitD T_sl_api_Pending (loadD h t71)) h fun t72 h =>
      runD (indexAddrD T_sl_api_Pending h t72 t7) h fun t74 h =>
      runD (fieldAddrD T_api_Pending t74 2) h fun t75 h =>
      runD (fitD T_bool (loadD h t75)) h fun t76 h =>
      runD (unD .not t76) h fun t77 h =>
      J8 (.bool true) t77 h)
    (J8 (.bool false) .und h))
    (fun t70 t77 h => runD (pickD t70 t77 (.bool false)) h fun t78 h =>
    condW t78
    (K (.ret (.bool false)) h)
    (runD (binD T_int .add t7 (.int .i64 1)) h fun t58 h =>
    (∃ m, m < n ∧ I m (AV.norms n0 h [t58]) (normH n0 h)) ∧ AV.norms n0 h [c1, c3, c4, c5, c6] = [c1, c3, c4, c5, c6])))
    (J6 c1 c3 c4 c5 c6 h))
def lamplighterref04_Check.L1 (c : Ctx) (J3 : AV → AV → List AObj → Prop) (K : AOut → List AObj → Prop) (lv : List AV) (h0 : List AObj) (n0 : Nat) (c1 : AV) (c3 : AV) (c4 : AV) : Prop :=
  ∃ I : Nat → List AV → List AObj → Prop, (∃ n, I n lv h0) ∧ ∀ n h, ∀ t5, I n [t5] h →
    runD (fieldAddrD T_api_Mem c1 2) h fun t30 h =>
    runD (fitD T_sl_api_Pending (loadD h t30)) h fun t31 h =>
    runD (lenD T_sl_api_Pending h t31) h fun t32 h =>
    runD (binD T_int .lss t5 t32) h fun t33 h =>
    condW t33
    (joinW (fun (J4 : AV → AV → AV → AV → List AObj → Prop) =>
    runD (fieldAddrD T_api_Mem c1 2) h fun t36 h =>
    runD (fitD T_sl_api_Pending (loadD h t36)) h fun t37 h =>
    runD (indexAddrD T_sl_api_Pending h t37 t5) h fun t39 h =>
    runD (fitD T_api_Pending (loadD h t39)) h fun t40 h =>
    allocW T_api_Pending h fun t6 h =>
    runH (storeH T_api_Pending h t6 t40) h fun _ h =>
    runD (fieldAddrD T_api_Pending t6 0) h fun t41 h =>
    runD (fitD T_int (loadD h t41)) h fun t42 h =>
    runD (binD T_int .lss t42 (.int .i64 0)) h fun t43 h =>
    joinW (fun (J5 : AV → AV → List AObj → Prop) =>
    guardW t43 false
    (runD (fieldAddrD T_api_Pending t6 0) h fun t45 h =>
      runD (fitD T_int (loadD h t45)) h fun t46 h =>
      runD (binD T_int .geq t46 c3) h fun t48 h =>
      J5 (.bool false) t48 h)
    (J5 (.bool true) .und h))
    (fun t44 t48 h => runD (pickD t44 (.bool true) t48) h fun t49 h =>
    condW t49
    (K (.ret (.bool false)) h)
    (joinW (fun (J6 : AV → AV → AV → AV → AV → List AObj → Prop) =>
    promV [false] [(.int .i64 0)] h fun lv h => lamplighterref04_Check.L2 c J6 K (AV.norms h.length h lv) (normH h.length h) h.length (AV.norm h.length h c1) (AV.norm h.length h c3) (AV.norm h.length h c4) (AV.norm h.length h t5) (AV.norm h.length h t6))
    (fun t1 t3 t4 t5 t6 h => runD (fieldAddrD T_api_Pending t6 0) h fun t80 h =>
    runD (fitD T_int (loadD h t80)) h fun t81 h =>
    runD (fieldAddrD T_api_Pending t6 1) h fun t82 h =>
    runD (fitD T_int (loadD h t82)) h fun t83 h =>
    runD (indexAddrD T_sl_int h t4 t81) h fun t84 h =>
    runH (storeH T_int h t84 t83) h fun _ h =>
    J4 t1 t3 t4 t5 h))))
    (fun t1 t3 t4 t5 h => runD (binD T_int .add t5 (.int .i64 1)) h fun t35 h =>
    (∃ m, m < n ∧ I m (AV.norms n0 h [t35]) (normH n0 h)) ∧ AV.norms n0 h [t1, t3, t4] = [c1, c3, c4]))
    (J3 c1 c4 h)
def lamplighterref04_Check.H (c : Ctx) (t0 : AV) (h : List AObj) (K : AOut → List AObj → Prop) : Prop :=
  boxW T_api_Mem t0 h fun t1 h =>
  runD (fieldAddrD T_api_Mem t1 0) h fun t8 h =>
  runD (fitD T_sl_int (loadD h t8)) h fun t9 h =>
  runD (lenD T_sl_int h t9) h fun t10 h =>
  runD (fieldAddrD T_api_Mem t1 1) h fun t12 h =>
  runD (fitD T_sl_int (loadD h t12)) h fun t13 h =>
  runD (lenD T_sl_int h t13) h fun t14 h =>
  runD (binD T_int .neq t10 t14) h fun t15 h =>
  joinW (fun (J1 : AV → AV → List AObj → Prop) =>
  guardW t15 false
  (runD (binD T_int .gtr t10 (.int .i64 4096)) h fun t18 h =>
    J1 (.bool false) t18 h)
  (J1 (.bool true) .und h))
  (fun t16 t18 h => runD (pickD t16 (.bool true) t18) h fun t19 h =>
  joinW (fun (J2 : AV → AV → List AObj → Prop) =>
  guardW t19 false
  (runD (binD T_int .rem t10 (.int .i64 8)) h fun t22 h =>
    runD (binD T_int .neq t22 (.int .i64 0)) h fun t23 h =>
    J2 (.bool false) t23 h)
  (J2 (.bool true) .und h))
  (fun t20 t23 h => runD (pickD t20 (.bool true) t23) h fun t24 h =>
  condW t24
  (K (.ret (.bool false)) h)
  (runD (buildSliceD T_sl_int 0 [] h.length) h fun t25 h =>
  runD (fieldAddrD T_api_Mem t1 1) h fun t26 h =>
  runD (fitD T_sl_int (loadD h t26)) h fun t27 h =>
  runDM (appendD T_sl_int h t25 t27 h.length) (appendH T_sl_int h t25 t27) h fun t28 h =>
  joinW (fun (J3 : AV → AV → List AObj → Prop) =>
  promV [false] [(.int .i64 0)] h fun lv h => lamplighterref04_Check.L1 c J3 K (AV.norms h.length h lv) (normH h.length h) h.length (AV.norm h.length h t1) (AV.norm h.length h t10) (AV.norm h.length h t28))
  (fun t1 t4 h => runD (fieldAddrD T_api_Mem t1 0) h fun t86 h =>
  runD (fitD T_sl_int (loadD h t86)) h fun t87 h =>
  callW c (.fn (.func 22) [] []) [t4, t87] h (fun t88 h =>
  K (.ret t88) h)
  (fun v h => K (.pan v) h)))))
def lamplighterref04_Put.loops : Nat → LInfo
  | 2 => ⟨[], [], [], [(3, none), (2, some [13, 15]), (2, none), (5, some [17, 22])], []⟩
  | _ => ⟨[], [], [], [], []⟩
def lamplighterref04_Put.H (c : Ctx) (t0 : AV) (t1 : AV) (t2 : AV) (h : List AObj) (K : AOut → List AObj → Prop) : Prop :=
  boxW T_api_Mem t0 h fun t3 h =>
  allocW T_api_Mem h fun t6 h =>
  runD (fitD T_api_Mem (loadD h t3)) h fun t9 h =>
  callW c (.fn (.func 106) [] []) [t9] h (fun t10 h =>
  runD (unD .not t10) h fun t12 h =>
  joinW (fun (J1 : AV → AV → List AObj → Prop) =>
  guardW t12 false
  (runD (binD T_int .lss t1 (.int .i64 0)) h fun t15 h =>
    J1 (.bool false) t15 h)
  (J1 (.bool true) .und h))
  (fun t13 t15 h => runD (pickD t13 (.bool true) t15) h fun t16 h =>
  joinW (fun (J2 : AV → AV → List AObj → Prop) =>
  guardW t16 false
  (runD (fieldAddrD T_api_Mem t3 0) h fun t19 h =>
    runD (fitD T_sl_int (loadD h t19)) h fun t20 h =>
    runD (lenD T_sl_int h t20) h fun t21 h =>
    runD (binD T_int .geq t1 t21) h fun t22 h =>
    J2 (.bool false) t22 h)
  (J2 (.bool true) .und h))
  (fun t17 t22 h => runD (pickD t17 (.bool true) t22) h fun t23 h =>
  condW t23
  (runD (fitD T_api_Mem (loadD h t3)) h fun t24 h =>
    runH (storeH T_api_Mem h t6 t24) h fun _ h =>
    loadRes (fitD T_api_Mem (loadD h t6)) fun r0 => K (.ret (.tup [r0, (.int .i64 40)])) h)
  (runD (fieldAddrD T_api_Mem t3 0) h fun t25 h =>
  runD (fitD T_sl_int (loadD h t25)) h fun t26 h =>
  callW c.noS (.fn (.func 126) [] []) [t26, t1, t2] h (fun t29 h =>
  runD (fieldAddrD T_api_Mem t3 1) h fun t30 h =>
  runD (fitD T_sl_int (loadD h t30)) h fun t31 h =>
  runD (buildSliceD T_sl_api_Pending 0 [] h.length) h fun t32 h =>
  runD (fieldAddrD T_api_Mem t3 2) h fun t33 h =>
  runD (fitD T_sl_api_Pending (loadD h t33)) h fun t34 h =>
  runDM (appendD T_sl_api_Pending h t32 t34 h.length) (appendH T_sl_api_Pending h t32 t34) h fun t35 h =>
  runD (buildD T_api_Pending [(0, t1), (1, t2)]) h fun t38 h =>
  runD (buildSliceD T_sl_api_Pending 1 [(0, t38)] h.length) h fun t39 h =>
  runDM (appendD T_sl_api_Pending h t35 t39 h.length) (appendH T_sl_api_Pending h t35 t39) h fun t40 h =>
  runD (buildD T_api_Mem [(0, t29), (1, t31), (2, t40)]) h fun t41 h =>
  runH (storeH T_api_Mem h t6 t41) h fun _ h =>
  sepB t32 [t30] = true ∧ sepB t35 [t30] = true ∧ loadRes (fitD T_api_Mem (loadD h t6)) fun r0 => K (.ret (.tup [r0, (.int .i64 0)])) h)
  (fun _ _ => False)))))
  (fun v h => K (.pan v) h)
def lamplighterref04_Flush.loops : Nat → LInfo
  | 2 => ⟨[], [], [], [(3, none), (4, some [14, 18])], []⟩
  | 6 => ⟨[8], [false], [1, 2, 4, 7], [], [7]⟩
  | 9 => ⟨[], [], [], [(9, none), (5, some [46, 51])], []⟩
  | _ => ⟨[], [], [], [], []⟩
def lamplighterref04_Flush.L1 (c : Ctx) (J2 : AV → AV → List AObj → Prop) (K : AOut → List AObj → Prop) (lv : List AV) (h0 : List AObj) (n0 : Nat) (c1 : AV) (c2 : AV) (c4 : AV) (c7 : AV) : Prop :=
  ∃ I : Nat → List AV → List AObj → Prop, (∃ n, I n lv h0) ∧ ∀ n h, ∀ t8, I n [t8] h →
    runD (fieldAddrD T_api_Mem c2 2) h fun t27 h =>
    runD (fitD T_sl_api_Pending (loadD h t27)) h fun t28 h =>
    runD (lenD T_sl_api_Pending h t28) h fun t29 h =>
    runD (binD T_int .lss t8 t29) h fun t30 h =>
    condW t30
    (runD (fieldAddrD T_api_Mem c2 2) h fun t33 h =>
    runD (fitD T_sl_api_Pending (loadD h t33)) h fun t34 h =>
    runD (indexAddrD T_sl_api_Pending h t34 t8) h fun t36 h =>
    runD (fitD T_api_Pending (loadD h t36)) h fun t37 h =>
    allocW T_api_Pending h fun t9 h =>
    runH (storeH T_api_Pending h t9 t37) h fun _ h =>
    runD (fieldAddrD T_api_Mem c7 2) h fun t38 h =>
    runD (fitD T_sl_api_Pending (loadD h t38)) h fun t39 h =>
    runD (fieldAddrD T_api_Pending t9 0) h fun t40 h =>
    runD (fitD T_int (loadD h t40)) h fun t41 h =>
    runD (fieldAddrD T_api_Pending t9 1) h fun t42 h =>
    runD (fitD T_int (loadD h t42)) h fun t43 h =>
    runD (fieldAddrD T_api_Pending t9 2) h fun t44 h =>
    runD (fitD T_bool (loadD h t44)) h fun t45 h =>
    joinW (fun (J3 : AV → AV → List AObj → Prop) =>
    guardW t45 false
    (runD (fieldAddrD T_api_Pending t9 0) h fun t47 h =>
      runD (fitD T_int (loadD h t47)) h fun t48 h =>
      runD (binD T_int .quo t48 (.int .i64 8)) h fun t49 h =>
      runD (binD T_int .eql t49 c1) h fun t51 h =>
      J3 (.bool false) t51 h)
    (J3 (.bool true) .und h))
    (fun t46 t51 h => runD (pickD t46 (.bool true) t51) h fun t52 h =>
    runD (buildD T_api_Pending [(0, t41), (1, t43), (2, t52)]) h fun t53 h =>
    runD (buildSliceD T_sl_api_Pending 1 [(0, t53)] h.length) h fun t54 h =>
    runDM (appendD T_sl_api_Pending h t39 t54 h.length) (appendH T_sl_api_Pending h t39 t54) h fun t55 h =>
    runD (fieldAddrD T_api_Mem c7 2) h fun t56 h =>
    runH (storeH T_sl_api_Pending h t56 t55) h fun _ h =>
    runD (binD T_int .add t8 (.int .i64 1)) h fun t32 h =>
    (∃ m, m < n ∧ I m (AV.norms n0 h [t32]) (normH n0 h)) ∧ AV.norms n0 h [c1, c2, c4, c7] = [c1, c2, c4, c7]))
    (J2 c4 c7 h)
def lamplighterref04_Flush.H (c : Ctx) (t0 : AV) (t1 : AV) (h : List AObj) (K : AOut → List AObj → Prop) : Prop :=
  boxW T_api_Mem t0 h fun t2 h =>
  allocW T_api_Mem h fun t4 h =>
  runD (fitD T_api_Mem (loadD h t2)) h fun t10 h =>
  callW c (.fn (.func 106) [] []) [t10] h (fun t11 h =>
  runD (unD .not t11) h fun t13 h =>
  joinW (fun (J1 : AV → AV → List AObj → Prop) =>
  guardW t13 false
  (runD (fitD T_api_Mem (loadD h t2)) h fun t15 h =>
    callW c (.fn (.func 127) [] []) [t15, t1] h (fun t17 h =>
    runD (unD .not t17) h fun t18 h =>
    J1 (.bool false) t18 h)
    (fun v h => K (.pan v) h))
  (J1 (.bool true) .und h))
  (fun t14 t18 h => runD (pickD t14 (.bool true) t18) h fun t19 h =>
  condW t19
  (runD (fitD T_api_Mem (loadD h t2)) h fun t20 h =>
    runH (storeH T_api_Mem h t4 t20) h fun _ h =>
    loadRes (fitD T_api_Mem (loadD h t4)) fun r0 => K (.ret (.tup [r0, (.int .i64 40)])) h)
  (runD (fieldAddrD T_api_Mem t2 0) h fun t21 h =>
  runD (fitD T_sl_int (loadD h t21)) h fun t22 h =>
  runD (fieldAddrD T_api_Mem t2 1) h fun t23 h =>
  runD (fitD T_sl_int (loadD h t23)) h fun t24 h =>
  runD (buildD T_api_Mem [(0, t22), (1, t24)]) h fun t25 h =>
  allocW T_api_Mem h fun t7 h =>
  runH (storeH T_api_Mem h t7 t25) h fun _ h =>
  joinW (fun (J2 : AV → AV → List AObj → Prop) =>
  promV [false] [(.int .i64 0)] (boxH [t7] h) fun lv h => lamplighterref04_Flush.L1 c J2 K (AV.norms h.length h lv) (normH h.length h) h.length (AV.norm h.length h t1) (AV.norm h.length h t2) (AV.norm h.length h t4) (AV.norm h.length h t7))
  (fun t4 t7 h => runD (fitD T_api_Mem (loadD h t7)) h fun t57 h =>
  runH (storeH T_api_Mem h t4 t57) h fun _ h =>
  loadRes (fitD T_api_Mem (loadD h t4)) fun r0 => K (.ret (.tup [r0, (.int .i64 0)])) h))))
  (fun v h => K (.pan v) h)
def lamplighterref04_Fence.loops : Nat → LInfo
  | 6 => ⟨[5, 6], [true, false], [1, 2], [], []⟩
  | _ => ⟨[], [], [], [], []⟩
def lamplighterref04_Fence.L1 (c : Ctx) (J1 : AV → AV → AV → List AObj → Prop) (K : AOut → List AObj → Prop) (lv : List AV) (h0 : List AObj) (n0 : Nat) (c1 : AV) (c2 : AV) : Prop :=
  ∃ I : Nat → List AV → List AObj → Prop, (∃ n, I n lv h0) ∧ ∀ n h, ∀ t5, ∀ t6, I n [t5, t6] h →
    runD (fieldAddrD T_api_Mem c1 2) h fun t13 h =>
    runD (fitD T_sl_api_Pending (loadD h t13)) h fun t14 h =>
    runD (lenD T_sl_api_Pending h t14) h fun t15 h =>
    runD (binD T_int .lss t6 t15) h fun t16 h =>
    condW t16
    (runD (fieldAddrD T_api_Mem c1 2) h fun t20 h =>
    runD (fitD T_sl_api_Pending (loadD h t20)) h fun t21 h =>
    runD (indexAddrD T_sl_api_Pending h t21 t6) h fun t23 h =>
    runD (fieldAddrD T_api_Pending t23 2) h fun t24 h =>
    runD (fitD T_bool (loadD h t24)) h fun t25 h =>
    runD (buildSliceD T_sl_bool 1 [(0, t25)] h.length) h fun t26 h =>
    runDM (appendD T_sl_bool h t5 t26 h.length) (appendH T_sl_bool h t5 t26) h fun t27 h =>
    runD (binD T_int .add t6 (.int .i64 1)) h fun t18 h =>
    (∃ m, m < n ∧ I m (AV.norms n0 h [t27, t18]) (normH n0 h)) ∧ AV.norms n0 h [c1, c2] = [c1, c2])
    (J1 c1 c2 t5 h)
def lamplighterref04_Fence.H (c : Ctx) (t0 : AV) (h : List AObj) (K : AOut → List AObj → Prop) : Prop :=
  boxW T_api_Mem t0 h fun t1 h =>
  allocW T_api_Mem h fun t2 h =>
  runD (fitD T_api_Mem (loadD h t1)) h fun t7 h =>
  callW c (.fn (.func 106) [] []) [t7] h (fun t8 h =>
  runD (unD .not t8) h fun t10 h =>
  condW t10
  (runD (fitD T_api_Mem (loadD h t1)) h fun t11 h =>
    runH (storeH T_api_Mem h t2 t11) h fun _ h =>
    loadRes (fitD T_api_Mem (loadD h t2)) fun r0 => K (.ret (.tup [r0, (.int .i64 40)])) h)
  (joinW (fun (J1 : AV → AV → AV → List AObj → Prop) =>
  promV [true, false] [(.sl true (.bools [])), (.int .i64 0)] h fun lv h => lamplighterref04_Fence.L1 c J1 K (AV.norms h.length h lv) (normH h.length h) h.length (AV.norm h.length h t1) (AV.norm h.length h t2))
  (fun t1 t2 t5 h => runD (fitD T_api_Mem (loadD h t1)) h fun t28 h =>
  callW c (.fn (.func 128) [] []) [t28, t5] h (fun t30 h =>
  runH (storeH T_api_Mem h t2 t30) h fun _ h =>
  loadRes (fitD T_api_Mem (loadD h t2)) fun r0 => K (.ret (.tup [r0, (.int .i64 0)])) h)
  (fun v h => K (.pan v) h))))
  (fun v h => K (.pan v) h)
def lamplighterref04_Crash.loops : Nat → LInfo
  | 6 => ⟨[7, 8], [true, false], [1, 2], [], []⟩
  | 11 => ⟨[10, 11], [false, false], [1, 2, 7, 8, 9], [], []⟩
  | 15 => ⟨[], [], [], [(6, none), (10, some [51, 61])], []⟩
  | _ => ⟨[], [], [], [], []⟩
def lamplighterref04_Crash.L2 (c : Ctx) (J3 : AV → AV → AV → AV → AV → AV → List AObj → Prop) (K : AOut → List AObj → Prop) (lv : List AV) (h0 : List AObj) (n0 : Nat) (c1 : AV) (c2 : AV) (c7 : AV) (c8 : AV) (c9 : AV) : Prop :=
  ∃ I : Nat → List AV → List AObj → Prop, (∃ n, I n lv h0) ∧ ∀ n h, ∀ t10, ∀ t11, I n [t10, t11] h →
    runD (binD T_int .lss t11 c8) h fun t32 h =>
    condW t32
    (runD (fieldAddrD T_api_Mem c2 2) h fun t35 h =>
    runD (fitD T_sl_api_Pending (loadD h t35)) h fun t36 h =>
    runD (indexAddrD T_sl_api_Pending h t36 t11) h fun t38 h =>
    runD (fieldAddrD T_api_Pending t38 0) h fun t39 h =>
    runD (fitD T_int (loadD h t39)) h fun t40 h =>
    runD (binD T_int .quo t40 (.int .i64 8)) h fun t41 h =>
    runD (binD T_int .eql t41 c9) h fun t43 h =>
    joinW (fun (J4 : AV → List AObj → Prop) =>
    condW t43
    (runD (binD T_int .add t10 (.int .i64 1)) h fun t45 h =>
      J4 t45 h)
    (J4 t10 h))
    (fun t10 h => runD (binD T_int .add t11 (.int .i64 1)) h fun t34 h =>
    (∃ m, m < n ∧ I m (AV.norms n0 h [t10, t34]) (normH n0 h)) ∧ AV.norms n0 h [c1, c2, c7, c8, c9] = [c1, c2, c7, c8, c9]))
    (J3 c1 c2 c7 c8 c9 t10 h)
def lamplighterref04_Crash.L1 (c : Ctx) (J1 : AV → AV → List AObj → Prop) (K : AOut → List AObj → Prop) (lv : List AV) (h0 : List AObj) (n0 : Nat) (c1 : AV) (c2 : AV) : Prop :=
  ∃ I : Nat → List AV → List AObj → Prop, (∃ n, I n lv h0) ∧ ∀ n h, ∀ t7, ∀ t8, I n [t7, t8] h →
    runD (fieldAddrD T_api_Mem c2 2) h fun t17 h =>
    runD (fitD T_sl_api_Pending (loadD h t17)) h fun t18 h =>
    runD (lenD T_sl_api_Pending h t18) h fun t19 h =>
    runD (binD T_int .lss t8 t19) h fun t20 h =>
    condW t20
    (joinW (fun (J2 : AV → AV → AV → AV → List AObj → Prop) =>
    runD (fieldAddrD T_api_Mem c2 2) h fun t23 h =>
    runD (fitD T_sl_api_Pending (loadD h t23)) h fun t24 h =>
    runD (indexAddrD T_sl_api_Pending h t24 t8) h fun t26 h =>
    runD (fieldAddrD T_api_Pending t26 0) h fun t27 h =>
    runD (fitD T_int (loadD h t27)) h fun t28 h =>
    runD (binD T_int .quo t28 (.int .i64 8)) h fun t29 h =>
    joinW (fun (J3 : AV → AV → AV → AV → AV → AV → List AObj → Prop) =>
    promV [false, false] [(.int .i64 0), (.int .i64 0)] h fun lv h => lamplighterref04_Crash.L2 c J3 K (AV.norms h.length h lv) (normH h.length h) h.length (AV.norm h.length h c1) (AV.norm h.length h c2) (AV.norm h.length h t7) (AV.norm h.length h t8) (AV.norm h.length h t29))
    (fun t1 t2 t7 t8 t9 t10 h => runD (lenD T_sl_int h t1) h fun t49 h =>
    runD (binD T_int .lss t9 t49) h fun t50 h =>
    joinW (fun (J5 : AV → AV → List AObj → Prop) =>
    guardW t50 true
    (runD (lenD T_sl_int h t1) h fun t56 h =>
      runD (binD T_int .sub t56 (.int .i64 1)) h fun t57 h =>
      runD (minD t9 t57) h fun t58 h =>
      runD (indexAddrD T_sl_int h t1 t58) h fun t59 h =>
      runD (fitD T_int (loadD h t59)) h fun t60 h =>
      runD (binD T_int .lss t10 t60) h fun t61 h =>
      J5 (.bool true) t61 h)
    (J5 (.bool false) .und h))
    (fun t51 t61 h => runD (pickD t51 t61 (.bool false)) h fun t62 h =>
    runD (buildSliceD T_sl_bool 1 [(0, t62)] h.length) h fun t63 h =>
    runDM (appendD T_sl_bool h t7 t63 h.length) (appendH T_sl_bool h t7 t63) h fun t64 h =>
    J2 t1 t2 t64 t8 h)))
    (fun t1 t2 t7 t8 h => runD (binD T_int .add t8 (.int .i64 1)) h fun t22 h =>
    (∃ m, m < n ∧ I m (AV.norms n0 h [t7, t22]) (normH n0 h)) ∧ AV.norms n0 h [t1, t2] = [c1, c2]))
    (J1 c2 t7 h)
def lamplighterref04_Crash.H (c : Ctx) (t0 : AV) (t1 : AV) (h : List AObj) (K : AOut → List AObj → Prop) : Prop :=
  boxW T_api_Mem t0 h fun t2 h =>
  runD (fitD T_api_Mem (loadD h t2)) h fun t12 h =>
  callW c (.fn (.func 106) [] []) [t12] h (fun t13 h =>
  runD (unD .not t13) h fun t15 h =>
  condW t15
  (K (.ret (.tup [(.sl true (.ints .i64 [])), (.int .i64 40)])) h)
  (joinW (fun (J1 : AV → AV → List AObj → Prop) =>
  promV [true, false] [(.sl true (.bools [])), (.int .i64 0)] h fun lv h => lamplighterref04_Crash.L1 c J1 K (AV.norms h.length h lv) (normH h.length h) h.length (AV.norm h.length h t1) (AV.norm h.length h t2))
  (fun t2 t7 h => runD (fitD T_api_Mem (loadD h t2)) h fun t65 h =>
  callW c (.fn (.func 128) [] []) [t65, t7] h (fun t67 h =>
  runD (fieldD T_api_Mem t67 1) h fun t68 h =>
  K (.ret (.tup [t68, (.int .i64 0)])) h)
  (fun v h => K (.pan v) h))))
  (fun v h => K (.pan v) h)
def lamplighterref04_set.loops : Nat → LInfo
  | _ => ⟨[], [], [], [], []⟩
def lamplighterref04_set.H (c : Ctx) (t0 : AV) (t1 : AV) (t2 : AV) (h : List AObj) (K : AOut → List AObj → Prop) : Prop :=
  runD (buildSliceD T_sl_int 0 [] h.length) h fun t8 h =>
  runDM (appendD T_sl_int h t8 t0 h.length) (appendH T_sl_int h t8 t0) h fun t10 h =>
  runD (indexAddrD T_sl_int h t10 t1) h fun t14 h =>
  runH (storeH T_int h t14 t2) h fun _ h =>
  K (.ret t10) h
def lamplighterref04_line.loops : Nat → LInfo
  | 1 => ⟨[], [], [], [(3, none), (6, some [7, 13])], []⟩
  | _ => ⟨[], [], [], [], []⟩
def lamplighterref04_line.H (c : Ctx) (t0 : AV) (t1 : AV) (h : List AObj) (K : AOut → List AObj → Prop) : Prop :=
  boxW T_api_Mem t0 h fun t2 h =>
  runD (binD T_int .geq t1 (.int .i64 0)) h fun t6 h =>
  joinW (fun (J1 : AV → AV → List AObj → Prop) =>
  guardW t6 true
  (runD (fieldAddrD T_api_Mem t2 0) h fun t9 h =>
    runD (fitD T_sl_int (loadD h t9)) h fun t10 h =>
    runD (lenD T_sl_int h t10) h fun t11 h =>
    runD (binD T_int .quo t11 (.int .i64 8)) h fun t12 h =>
    runD (binD T_int .lss t1 t12) h fun t13 h =>
    J1 (.bool true) t13 h)
  (J1 (.bool false) .und h))
  (fun t7 t13 h => runD (pickD t7 t13 (.bool false)) h fun t14 h =>
  K (.ret t14) h)
def lamplighterref04_keep.loops : Nat → LInfo
  | 3 => ⟨[6], [false], [1, 2, 4, 5], [], [5]⟩
  | _ => ⟨[], [], [], [], []⟩
def lamplighterref04_keep.L1 (c : Ctx) (J1 : AV → AV → List AObj → Prop) (K : AOut → List AObj → Prop) (lv : List AV) (h0 : List AObj) (n0 : Nat) (c1 : AV) (c2 : AV) (c4 : AV) (c5 : AV) : Prop :=
  ∃ I : Nat → List AV → List AObj → Prop, (∃ n, I n lv h0) ∧ ∀ n h, ∀ t6, I n [t6] h →
    runD (fieldAddrD T_api_Mem c2 2) h fun t13 h =>
    runD (fitD T_sl_api_Pending (loadD h t13)) h fun t14 h =>
    runD (lenD T_sl_api_Pending h t14) h fun t15 h =>
    runD (binD T_int .lss t6 t15) h fun t16 h =>
    condW t16
    (runD (indexAddrD T_sl_bool h c1 t6) h fun t21 h =>
    runD (fitD T_bool (loadD h t21)) h fun t22 h =>
    joinW (fun (J2 : List AObj → Prop) =>
    condW t22
    (runD (fieldAddrD T_api_Mem c5 1) h fun t23 h =>
      runD (fitD T_sl_int (loadD h t23)) h fun t24 h =>
      runD (fieldAddrD T_api_Mem c2 2) h fun t25 h =>
      runD (fitD T_sl_api_Pending (loadD h t25)) h fun t26 h =>
      runD (indexAddrD T_sl_api_Pending h t26 t6) h fun t28 h =>
      runD (fieldAddrD T_api_Pending t28 0) h fun t29 h =>
      runD (fitD T_int (loadD h t29)) h fun t30 h =>
      runD (fieldAddrD T_api_Mem c2 2) h fun t31 h =>
      runD (fitD T_sl_api_Pending (loadD h t31)) h fun t32 h =>
      runD (indexAddrD T_sl_api_Pending h t32 t6) h fun t34 h =>
      runD (fieldAddrD T_api_Pending t34 1) h fun t35 h =>
      runD (fitD T_int (loadD h t35)) h fun t36 h =>
      callW c.noS (.fn (.func 126) [] []) [t24, t30, t36] h (fun t37 h =>
      runD (fieldAddrD T_api_Mem c5 1) h fun t38 h =>
      runH (storeH T_sl_int h t38 t37) h fun _ h =>
      J2 h)
      (fun _ _ => False))
    (runD (fieldAddrD T_api_Mem c5 2) h fun t39 h =>
      runD (fitD T_sl_api_Pending (loadD h t39)) h fun t40 h =>
      runD (fieldAddrD T_api_Mem c2 2) h fun t41 h =>
      runD (fitD T_sl_api_Pending (loadD h t41)) h fun t42 h =>
      runD (indexAddrD T_sl_api_Pending h t42 t6) h fun t44 h =>
      runD (fitD T_api_Pending (loadD h t44)) h fun t45 h =>
      runD (buildSliceD T_sl_api_Pending 1 [(0, t45)] h.length) h fun t46 h =>
      runDM (appendD T_sl_api_Pending h t40 t46 h.length) (appendH T_sl_api_Pending h t40 t46) h fun t47 h =>
      runD (fieldAddrD T_api_Mem c5 2) h fun t48 h =>
      runH (storeH T_sl_api_Pending h t48 t47) h fun _ h =>
      J2 h))
    (fun h => runD (binD T_int .add t6 (.int .i64 1)) h fun t18 h =>
    (∃ m, m < n ∧ I m (AV.norms n0 h [t18]) (normH n0 h)) ∧ AV.norms n0 h [c1, c2, c4, c5] = [c1, c2, c4, c5]))
    (J1 c4 c5 h)
def lamplighterref04_keep.H (c : Ctx) (t0 : AV) (t1 : AV) (h : List AObj) (K : AOut → List AObj → Prop) : Prop :=
  boxW T_api_Mem t0 h fun t2 h =>
  allocW T_api_Mem h fun t4 h =>
  runD (fieldAddrD T_api_Mem t2 0) h fun t7 h =>
  runD (fitD T_sl_int (loadD h t7)) h fun t8 h =>
  runD (fieldAddrD T_api_Mem t2 1) h fun t9 h =>
  runD (fitD T_sl_int (loadD h t9)) h fun t10 h =>
  runD (buildD T_api_Mem [(0, t8), (1, t10)]) h fun t11 h =>
  allocW T_api_Mem h fun t5 h =>
  runH (storeH T_api_Mem h t5 t11) h fun _ h =>
  joinW (fun (J1 : AV → AV → List AObj → Prop) =>
  promV [false] [(.int .i64 0)] (boxH [t5] h) fun lv h => lamplighterref04_keep.L1 c J1 K (AV.norms h.length h lv) (normH h.length h) h.length (AV.norm h.length h t1) (AV.norm h.length h t2) (AV.norm h.length h t4) (AV.norm h.length h t5))
  (fun t4 t5 h => runD (fitD T_api_Mem (loadD h t5)) h fun t49 h =>
  runH (storeH T_api_Mem h t4 t49) h fun _ h =>
  loadRes (fitD T_api_Mem (loadD h t4)) fun r0 => K (.ret r0) h)
theorem lamplighterref04_Few.eq (F : List (FuncId × Contract)) (S : List (FuncId × Con)) (t0 : AV) (h : List AObj) (K : AOut → List AObj → Prop) : funW (ctx F S lamplighterref04_Few.loops) Try.f62 [t0] h K = lamplighterref04_Few.H (ctx F S lamplighterref04_Few.loops) t0 h K := by kernel_rfl
theorem lamplighterref04_Same.eq (F : List (FuncId × Contract)) (S : List (FuncId × Con)) (t0 t1 : AV) (h : List AObj) (K : AOut → List AObj → Prop) : funW (ctx F S lamplighterref04_Same.loops) Try.f69 [t0, t1] h K = lamplighterref04_Same.H (ctx F S lamplighterref04_Same.loops) t0 t1 h K := by kernel_rfl
theorem lamplighterref04_Check.eq (F : List (FuncId × Contract)) (S : List (FuncId × Con)) (t0 : AV) (h : List AObj) (K : AOut → List AObj → Prop) : funW (ctx F S lamplighterref04_Check.loops) Try.f106 [t0] h K = lamplighterref04_Check.H (ctx F S lamplighterref04_Check.loops) t0 h K := by kernel_rfl
theorem lamplighterref04_Put.eq (F : List (FuncId × Contract)) (S : List (FuncId × Con)) (t0 t1 t2 : AV) (h : List AObj) (K : AOut → List AObj → Prop) : funW (ctx F S lamplighterref04_Put.loops) Try.f108 [t0, t1, t2] h K = lamplighterref04_Put.H (ctx F S lamplighterref04_Put.loops) t0 t1 t2 h K := by kernel_rfl
theorem lamplighterref04_Flush.eq (F : List (FuncId × Contract)) (S : List (FuncId × Con)) (t0 t1 : AV) (h : List AObj) (K : AOut → List AObj → Prop) : funW (ctx F S lamplighterref04_Flush.loops) Try.f109 [t0, t1] h K = lamplighterref04_Flush.H (ctx F S lamplighterref04_Flush.loops) t0 t1 h K := by kernel_rfl
theorem lamplighterref04_Fence.eq (F : List (FuncId × Contract)) (S : List (FuncId × Con)) (t0 : AV) (h : List AObj) (K : AOut → List AObj → Prop) : funW (ctx F S lamplighterref04_Fence.loops) Try.f110 [t0] h K = lamplighterref04_Fence.H (ctx F S lamplighterref04_Fence.loops) t0 h K := by kernel_rfl
theorem lamplighterref04_Crash.eq (F : List (FuncId × Contract)) (S : List (FuncId × Con)) (t0 t1 : AV) (h : List AObj) (K : AOut → List AObj → Prop) : funW (ctx F S lamplighterref04_Crash.loops) Try.f112 [t0, t1] h K = lamplighterref04_Crash.H (ctx F S lamplighterref04_Crash.loops) t0 t1 h K := by kernel_rfl
theorem lamplighterref04_set.eq (F : List (FuncId × Contract)) (S : List (FuncId × Con)) (t0 t1 t2 : AV) (h : List AObj) (K : AOut → List AObj → Prop) : funW (ctx F S lamplighterref04_set.loops) Try.f126 [t0, t1, t2] h K = lamplighterref04_set.H (ctx F S lamplighterref04_set.loops) t0 t1 t2 h K := by kernel_rfl
theorem lamplighterref04_line.eq (F : List (FuncId × Contract)) (S : List (FuncId × Con)) (t0 t1 : AV) (h : List AObj) (K : AOut → List AObj → Prop) : funW (ctx F S lamplighterref04_line.loops) Try.f127 [t0, t1] h K = lamplighterref04_line.H (ctx F S lamplighterref04_line.loops) t0 t1 h K := by kernel_rfl
theorem lamplighterref04_keep.eq (F : List (FuncId × Contract)) (S : List (FuncId × Con)) (t0 t1 : AV) (h : List AObj) (K : AOut → List AObj → Prop) : funW (ctx F S lamplighterref04_keep.loops) Try.f128 [t0, t1] h K = lamplighterref04_keep.H (ctx F S lamplighterref04_keep.loops) t0 t1 h K := by kernel_rfl
theorem lamplighterref04_Few.at : Try.prog.funcs[62]? = some Try.f62 := by kernel_rfl
theorem lamplighterref04_Few.nm : (Try.f62.name == "runtime.NumGoroutine") = false := by kernel_rfl
theorem lamplighterref04_Few.bd : Try.f62.body.isNone = false := by kernel_rfl
theorem lamplighterref04_Same.at : Try.prog.funcs[69]? = some Try.f69 := by kernel_rfl
theorem lamplighterref04_Same.nm : (Try.f69.name == "runtime.NumGoroutine") = false := by kernel_rfl
theorem lamplighterref04_Same.bd : Try.f69.body.isNone = false := by kernel_rfl
theorem lamplighterref04_Check.at : Try.prog.funcs[106]? = some Try.f106 := by kernel_rfl
theorem lamplighterref04_Check.nm : (Try.f106.name == "runtime.NumGoroutine") = false := by kernel_rfl
theorem lamplighterref04_Check.bd : Try.f106.body.isNone = false := by kernel_rfl
theorem lamplighterref04_Put.at : Try.prog.funcs[108]? = some Try.f108 := by kernel_rfl
theorem lamplighterref04_Put.nm : (Try.f108.name == "runtime.NumGoroutine") = false := by kernel_rfl
theorem lamplighterref04_Put.bd : Try.f108.body.isNone = false := by kernel_rfl
theorem lamplighterref04_Flush.at : Try.prog.funcs[109]? = some Try.f109 := by kernel_rfl
theorem lamplighterref04_Flush.nm : (Try.f109.name == "runtime.NumGoroutine") = false := by kernel_rfl
theorem lamplighterref04_Flush.bd : Try.f109.body.isNone = false := by kernel_rfl
theorem lamplighterref04_Fence.at : Try.prog.funcs[110]? = some Try.f110 := by kernel_rfl
theorem lamplighterref04_Fence.nm : (Try.f110.name == "runtime.NumGoroutine") = false := by kernel_rfl
theorem lamplighterref04_Fence.bd : Try.f110.body.isNone = false := by kernel_rfl
theorem lamplighterref04_Crash.at : Try.prog.funcs[112]? = some Try.f112 := by kernel_rfl
theorem lamplighterref04_Crash.nm : (Try.f112.name == "runtime.NumGoroutine") = false := by kernel_rfl
theorem lamplighterref04_Crash.bd : Try.f112.body.isNone = false := by kernel_rfl
theorem lamplighterref04_set.at : Try.prog.funcs[126]? = some Try.f126 := by kernel_rfl
theorem lamplighterref04_set.nm : (Try.f126.name == "runtime.NumGoroutine") = false := by kernel_rfl
theorem lamplighterref04_set.bd : Try.f126.body.isNone = false := by kernel_rfl
theorem lamplighterref04_line.at : Try.prog.funcs[127]? = some Try.f127 := by kernel_rfl
theorem lamplighterref04_line.nm : (Try.f127.name == "runtime.NumGoroutine") = false := by kernel_rfl
theorem lamplighterref04_line.bd : Try.f127.body.isNone = false := by kernel_rfl
theorem lamplighterref04_keep.at : Try.prog.funcs[128]? = some Try.f128 := by kernel_rfl
theorem lamplighterref04_keep.nm : (Try.f128.name == "runtime.NumGoroutine") = false := by kernel_rfl
theorem lamplighterref04_keep.bd : Try.f128.body.isNone = false := by kernel_rfl
end Lam
namespace Lam
open Go Go.Proofs
set_option linter.unusedVariables false
set_option linter.unnecessarySimpa false
set_option linter.unusedSimpArgs false
def lamplighterref04_Few.C : Contract
  | [.agg [.sl false (.ints .i64 vol), .sl false (.ints .i64 per), .sl false (.pends pend)]] => some (false, pD True (.bool (fewB vol per pend)))
  | _ => none
set_option maxRecDepth 20000 in
theorem lamplighterref04_Few.spec : FSpec Try.prog 62 lamplighterref04_Few.C := by
  refine FSpec.of (ctx_ok (F := []) (S := []) (by simp) (by simp) lamplighterref04_Few.loops) lamplighterref04_Few.at lamplighterref04_Few.nm lamplighterref04_Few.bd ?_
  intro vs b S v news e hS
  unfold lamplighterref04_Few.C at e
  split at e
  rotate_left
  · cases e
  cases e
  rw [lamplighterref04_Few.eq]
  unfold lamplighterref04_Few.H
  simp (maxSteps := 4000000) only [go_sem, Nat.reduceEqDiff, Nat.reduceLT, Nat.reduceAdd, Nat.reduceSub, Nat.reduceLeDiff, List.reduceReplicate, Int.reduceToNat]
  rename_i vol per pend
  have e1 : decide ((vol.length : Int) ≤ 300) = decide (vol.length ≤ 300) := decide_eq_decide.2 (by omega)
  have e2 : decide ((per.length : Int) ≤ 300) = decide (per.length ≤ 300) := decide_eq_decide.2 (by omega)
  have e3 : decide ((pend.length : Int) ≤ 100) = decide (pend.length ≤ 100) := decide_eq_decide.2 (by omega)
  rw [e1, e2, e3]
  exact post_val rfl rfl
def sameB (vol per : List Int) (pend : List Pend) (vol' per' : List Int) (pend' : List Pend) : Bool := decide (vol = vol') && decide (per = per') && decide (pend = pend')
theorem sameB_self (v p : List Int) (q : List Pend) : sameB v p q v p q = true := by simp [sameB]
def lamplighterref04_Same.C : Contract
  | [.agg [.sl false (.ints .i64 vol), .sl false (.ints .i64 per), .sl false (.pends pend)], .agg [.sl false (.ints .i64 vol'), .sl false (.ints .i64 per'), .sl false (.pends pend')]] => some (false, pD (smallM vol per pend) (.bool (sameB vol per pend vol' per' pend')))
  | _ => none
set_option maxRecDepth 20000 in
theorem lamplighterref04_Same.spec : FSpec Try.prog 69 lamplighterref04_Same.C := by
  refine FSpec.of (ctx_ok (F := [(22, lamplighterref02_Numbers.C)]) (S := []) (by simpa using lamplighterref02_Numbers.spec) (by simp) lamplighterref04_Same.loops) lamplighterref04_Same.at lamplighterref04_Same.nm lamplighterref04_Same.bd ?_
  intro vs b S v news e hS
  unfold lamplighterref04_Same.C at e
  split at e
  rotate_left
  · cases e
  cases e
  rw [lamplighterref04_Same.eq]
  unfold lamplighterref04_Same.H
  simp (maxSteps := 4000000) only [go_sem, Nat.reduceEqDiff, Nat.reduceLT, Nat.reduceAdd, Nat.reduceSub, Nat.reduceLeDiff, List.reduceReplicate, Int.reduceToNat, lamplighterref02_Numbers.C]
  rename_i vol per pend vol' per' pend'
  obtain ⟨s1, s2, s3⟩ := hS
  unfold roomy at s1 s2 s3
  refine ⟨s1, s2, fun hne => ?_, fun heq => ?_⟩
  · have : sameB vol per pend vol' per' pend' = false := by
      simp only [Bool.or_eq_true, Bool.not_eq_true', decide_eq_false_iff_not] at hne
      unfold sameB
      rcases hne with (h | h) | h
      · simp [h]
      · simp [h]
      · have : pend ≠ pend' := by rintro rfl; exact h rfl
        simp [this]
    rw [this]; exact post_val rfl rfl
  simp only [Bool.or_eq_false_iff, Bool.not_eq_false', decide_eq_true_eq] at heq
  obtain ⟨⟨h1, h2⟩, h3⟩ := heq
  have hlen : pend.length = pend'.length := by omega
  rw [joinW_eq]
  unfold lamplighterref04_Same.L1
  refine loop1 (fun k : Nat => .int .i64 k) (fun _ => [.box (memV vol per pend), .box (memV vol' per' pend')]) (fun k => pend.length - k) (fun k => k ≤ pend.length ∧ ∀ i, i < k → pend.getD i ⟨0, 0, false⟩ = pend'.getD i ⟨0, 0, false⟩) 0 rfl rfl ⟨Nat.zero_le _, fun i hi => absurd hi (Nat.not_lt_zero i)⟩ ?_
  rintro I back k ⟨hk, hall⟩
  simp only [go_sem, Nat.reduceEqDiff, Nat.reduceLT, Nat.reduceAdd, Nat.reduceSub, Nat.reduceLeDiff, List.reduceReplicate, Int.reduceToNat]
  have hd : ∀ a b : Pend, (decide (a.at_ = b.at_) && (decide (a.val = b.val) && a.fl == b.fl)) = decide (a = b) := fun a b => by
    cases a; cases b; rw [Bool.eq_iff_iff]; simp only [Bool.and_eq_true, Bool.or_eq_true, Bool.not_eq_true', Bool.not_eq_false', Bool.not_eq_true, decide_eq_true_eq, decide_eq_false_iff_not, Bool.or_eq_false_iff, Bool.and_eq_false_iff, beq_iff_eq]; simp
  rw [hd]
  refine ⟨fun hlt => ⟨by omega, by omega, fun h0 => ?_, fun h0 => ?_⟩, fun hge => ?_⟩
  · rw [decide_eq_false_iff_not] at h0
    have : pend ≠ pend' := by rintro rfl; exact h0 rfl
    have : sameB vol per pend vol' per' pend' = false := by unfold sameB; simp [this]
    rw [this]; exact post_val rfl rfl
  · rw [decide_eq_true_eq] at h0
    refine back (k + 1) (by omega) (by rw [wnext (by omega)]) rfl ⟨by omega, fun i hi => ?_⟩
    by_cases e : i = k
    · subst e; exact h0
    · exact hall i (by omega)
  · have h4 : pend = pend' := ext_d _ hlen fun i hi => hall i (by omega)
    have : sameB vol per pend vol' per' pend' = true := by unfold sameB; simp [h1, h2, h4]
    rw [this]; exact post_val rfl rfl
def lamplighterref04_set.C : Contract
  | [.sl _ (.ints .i64 l), .int .i64 at_, .int .i64 val] => some (false, pD (0 ≤ at_ ∧ at_ < (l.length : Int) ∧ roomy l.length) (.sl false (.ints .i64 (l.set at_.toNat val))))
  | _ => none
set_option maxRecDepth 20000 in
theorem lamplighterref04_set.spec : FSpec Try.prog 126 lamplighterref04_set.C := by
  refine FSpec.of (ctx_ok (F := []) (S := []) (by simp) (by simp) lamplighterref04_set.loops) lamplighterref04_set.at lamplighterref04_set.nm lamplighterref04_set.bd ?_
  intro vs b S v news e hS
  unfold lamplighterref04_set.C at e
  split at e
  rotate_left
  · cases e
  cases e
  rw [lamplighterref04_set.eq]
  unfold lamplighterref04_set.H
  simp (maxSteps := 4000000) only [go_sem, Nat.reduceEqDiff, Nat.reduceLT, Nat.reduceAdd, Nat.reduceSub, Nat.reduceLeDiff, List.reduceReplicate, Int.reduceToNat]
  rename_i l at_ val
  obtain ⟨h0, h1, hr⟩ := hS
  refine ⟨hr, ⟨h0, h1⟩, by omega, post_val ?_ rfl⟩
  simp only [go_sem, Nat.reduceEqDiff, Nat.reduceLT, Nat.reduceAdd, Nat.reduceSub, Nat.reduceLeDiff, List.reduceReplicate, Int.reduceToNat, take_len _ (Nat.le_of_eq List.length_set)]
def lamplighterref04_line.C : Contract
  | [.agg [.sl false (.ints .i64 vol), .sl false (.ints .i64 per), .sl false (.pends pend)], .int .i64 n] => some (false, pD (roomy vol.length) (.bool (decide (0 ≤ n) && decide (n < ((vol.length / 8 : Nat) : Int)))))
  | _ => none
set_option maxRecDepth 20000 in
theorem lamplighterref04_line.spec : FSpec Try.prog 127 lamplighterref04_line.C := by
  refine FSpec.of (ctx_ok (F := []) (S := []) (by simp) (by simp) lamplighterref04_line.loops) lamplighterref04_line.at lamplighterref04_line.nm lamplighterref04_line.bd ?_
  intro vs b S v news e hS
  unfold lamplighterref04_line.C at e
  split at e
  rotate_left
  · cases e
  cases e
  rw [lamplighterref04_line.eq]
  unfold lamplighterref04_line.H
  simp (maxSteps := 4000000) only [go_sem, Nat.reduceEqDiff, Nat.reduceLT, Nat.reduceAdd, Nat.reduceSub, Nat.reduceLeDiff, List.reduceReplicate, Int.reduceToNat]
  rename_i vol per pend n
  unfold roomy at hS
  rw [wdiv8 (by omega)]
  exact ⟨fun _ => by decide, post_val rfl rfl⟩
def lamplighterref04_Check.C : Contract
  | [.agg [.sl false (.ints .i64 vol), .sl false (.ints .i64 per), .sl false (.pends pend)]] => some (false, pD (smallM vol per pend) (.bool (checkB vol per pend)))
  | _ => none
set_option maxRecDepth 20000 in
theorem lamplighterref04_Check.spec : FSpec Try.prog 106 lamplighterref04_Check.C := by
  refine FSpec.of (ctx_ok (F := [(22, lamplighterref02_Numbers.C)]) (S := []) (by simpa using lamplighterref02_Numbers.spec) (by simp) lamplighterref04_Check.loops) lamplighterref04_Check.at lamplighterref04_Check.nm lamplighterref04_Check.bd ?_
  intro vs b S v news e hS
  unfold lamplighterref04_Check.C at e
  split at e
  rotate_left
  · cases e
  cases e
  rw [lamplighterref04_Check.eq]
  unfold lamplighterref04_Check.H
  simp (maxSteps := 4000000) only [go_sem, Nat.reduceEqDiff, Nat.reduceLT, Nat.reduceAdd, Nat.reduceSub, Nat.reduceLeDiff, List.reduceReplicate, Int.reduceToNat, lamplighterref02_Numbers.C]
  rename_i vol per pend
  obtain ⟨s1, s2, s3⟩ := hS
  unfold roomy at s1 s2 s3
  refine ⟨fun _ => by decide, fun h => ?_, fun h => ⟨s2, ?_⟩⟩
  · have : checkB vol per pend = false := by
      cases e : checkB vol per pend with
      | false => rfl
      | true =>
        have := check_iff.1 e
        have h1 := this.len
        have h2 := this.sz
        have h3 := this.md
        simp only [Bool.or_eq_true, Bool.not_eq_true', decide_eq_true_eq, decide_eq_false_iff_not] at h
        rw [Int.tmod_eq_emod_of_nonneg (by omega)] at h
        omega
    rw [this]; exact post_val rfl rfl
  simp only [Bool.or_eq_false_iff, Bool.not_eq_false', decide_eq_true_eq, decide_eq_false_iff_not] at h
  have hlen : vol.length = per.length := by omega
  have hmd : vol.length % 8 = 0 := by
    have := h.2
    rw [Int.tmod_eq_emod_of_nonneg (by omega)] at this
    omega
  rw [joinW_eq]
  unfold lamplighterref04_Check.L1
  refine loop1 (σ := Nat) (fun k => .int .i64 k) (fun k => [.box (memV vol per pend), .row .own 0 (.ints .i64 []), .row .own 0 (.ints .i64 (app (pend.take k) per))]) (fun k => pend.length - k)
    (fun k => k ≤ pend.length ∧ (∀ p ∈ pend.take k, 0 ≤ p.at_ ∧ p.at_ < (vol.length : Int)) ∧ LineWise (fun p => p.fl) (pend.take k)) 0 rfl rfl ⟨Nat.zero_le _, by simp, by simp [LineWise]⟩ ?_
  rintro I back k ⟨hk, hrg, hlw⟩
  simp only [go_sem, Nat.reduceEqDiff, Nat.reduceLT, Nat.reduceAdd, Nat.reduceSub, Nat.reduceLeDiff, List.reduceReplicate, Int.reduceToNat, app_len]
  refine ⟨fun hlt => ⟨by omega, ?_⟩, fun hge => ?_⟩
  · have hkl : k < pend.length := by omega
    have hmem := getD_mem pend k ⟨0, 0, false⟩ hkl
    have htk := take_next pend k ⟨0, 0, false⟩ hkl
    generalize pend.getD k ⟨0, 0, false⟩ = p at *
    refine ⟨fun hb => ?_, fun hb => ?_⟩
    · have : checkB vol per pend = false := by
        cases e : checkB vol per pend with
        | false => rfl
        | true =>
          have := (check_iff.1 e).rng p hmem
          simp only [Bool.or_eq_true, decide_eq_true_eq] at hb
          omega
      rw [this]; exact post_val rfl rfl
    rw [Bool.or_eq_false_iff, decide_eq_false_iff_not, decide_eq_false_iff_not] at hb
    rw [joinW_eq]
    unfold lamplighterref04_Check.L2
    refine loop1 (σ := Nat) (fun j => .int .i64 j) (fun _ => [.box (memV vol per pend), .row .own 0 (.ints .i64 []), .row .own 0 (.ints .i64 (app (pend.take k) per)), .box (.agg [.int .i64 p.at_, .int .i64 p.val, .bool p.fl])]) (fun j => k - j)
      (fun j => j ≤ k ∧ ∀ q ∈ pend.take j, lineOf q.at_ = lineOf p.at_ → p.fl = true → q.fl = true) 0 rfl rfl ⟨Nat.zero_le _, by simp⟩ ?_
    rintro I2 back2 j ⟨hj, hall⟩
    simp only [go_sem, Nat.reduceEqDiff, Nat.reduceLT, Nat.reduceAdd, Nat.reduceSub, Nat.reduceLeDiff, List.reduceReplicate, Int.reduceToNat, app_len]
    refine ⟨fun hc => ?_, fun hc => ?_⟩
    · rw [Bool.and_eq_true, decide_eq_true_eq] at hc
      obtain ⟨hjk, hfl⟩ := hc
      have hjp : j < pend.length := by omega
      have hjm : pend.getD j ⟨0, 0, false⟩ ∈ pend.take k := by
        have : j < (pend.take k).length := by rw [List.length_take]; omega
        have e : (pend.take k).getD j ⟨0, 0, false⟩ = pend.getD j ⟨0, 0, false⟩ := by
          rw [List.getD_eq_getElem?_getD, List.getElem?_take, if_pos (by omega), List.getD_eq_getElem?_getD]
        rw [← e]; exact getD_mem _ _ _ this
      have htj := take_next pend j ⟨0, 0, false⟩ hjp
      generalize pend.getD j ⟨0, 0, false⟩ = q at *
      refine ⟨by omega, by decide, by decide, fun _ => by omega, fun hx => ?_, fun hx => ?_⟩
      · rw [Bool.and_eq_true, decide_eq_true_eq, Bool.not_eq_true'] at hx
        have : checkB vol per pend = false := by
          cases e : checkB vol per pend with
          | false => rfl
          | true =>
            have h2 := (check_iff.1 e).ord.sublist (List.take_sublist (k + 1) pend)
            rw [htk, List.pairwise_append] at h2
            have h3 : q.fl = true := h2.2.2 q hjm p (by simp) hx.1 hfl
            rw [hx.2] at h3; cases h3
        rw [this]; exact post_val rfl rfl
      · refine back2 (j + 1) (by omega) (by rw [wnext (by omega)]) rfl ⟨by omega, fun r hr hl hf => ?_⟩
        rw [htj, List.mem_append, List.mem_singleton] at hr
        rcases hr with hr | rfl
        · exact hall r hr hl hf
        · rw [Bool.and_eq_false_iff, decide_eq_false_iff_not, Bool.not_eq_false'] at hx
          rcases hx with hx | hx
          · exact absurd hl hx
          · exact hx
    · refine ⟨⟨by omega, by omega⟩, by omega, back (k + 1) (by omega) (by rw [wnext (by omega)]) ?_ ⟨by omega, fun q hq => ?_, ?_⟩⟩
      · rw [htk, app_append]; rfl
      · rw [htk, List.mem_append, List.mem_singleton] at hq
        rcases hq with hq | rfl
        · exact hrg q hq
        · omega
      · unfold LineWise
        rw [htk, List.pairwise_append]
        refine ⟨hlw, List.pairwise_singleton _ _, fun q hq r hr hl hf => ?_⟩
        rw [List.mem_singleton] at hr; subst hr
        rw [Bool.and_eq_false_iff, decide_eq_false_iff_not] at hc
        rcases hc with hc | hc
        · exact hall q (by rw [show j = k by omega]; exact hq) hl hf
        · have hf : r.fl = true := hf
          rw [hc] at hf; cases hf
  · obtain rfl : k = pend.length := by omega
    rw [List.take_length] at *
    have e : (app pend per).take per.length = app pend per := take_len _ (by rw [app_len]; exact Nat.le_refl _)
    rw [e]
    simp only [lamplighterref02_Numbers.C, go_sem, Nat.reduceEqDiff, Nat.reduceLT, Nat.reduceAdd, Nat.reduceSub, Nat.reduceLeDiff, List.reduceReplicate, Int.reduceToNat, app_len]
    refine ⟨s2, ?_⟩
    have : checkB vol per pend = decide (app pend per = vol) := by
      by_cases e : app pend per = vol
      · rw [decide_eq_true e, check_iff]
        exact ⟨hlen, by omega, hmd, fun p hp => by have := hrg p hp; omega, hlw, e⟩
      · rw [decide_eq_false e]
        cases c : checkB vol per pend with
        | false => rfl
        | true => exact absurd (check_iff.1 c).eq e
    rw [this]; exact post_val rfl rfl
def lamplighterref04_Put.C : Contract
  | [.agg [.sl false (.ints .i64 vol), .sl false (.ints .i64 per), .sl false (.pends pend)], .int .i64 at_, .int .i64 val] => some (false, pD (smallM vol per pend ∧ roomy (pend.length + 1)) (putM vol per pend at_ val))
  | _ => none
set_option maxRecDepth 20000 in
theorem lamplighterref04_Put.spec : FSpec Try.prog 108 lamplighterref04_Put.C := by
  refine FSpec.of (ctx_ok (F := [(106, lamplighterref04_Check.C), (126, lamplighterref04_set.C)]) (S := []) (by simpa using ⟨lamplighterref04_Check.spec, lamplighterref04_set.spec⟩) (by simp) lamplighterref04_Put.loops) lamplighterref04_Put.at lamplighterref04_Put.nm lamplighterref04_Put.bd ?_
  intro vs b S v news e hS
  unfold lamplighterref04_Put.C at e
  split at e
  rotate_left
  · cases e
  cases e
  rw [lamplighterref04_Put.eq]
  unfold lamplighterref04_Put.H
  simp (maxSteps := 4000000) only [go_sem, Nat.reduceEqDiff, Nat.reduceLT, Nat.reduceAdd, Nat.reduceSub, Nat.reduceLeDiff, List.reduceReplicate, Int.reduceToNat, lamplighterref04_Check.C, lamplighterref04_set.C]
  rename_i vol per pend at_ val
  obtain ⟨hS, hr⟩ := hS
  have e : (!checkB vol per pend || decide (at_ < 0) || decide ((vol.length : Int) ≤ at_)) = !placeB vol per pend at_ := by
    unfold placeB
    cases checkB vol per pend
    · simp
    · rw [Bool.eq_iff_iff]; simp only [Bool.and_eq_true, Bool.or_eq_true, Bool.not_eq_true', Bool.not_eq_false', Bool.not_eq_true, decide_eq_true_eq, decide_eq_false_iff_not, Bool.or_eq_false_iff, Bool.and_eq_false_iff, beq_iff_eq]; simp <;> omega
  rw [e]
  refine ⟨hS, fun h => ?_, fun h => ?_⟩
  · rw [Bool.not_eq_true'] at h
    unfold putM; rw [h]; exact post_val rfl rfl
  · rw [Bool.not_eq_false'] at h
    have hp : 0 ≤ at_ ∧ at_ < (vol.length : Int) := by
      simp only [placeB, Bool.and_eq_true, decide_eq_true_eq] at h
      exact h.1
    have hl : (pend ++ [(⟨at_, val, false⟩ : Pend)]).length = pend.length + 1 := by simp
    refine ⟨⟨hp.1, hp.2, hS.1⟩, hS.2.2, by rw [hl]; exact hr, rfl, rfl, ?_⟩
    unfold putM; simp only [h, if_true]
    refine post_val ?_ rfl
    simp only [go_sem, Nat.reduceEqDiff, Nat.reduceLT, Nat.reduceAdd, Nat.reduceSub, Nat.reduceLeDiff, List.reduceReplicate, Int.reduceToNat, List.take_length]
def lamplighterref04_Flush.C : Contract
  | [.agg [.sl false (.ints .i64 vol), .sl false (.ints .i64 per), .sl false (.pends pend)], .int .i64 line] => some (false, pD (smallM vol per pend) (flushM vol per pend line))
  | _ => none
set_option maxRecDepth 20000 in
theorem lamplighterref04_Flush.spec : FSpec Try.prog 109 lamplighterref04_Flush.C := by
  refine FSpec.of (ctx_ok (F := [(106, lamplighterref04_Check.C), (127, lamplighterref04_line.C)]) (S := []) (by simpa using ⟨lamplighterref04_Check.spec, lamplighterref04_line.spec⟩) (by simp) lamplighterref04_Flush.loops) lamplighterref04_Flush.at lamplighterref04_Flush.nm lamplighterref04_Flush.bd ?_
  intro vs b S v news e hS
  unfold lamplighterref04_Flush.C at e
  split at e
  rotate_left
  · cases e
  cases e
  rw [lamplighterref04_Flush.eq]
  unfold lamplighterref04_Flush.H
  simp (maxSteps := 4000000) only [go_sem, Nat.reduceEqDiff, Nat.reduceLT, Nat.reduceAdd, Nat.reduceSub, Nat.reduceLeDiff, List.reduceReplicate, Int.reduceToNat, lamplighterref04_Check.C, lamplighterref04_line.C]
  rename_i vol per pend line
  rw [place_first (vol := vol) hS]
  obtain ⟨s1, s2, s3⟩ := hS
  refine ⟨⟨s1, s2, s3⟩, fun _ => s1, fun h => ?_, fun h => ?_⟩
  · rw [Bool.not_eq_true'] at h
    unfold flushM; rw [h]; exact post_val rfl rfl
  rw [Bool.not_eq_false'] at h
  unfold roomy at s1 s2 s3
  rw [joinW_eq]
  unfold lamplighterref04_Flush.L1
  refine loop1 (σ := Nat × Nat) (fun s => .int .i64 s.1) (fun s => [.box (memV vol per pend), .box (memV [] [] []), .box (.agg [.sl false (.ints .i64 vol), .sl false (.ints .i64 per), .sref false 3 s.2 0 s.1]), .row .own s.2 (.pends (flushP line (pend.take s.1)))]) (fun s => pend.length - s.1) (fun s => s.1 ≤ pend.length) (0, 0) rfl rfl (Nat.zero_le _) ?_
  rintro I back ⟨k, v⟩ hk
  simp only [] at hk ⊢
  have hfl : (flushP line (pend.take k)).length = k := by unfold flushP; simp; omega
  have hsn : ∀ p : Pend, flushP line [p] = [⟨p.at_, p.val, p.fl || decide (lineOf p.at_ = line)⟩] := fun p => by
    unfold flushP
    by_cases e : lineOf p.at_ = line <;> simp [e]
  have happ : ∀ a b : List Pend, flushP line (a ++ b) = flushP line a ++ flushP line b := fun a b => by unfold flushP; simp
  simp only [go_sem, Nat.reduceEqDiff, Nat.reduceLT, Nat.reduceAdd, Nat.reduceSub, Nat.reduceLeDiff, List.reduceReplicate, Int.reduceToNat, hfl]
  refine ⟨fun hlt => ⟨by omega, fun _ => by decide, ?_⟩, fun hge => ?_⟩
  · have hkl : k < pend.length := by omega
    have hnx : flushP line (pend.take (k + 1)) = flushP line (pend.take k) ++ [⟨(pend.getD k ⟨0, 0, false⟩).at_, (pend.getD k ⟨0, 0, false⟩).val, (pend.getD k ⟨0, 0, false⟩).fl || decide (lineOf (pend.getD k ⟨0, 0, false⟩).at_ = line)⟩] := by
      rw [take_next pend k ⟨0, 0, false⟩ hkl, happ, hsn]
    have hl1 : (flushP line (pend.take (k + 1))).length = k + 1 := by unfold flushP; simp; omega
    unfold lineOf at hnx
    rw [← hnx, hl1]
    exact ⟨by unfold roomy; omega, back (k + 1, v + 1) (by show _ - (k + 1) < _ - k; omega) (by rw [wnext (by omega)]) rfl (by omega)⟩
  · obtain rfl : k = pend.length := by omega
    rw [List.take_length] at hfl ⊢
    unfold flushM
    simp only [h, if_true]
    refine post_val ?_ rfl
    simp only [go_sem, Nat.reduceEqDiff, Nat.reduceLT, Nat.reduceAdd, Nat.reduceSub, Nat.reduceLeDiff, List.reduceReplicate, Int.reduceToNat, take_len _ (Nat.le_of_eq hfl)]
def keptB : List Bool → List Pend → List Pend
  | true :: bs, p :: ps => p :: keptB bs ps
  | false :: bs, p :: ps => keptB bs ps
  | _, _ => []
def restB : List Bool → List Pend → List Pend
  | true :: bs, p :: ps => restB bs ps
  | false :: bs, p :: ps => p :: restB bs ps
  | _, _ => []
theorem keptB_map (f : Pend → Bool) : ∀ l : List Pend, keptB (l.map f) l = l.filter f
  | [] => rfl
  | p :: r => by
    have ih := keptB_map f r
    cases h : f p <;> simp [h, keptB, ih]
theorem restB_map (f : Pend → Bool) : ∀ l : List Pend, restB (l.map f) l = keepP f l
  | [] => rfl
  | p :: r => by
    have ih := restB_map f r
    unfold keepP at ih ⊢
    cases h : f p <;> simp [h, restB, ih]
theorem kept_snoc (b : Bool) (p : Pend) : ∀ (bs : List Bool) (l : List Pend), bs.length = l.length → keptB (bs ++ [b]) (l ++ [p]) = (match b with | true => keptB bs l ++ [p] | false => keptB bs l) ∧ restB (bs ++ [b]) (l ++ [p]) = (match b with | true => restB bs l | false => restB bs l ++ [p])
  | [], [], _ => by cases b <;> exact ⟨rfl, rfl⟩
  | [], _ :: _, h => by cases h
  | _ :: _, [], h => by cases h
  | c :: bs, q :: l, h => by
    have ih := kept_snoc b p bs l (by simpa using h)
    cases c <;> cases b <;> simp [keptB, restB, ih.1, ih.2]
theorem restB_len : ∀ (bs : List Bool) (l : List Pend), (restB bs l).length ≤ l.length
  | [], l => by simp [restB]
  | b :: bs, [] => by simp [restB]
  | b :: bs, p :: l => by
    have := restB_len bs l
    cases b <;> simp [restB] <;> omega
def lamplighterref04_keep.C : Contract
  | [.agg [.sl false (.ints .i64 vol), .sl false (.ints .i64 per), .sl false (.pends pend)], .sl _ (.bools those)] => some (false, pD (smallM vol per pend ∧ those.length = pend.length ∧ ∀ p ∈ pend, 0 ≤ p.at_ ∧ p.at_ < (per.length : Int)) (memV vol (app (keptB those pend) per) (restB those pend)))
  | _ => none
set_option maxRecDepth 20000 in
theorem lamplighterref04_keep.spec : FSpec Try.prog 128 lamplighterref04_keep.C := by
  refine FSpec.of (ctx_ok (F := [(126, lamplighterref04_set.C)]) (S := []) (by simpa using lamplighterref04_set.spec) (by simp) lamplighterref04_keep.loops) lamplighterref04_keep.at lamplighterref04_keep.nm lamplighterref04_keep.bd ?_
  intro vs b S v news e hS
  unfold lamplighterref04_keep.C at e
  split at e
  rotate_left
  · cases e
  cases e
  rw [lamplighterref04_keep.eq]
  unfold lamplighterref04_keep.H
  simp (maxSteps := 4000000) only [go_sem, Nat.reduceEqDiff, Nat.reduceLT, Nat.reduceAdd, Nat.reduceSub, Nat.reduceLeDiff, List.reduceReplicate, Int.reduceToNat, lamplighterref04_set.C]
  rename_i vol per pend _ those
  obtain ⟨⟨s1, s2, s3⟩, hl, hrange⟩ := hS
  unfold roomy at s1 s2 s3
  rw [joinW_eq]
  unfold lamplighterref04_keep.L1
  refine loop1 (σ := Nat × Nat) (fun s => .int .i64 s.1) (fun s => [.box (memV vol per pend), .box (memV [] [] []), .box (.agg [.sl false (.ints .i64 vol), .sl false (.ints .i64 (app (keptB (those.take s.1) (pend.take s.1)) per)), .sref false 3 s.2 0 (restB (those.take s.1) (pend.take s.1)).length]), .row .own s.2 (.pends (restB (those.take s.1) (pend.take s.1)))]) (fun s => pend.length - s.1)
    (fun s => s.1 ≤ pend.length) (0, 0) rfl ?_ (Nat.zero_le _) ?_
  · simp only [List.take_zero]; rfl
  rintro I back ⟨k, v⟩ hk
  simp only [] at hk ⊢
  have hrl := restB_len (those.take k) (pend.take k)
  rw [List.length_take] at hrl
  simp only [go_sem, Nat.reduceEqDiff, Nat.reduceLT, Nat.reduceAdd, Nat.reduceSub, Nat.reduceLeDiff, List.reduceReplicate, Int.reduceToNat, app_len]
  refine ⟨fun hlt => ⟨by omega, ?_⟩, fun hge => ?_⟩
  · have hkl : k < pend.length := by omega
    have hr := hrange _ (getD_mem pend k ⟨0, 0, false⟩ hkl)
    have hs := kept_snoc (those.getD k false) (pend.getD k ⟨0, 0, false⟩) (those.take k) (pend.take k) (by simp; omega)
    rw [← take_next pend k ⟨0, 0, false⟩ hkl, ← take_next those k false (by omega)] at hs
    generalize pend.getD k ⟨0, 0, false⟩ = p at *
    generalize those.getD k false = b at *
    rw [joinW_eq]
    refine ⟨fun hb => ⟨by omega, by omega, ?_⟩, fun hb => ⟨by omega, ?_, ?_⟩⟩
    · subst hb
      simp only [lamplighterref04_set.C, go_sem, Nat.reduceEqDiff, Nat.reduceLT, Nat.reduceAdd, Nat.reduceSub, Nat.reduceLeDiff, List.reduceReplicate, Int.reduceToNat, app_len]
      refine ⟨⟨hr.1, hr.2, s2⟩, back (k + 1, v) (by show _ - (k + 1) < _ - k; omega) (by rw [wnext (by omega)]) ?_ (by show k + 1 ≤ _; omega)⟩
      simp only [hs, app_append, app, memV]
    · unfold roomy; simp; omega
    · subst hb
      simp only [go_sem, Nat.reduceEqDiff, Nat.reduceLT, Nat.reduceAdd, Nat.reduceSub, Nat.reduceLeDiff, List.reduceReplicate, Int.reduceToNat]
      refine back (k + 1, v + 1) (by show _ - (k + 1) < _ - k; omega) (by rw [wnext (by omega)]) ?_ (by show k + 1 ≤ _; omega)
      simp only [hs, memV]
  · obtain rfl : k = pend.length := by omega
    rw [List.take_length, ← hl, List.take_length]
    refine post_val ?_ rfl
    simp only [go_sem, Nat.reduceEqDiff, Nat.reduceLT, Nat.reduceAdd, Nat.reduceSub, Nat.reduceLeDiff, List.reduceReplicate, Int.reduceToNat, List.take_length]
theorem placeB_line {vol per : List Int} {pend : List Pend} {line : Int} (hs : smallM vol per pend) : (!checkB vol per pend || !(decide (0 ≤ line) && decide (line < ((vol.length / 8 : Nat) : Int)))) = !placeB vol per pend (firstI vol line) := place_first hs line
def lamplighterref04_Fence.C : Contract
  | [.agg [.sl false (.ints .i64 vol), .sl false (.ints .i64 per), .sl false (.pends pend)]] => some (false, pD (smallM vol per pend) (fenceM fFl (checkB vol per pend) vol per pend))
  | _ => none
set_option maxRecDepth 20000 in
theorem lamplighterref04_Fence.spec : FSpec Try.prog 110 lamplighterref04_Fence.C := by
  refine FSpec.of (ctx_ok (F := [(106, lamplighterref04_Check.C), (128, lamplighterref04_keep.C)]) (S := []) (by simpa using ⟨lamplighterref04_Check.spec, lamplighterref04_keep.spec⟩) (by simp) lamplighterref04_Fence.loops) lamplighterref04_Fence.at lamplighterref04_Fence.nm lamplighterref04_Fence.bd ?_
  intro vs b S v news e hS
  unfold lamplighterref04_Fence.C at e
  split at e
  rotate_left
  · cases e
  cases e
  rw [lamplighterref04_Fence.eq]
  unfold lamplighterref04_Fence.H
  simp (maxSteps := 4000000) only [go_sem, Nat.reduceEqDiff, Nat.reduceLT, Nat.reduceAdd, Nat.reduceSub, Nat.reduceLeDiff, List.reduceReplicate, Int.reduceToNat, lamplighterref04_Check.C, lamplighterref04_keep.C]
  rename_i vol per pend
  refine ⟨hS, fun h => ?_, fun h => ?_⟩
  · unfold fenceM; rw [h]; exact post_val rfl rfl
  have hrange := check_range h
  obtain ⟨s1, s2, s3⟩ := hS
  unfold roomy at s1 s2 s3
  rw [joinW_eq]
  unfold lamplighterref04_Fence.L1
  refine loop2 (σ := Nat × Nat) (fun s => .sref false 2 s.2 0 s.1) (fun s => .int .i64 s.1) (fun s => [.box (memV vol per pend), .box (memV [] [] []), .row .own s.2 (.bools ((pend.take s.1).map (fFl)))]) (fun s => pend.length - s.1) (fun s => s.1 ≤ pend.length) (0, 0) rfl rfl (Nat.zero_le _) ?_
  rintro I back ⟨k, v⟩ hk
  simp only [] at hk ⊢
  have hml : ((pend.take k).map (fFl)).length = k := by simp; omega
  simp only [go_sem, Nat.reduceEqDiff, Nat.reduceLT, Nat.reduceAdd, Nat.reduceSub, Nat.reduceLeDiff, List.reduceReplicate, Int.reduceToNat, hml]
  refine ⟨fun hlt => ?_, fun hge => ?_⟩
  · have hkl : k < pend.length := by omega
    have hnx : (pend.take (k + 1)).map (fFl) = (pend.take k).map (fFl) ++ [(fFl) (pend.getD k ⟨0, 0, false⟩)] := by rw [take_next pend k ⟨0, 0, false⟩ hkl, List.map_append]; rfl
    have hl1 : ((pend.take (k + 1)).map (fFl)).length = k + 1 := by simp; omega
    refine ⟨by omega, ?_, ?_⟩
    · unfold roomy; simp; omega
    · refine back (k + 1, v + 1) (by show _ - (k + 1) < _ - k; omega) ?_ ?_ (by show k + 1 ≤ _; omega)
      · rw [wnext (by omega)]; simp; omega
      · rw [hnx]; rfl
  · obtain rfl : k = pend.length := by omega
    rw [List.take_length] at *
    simp only [lamplighterref04_keep.C, go_sem, Nat.reduceEqDiff, Nat.reduceLT, Nat.reduceAdd, Nat.reduceSub, Nat.reduceLeDiff, List.reduceReplicate, Int.reduceToNat, take_len _ (Nat.le_of_eq hml), hml]
    refine ⟨⟨⟨s1, s2, s3⟩, hrange⟩, ?_⟩
    unfold fenceM; simp only [h, if_true]
    rw [keptB_map, restB_map, ← keepW_app]
    exact post_val rfl rfl
/-- how many of a line -/
def cntL (L : Int) (l : List Pend) : Nat := (l.filter (fLn L)).length
theorem cntL_snoc (L : Int) (l : List Pend) (p : Pend) : cntL L (l ++ [p]) = cntL L l + (if lineOf p.at_ = L then 1 else 0) := by
  unfold cntL fLn
  rw [List.filter_append, List.length_append]
  by_cases e : lineOf p.at_ = L <;> simp [e]
/-- those that a crash keeps, told one by one -/
def thoseL (keep : List Int) : List Pend → List Pend → List Bool
  | _, [] => []
  | pre, p :: r => decide ((cntL (lineOf p.at_) pre : Int) < leftF keep (lineOf p.at_)) :: thoseL keep (pre ++ [p]) r
theorem thoseL_len (keep : List Int) : ∀ (r pre : List Pend), (thoseL keep pre r).length = r.length
  | [], _ => rfl
  | p :: r, pre => by simp [thoseL, thoseL_len keep r]
theorem thoseL_crash (keep : List Int) : ∀ (r pre : List Pend) (left : Int → Int), (∀ j, (left j).toNat = (leftF keep j).toNat - cntL j pre) → keptB (thoseL keep pre r) r = crashK r left
  | [], _, _, _ => rfl
  | p :: r, pre, left, h => by
    have ih := thoseL_crash keep r (pre ++ [p]) (lessL p left) fun j => by
      rw [cntL_snoc]
      have := h j
      unfold lessL
      by_cases e : lineOf p.at_ = j
      · subst e
        rw [if_pos rfl, if_pos rfl]
        split <;> omega
      · rw [if_neg (fun h => e h.symm), if_neg e]; omega
    have hb : decide ((cntL (lineOf p.at_) pre : Int) < leftF keep (lineOf p.at_)) = decide (0 < left (lineOf p.at_)) := by
      have := h (lineOf p.at_)
      exact decide_eq_decide.2 ⟨fun h => by omega, fun h => by omega⟩
    rw [thoseL, crashK, hb]
    cases decide (0 < left (lineOf p.at_)) <;> simp [keptB, ih]
theorem thoseL_append (keep : List Int) : ∀ (a b pre : List Pend), thoseL keep pre (a ++ b) = thoseL keep pre a ++ thoseL keep (pre ++ a) b
  | [], b, pre => by simp [thoseL]
  | p :: a, b, pre => by
    rw [List.cons_append, thoseL, thoseL_append keep a b, thoseL, List.cons_append, List.append_assoc]; rfl
def lamplighterref04_Crash.C : Contract
  | [.agg [.sl false (.ints .i64 vol), .sl false (.ints .i64 per), .sl false (.pends pend)], .sl _ (.ints .i64 keep)] => some (false, pD (smallM vol per pend ∧ roomy keep.length) (crashM (checkB vol per pend) keep per pend))
  | _ => none
set_option maxRecDepth 20000 in
theorem lamplighterref04_Crash.spec : FSpec Try.prog 112 lamplighterref04_Crash.C := by
  refine FSpec.of (ctx_ok (F := [(106, lamplighterref04_Check.C), (128, lamplighterref04_keep.C)]) (S := []) (by simpa using ⟨lamplighterref04_Check.spec, lamplighterref04_keep.spec⟩) (by simp) lamplighterref04_Crash.loops) lamplighterref04_Crash.at lamplighterref04_Crash.nm lamplighterref04_Crash.bd ?_
  intro vs b S v news e hS
  unfold lamplighterref04_Crash.C at e
  split at e
  rotate_left
  · cases e
  cases e
  rw [lamplighterref04_Crash.eq]
  unfold lamplighterref04_Crash.H
  simp (maxSteps := 4000000) only [go_sem, Nat.reduceEqDiff, Nat.reduceLT, Nat.reduceAdd, Nat.reduceSub, Nat.reduceLeDiff, List.reduceReplicate, Int.reduceToNat, lamplighterref04_Check.C, lamplighterref04_keep.C]
  rename_i vol per pend _ keep
  obtain ⟨hS, hr⟩ := hS
  refine ⟨hS, fun h => ?_, fun h => ?_⟩
  · unfold crashM; rw [h]; exact post_val rfl rfl
  have hrange := check_range h
  have hsz := (check_iff.1 h).sz
  have hln := (check_iff.1 h).len
  obtain ⟨s1, s2, s3⟩ := hS
  unfold roomy at s1 s2 s3 hr
  rw [joinW_eq]
  unfold lamplighterref04_Crash.L1
  refine loop2 (σ := Nat × Nat) (fun s => .sref false 1 s.2 0 s.1) (fun s => .int .i64 s.1) (fun s => [.box (memV vol per pend), .row .own s.2 (.bools (thoseL keep [] (pend.take s.1)))]) (fun s => pend.length - s.1) (fun s => s.1 ≤ pend.length) (0, 0) rfl rfl (Nat.zero_le _) ?_
  rintro I back ⟨k, v⟩ hk
  simp only [] at hk ⊢
  have hml : (thoseL keep [] (pend.take k)).length = k := by rw [thoseL_len]; simp; omega
  simp only [go_sem, Nat.reduceEqDiff, Nat.reduceLT, Nat.reduceAdd, Nat.reduceSub, Nat.reduceLeDiff, List.reduceReplicate, Int.reduceToNat, hml]
  refine ⟨fun hlt => ?_, fun hge => ?_⟩
  · have hkl : k < pend.length := by omega
    have hrp := hrange _ (getD_mem pend k ⟨0, 0, false⟩ hkl)
    have hnx : thoseL keep [] (pend.take (k + 1)) = thoseL keep [] (pend.take k) ++ [decide ((cntL (lineOf (pend.getD k ⟨0, 0, false⟩).at_) (pend.take k) : Int) < leftF keep (lineOf (pend.getD k ⟨0, 0, false⟩).at_))] := by rw [take_next pend k ⟨0, 0, false⟩ hkl, thoseL_append]; rfl
    generalize pend.getD k ⟨0, 0, false⟩ = p at *
    refine ⟨by omega, by decide, ?_⟩
    rw [joinW_eq]
    unfold lamplighterref04_Crash.L2
    refine loop2 (σ := Nat) (fun j => .int .i64 (cntL (lineOf p.at_) (pend.take j) : Nat)) (fun j => .int .i64 j) (fun _ => [.box (memV vol per pend), .row .own v (.bools (thoseL keep [] (pend.take k)))]) (fun j => k - j) (fun j => j ≤ k) 0 rfl rfl (Nat.zero_le _) ?_
    rintro I2 back2 j hj
    simp only [go_sem, Nat.reduceEqDiff, Nat.reduceLT, Nat.reduceAdd, Nat.reduceSub, Nat.reduceLeDiff, List.reduceReplicate, Int.reduceToNat, hml]
    have hc0 : ∀ j, j ≤ pend.length → cntL (lineOf p.at_) (pend.take j) ≤ j := fun j hj => Nat.le_trans (List.length_filter_le _ _) (by simp; omega)
    refine ⟨fun hjk => ⟨by omega, by decide, ?_⟩, fun hjk => ?_⟩
    · have hcn := cntL_snoc (lineOf p.at_) (pend.take j) (pend.getD j ⟨0, 0, false⟩)
      rw [← take_next pend j ⟨0, 0, false⟩ (by omega)] at hcn
      have hcj := hc0 j (by omega)
      rw [joinW_eq]
      refine ⟨fun hl => ?_, fun hl => ?_⟩
      · have hl : lineOf (pend.getD j ⟨0, 0, false⟩).at_ = lineOf p.at_ := hl
        rw [if_pos hl] at hcn
        simp only [go_sem, Nat.reduceEqDiff, Nat.reduceLT, Nat.reduceAdd, Nat.reduceSub, Nat.reduceLeDiff, List.reduceReplicate, Int.reduceToNat]
        refine back2 (j + 1) (by omega) ?_ rfl (by omega)
        rw [wnext (by omega), wnext (by omega), hcn]
      · have hl : ¬ lineOf (pend.getD j ⟨0, 0, false⟩).at_ = lineOf p.at_ := hl
        rw [if_neg hl] at hcn
        simp only [go_sem, Nat.reduceEqDiff, Nat.reduceLT, Nat.reduceAdd, Nat.reduceSub, Nat.reduceLeDiff, List.reduceReplicate, Int.reduceToNat]
        refine back2 (j + 1) (by omega) ?_ rfl (by omega)
        rw [wnext (by omega), hcn]; rfl
    · obtain rfl : j = k := by omega
      have hL : lineOf p.at_ = p.at_ / 8 := lineOf_eq (by omega) (by omega)
      have hw : IntKind.i64.wrap ((keep.length : Int) - 1) = (keep.length : Int) - 1 := w64 (by omega) (by omega)
      have hdec : (decide (lineOf p.at_ < (keep.length : Int)) && decide ((cntL (lineOf p.at_) (pend.take j) : Int) < keep.getD (if (keep.length : Int) - 1 < lineOf p.at_ then (keep.length : Int) - 1 else lineOf p.at_).toNat 0)) = decide ((cntL (lineOf p.at_) (pend.take j) : Int) < leftF keep (lineOf p.at_)) := by
        unfold leftF
        have h0 : 0 ≤ lineOf p.at_ := by omega
        rw [if_pos h0]
        by_cases e : lineOf p.at_ < (keep.length : Int)
        · rw [if_neg (show ¬ (keep.length : Int) - 1 < lineOf p.at_ by omega), decide_eq_true e, Bool.true_and]
        · rw [decide_eq_false e, Bool.false_and, List.getD_eq_getElem?_getD, List.getElem?_eq_none (by omega)]
          exact (decide_eq_false (by simp)).symm
      rw [hw]
      have hl1 : (thoseL keep [] (pend.take (j + 1))).length = j + 1 := by rw [thoseL_len]; simp; omega
      have hfold : IntKind.i64.wrap (p.at_.tdiv 8) = lineOf p.at_ := rfl
      rw [hfold, hdec, ← hnx, hl1]
      refine ⟨fun hlt => ?_, by unfold roomy; omega, back (j + 1, v + 1) (by show _ - (j + 1) < _ - j; omega) (by rw [wnext (by omega)]) rfl (by show j + 1 ≤ _; omega)⟩
      rw [hL] at hlt ⊢
      split <;> omega
  · obtain rfl : k = pend.length := by omega
    rw [List.take_length] at *
    simp only [lamplighterref04_keep.C, go_sem, Nat.reduceEqDiff, Nat.reduceLT, Nat.reduceAdd, Nat.reduceSub, Nat.reduceLeDiff, List.reduceReplicate, Int.reduceToNat, take_len _ (Nat.le_of_eq hml), hml]
    refine ⟨⟨⟨s1, s2, s3⟩, hrange⟩, ?_⟩
    rw [thoseL_crash keep pend [] (leftF keep) fun j => rfl]
    unfold crashM; simp only [h, if_true]
    exact post_val rfl rfl
end Lam
namespace Lam
open Go Go.Proofs
set_option linter.unusedVariables false
def lamplighterref05_Same.loops : Nat → LInfo
  | 4 => ⟨[5], [false], [0, 1], [], []⟩
  | _ => ⟨[], [], [], [], []⟩
def lamplighterref05_Same.L1 (c : Ctx) (J1 : List AObj → Prop) (K : AOut → List AObj → Prop) (lv : List AV) (h0 : List AObj) (n0 : Nat) (c0 : AV) (c1 : AV) : Prop :=
  ∃ I : Nat → List AV → List AObj → Prop, (∃ n, I n lv h0) ∧ ∀ n h, ∀ t5, I n [t5] h →
    runD (lenD T_sl_api_Micro h c0) h fun t13 h =>
    runD (binD T_int .lss t5 t13) h fun t14 h =>
    condW t14
    (runD (indexAddrD T_sl_api_Micro h c0 t5) h fun t19 h =>
    runD (fitD T_api_Micro (loadD h t19)) h fun t20 h =>
    runD (indexAddrD T_sl_api_Micro h c1 t5) h fun t23 h =>
    runD (fitD T_api_Micro (loadD h t23)) h fun t24 h =>
    runD (binD T_api_Micro .neq t20 t24) h fun t25 h =>
    condW t25
    (K (.ret (.bool false)) h)
    (runD (binD T_int .add t5 (.int .i64 1)) h fun t16 h =>
    (∃ m, m < n ∧ I m (AV.norms n0 h [t16]) (normH n0 h)) ∧ AV.norms n0 h [c0, c1] = [c0, c1]))
    (J1 h)
def lamplighterref05_Same.H (c : Ctx) (t0 : AV) (t1 : AV) (h : List AObj) (K : AOut → List AObj → Prop) : Prop :=
  runD (lenD T_sl_api_Micro h t0) h fun t7 h =>
  runD (lenD T_sl_api_Micro h t1) h fun t9 h =>
  runD (binD T_int .neq t7 t9) h fun t10 h =>
  condW t10
  (K (.ret (.bool false)) h)
  (joinW (fun (J1 : List AObj → Prop) =>
  promV [false] [(.int .i64 0)] h fun lv h => lamplighterref05_Same.L1 c J1 K (AV.norms h.length h lv) (normH h.length h) h.length (AV.norm h.length h t0) (AV.norm h.length h t1))
  (fun h => K (.ret (.bool true)) h))
def lamplighterref05_Run.loops : Nat → LInfo
  | 3 => ⟨[], [], [], [(3, none), (2, some [20, 22])], []⟩
  | 6 => ⟨[8], [false], [1, 2, 4], [], []⟩
  | _ => ⟨[], [], [], [], []⟩
def lamplighterref05_Run.L1 (c : Ctx) (J2 : AV → AV → List AObj → Prop) (K : AOut → List AObj → Prop) (lv : List AV) (h0 : List AObj) (n0 : Nat) (c1 : AV) (c2 : AV) (c4 : AV) : Prop :=
  ∃ I : Nat → List AV → List AObj → Prop, (∃ n, I n lv h0) ∧ ∀ n h, ∀ t8, I n [t8] h →
    runD (lenD T_sl_api_Micro h c1) h fun t27 h =>
    runD (binD T_int .lss t8 t27) h fun t28 h =>
    condW t28
    (runD (fitD T_api_Mem (loadD h c2)) h fun t32 h =>
    runD (indexAddrD T_sl_api_Micro h c1 t8) h fun t35 h =>
    runD (fitD T_api_Micro (loadD h t35)) h fun t36 h =>
    callW c.noS (.fn (.func 66) [] []) [t32, t36] h (fun t37 h =>
    runD (extractD t37 0) h fun t38 h =>
    runD (extractD t37 1) h fun t39 h =>
    allocW T_api_Mem h fun t9 h =>
    runH (storeH T_api_Mem h t9 t38) h fun _ h =>
    runD (fitD T_api_Mem (loadD h t9)) h fun t40 h =>
    runH (storeH T_api_Mem h c2 t40) h fun _ h =>
    runD (binD T_int .add t8 (.int .i64 1)) h fun t30 h =>
    (∃ m, m < n ∧ I m (AV.norms n0 h [t30]) (normH n0 h)) ∧ AV.norms n0 h [c1, c2, c4] = [c1, c2, c4])
    (fun _ _ => False))
    (J2 c2 c4 h)
def lamplighterref05_Run.H (c : Ctx) (t0 : AV) (t1 : AV) (h : List AObj) (K : AOut → List AObj → Prop) : Prop :=
  boxW T_api_Mem t0 h fun t2 h =>
  allocW T_api_Mem h fun t4 h =>
  runD (fitD T_api_Mem (loadD h t2)) h fun t11 h =>
  callW c (.fn (.func 106) [] []) [t11] h (fun t12 h =>
  runD (fieldAddrD T_api_Mem t2 0) h fun t14 h =>
  runD (fitD T_sl_int (loadD h t14)) h fun t15 h =>
  runD (lenD T_sl_int h t15) h fun t16 h =>
  callW c (.fn (.func 71) [] []) [t1, t16] h (fun t17 h =>
  runD (unD .not t12) h fun t19 h =>
  joinW (fun (J1 : AV → AV → List AObj → Prop) =>
  guardW t19 false
  (runD (unD .not t17) h fun t22 h =>
    J1 (.bool false) t22 h)
  (J1 (.bool true) .und h))
  (fun t20 t22 h => runD (pickD t20 (.bool true) t22) h fun t23 h =>
  condW t23
  (runD (fitD T_api_Mem (loadD h t2)) h fun t24 h =>
    runH (storeH T_api_Mem h t4 t24) h fun _ h =>
    loadRes (fitD T_api_Mem (loadD h t4)) fun r0 => K (.ret (.tup [r0, (.int .i64 40)])) h)
  (joinW (fun (J2 : AV → AV → List AObj → Prop) =>
  promV [false] [(.int .i64 0)] h fun lv h => lamplighterref05_Run.L1 c J2 K (AV.norms h.length h lv) (normH h.length h) h.length (AV.norm h.length h t1) (AV.norm h.length h t2) (AV.norm h.length h t4))
  (fun t2 t4 h => runD (fitD T_api_Mem (loadD h t2)) h fun t41 h =>
  runH (storeH T_api_Mem h t4 t41) h fun _ h =>
  loadRes (fitD T_api_Mem (loadD h t4)) fun r0 => K (.ret (.tup [r0, (.int .i64 0)])) h))))
  (fun v h => K (.pan v) h))
  (fun v h => K (.pan v) h)
def lamplighterref05_Do.loops : Nat → LInfo
  | 2 => ⟨[], [], [], [(3, none), (6, some [13, 19])], []⟩
  | _ => ⟨[], [], [], [], []⟩
def lamplighterref05_Do.H (c : Ctx) (t0 : AV) (t1 : AV) (h : List AObj) (K : AOut → List AObj → Prop) : Prop :=
  boxW T_api_Mem t0 h fun t2 h =>
  boxW T_api_Micro t1 h fun t3 h =>
  allocW T_api_Mem h fun t4 h =>
  runD (fitD T_api_Mem (loadD h t2)) h fun t9 h =>
  callW c (.fn (.func 106) [] []) [t9] h (fun t10 h =>
  runD (unD .not t10) h fun t12 h =>
  joinW (fun (J1 : AV → AV → List AObj → Prop) =>
  guardW t12 false
  (runD (fitD T_api_Micro (loadD h t3)) h fun t14 h =>
    runD (fieldAddrD T_api_Mem t2 0) h fun t15 h =>
    runD (fitD T_sl_int (loadD h t15)) h fun t16 h =>
    runD (lenD T_sl_int h t16) h fun t17 h =>
    callW c (.fn (.func 107) [] []) [t14, t17] h (fun t18 h =>
    runD (unD .not t18) h fun t19 h =>
    J1 (.bool false) t19 h)
    (fun v h => K (.pan v) h))
  (J1 (.bool true) .und h))
  (fun t13 t19 h => runD (pickD t13 (.bool true) t19) h fun t20 h =>
  condW t20
  (runD (fitD T_api_Mem (loadD h t2)) h fun t21 h =>
    runH (storeH T_api_Mem h t4 t21) h fun _ h =>
    loadRes (fitD T_api_Mem (loadD h t4)) fun r0 => K (.ret (.tup [r0, (.int .i64 40)])) h)
  (runD (fieldAddrD T_api_Micro t3 0) h fun t22 h =>
  runD (fitD T_int (loadD h t22)) h fun t23 h =>
  runD (binD T_int .eql t23 (.int .i64 1)) h fun t24 h =>
  condW t24
  (runD (fitD T_api_Mem (loadD h t2)) h fun t25 h =>
    runD (fieldAddrD T_api_Micro t3 1) h fun t26 h =>
    runD (fitD T_int (loadD h t26)) h fun t27 h =>
    runD (fieldAddrD T_api_Micro t3 2) h fun t28 h =>
    runD (fitD T_int (loadD h t28)) h fun t29 h =>
    callW c (.fn (.func 108) [] []) [t25, t27, t29] h (fun t30 h =>
    runD (extractD t30 0) h fun t31 h =>
    runD (extractD t30 1) h fun t32 h =>
    runH (storeH T_api_Mem h t4 t31) h fun _ h =>
    loadRes (fitD T_api_Mem (loadD h t4)) fun r0 => K (.ret (.tup [r0, t32])) h)
    (fun v h => K (.pan v) h))
  (runD (fitD T_api_Mem (loadD h t2)) h fun t34 h =>
  runD (fieldAddrD T_api_Micro t3 1) h fun t35 h =>
  runD (fitD T_int (loadD h t35)) h fun t36 h =>
  callW c (.fn (.func 109) [] []) [t34, t36] h (fun t37 h =>
  runD (extractD t37 0) h fun t38 h =>
  runD (extractD t37 1) h fun t39 h =>
  allocW T_api_Mem h fun t7 h =>
  runH (storeH T_api_Mem h t7 t38) h fun _ h =>
  runD (fitD T_api_Mem (loadD h t7)) h fun t40 h =>
  callW c (.fn (.func 110) [] []) [t40] h (fun t41 h =>
  runD (extractD t41 0) h fun t42 h =>
  runD (extractD t41 1) h fun t43 h =>
  runH (storeH T_api_Mem h t4 t42) h fun _ h =>
  loadRes (fitD T_api_Mem (loadD h t4)) fun r0 => K (.ret (.tup [r0, t43])) h)
  (fun v h => K (.pan v) h))
  (fun v h => K (.pan v) h)))))
  (fun v h => K (.pan v) h)
def lamplighterref05_Crash.loops : Nat → LInfo
  | _ => ⟨[], [], [], [], []⟩
def lamplighterref05_Crash.H (c : Ctx) (t0 : AV) (t1 : AV) (t2 : AV) (t3 : AV) (h : List AObj) (K : AOut → List AObj → Prop) : Prop :=
  boxW T_api_Mem t0 h fun t4 h =>
  runD (fitD T_api_Mem (loadD h t4)) h fun t16 h =>
  callW c (.fn (.func 64) [] []) [t16, t1] h (fun t18 h =>
  runD (extractD t18 0) h fun t19 h =>
  runD (extractD t18 1) h fun t20 h =>
  allocW T_api_Mem h fun t10 h =>
  runH (storeH T_api_Mem h t10 t19) h fun _ h =>
  runD (binD T_api_Errno .neq t20 (.int .i64 0)) h fun t22 h =>
  condW t22
  (K (.ret (.tup [(.sl true (.ints .i64 [])), t20])) h)
  (runD (lenD T_sl_api_Micro h t1) h fun t26 h =>
  runD (minD t2 t26) h fun t27 h =>
  runD (maxD (.int .i64 0) t27) h fun t28 h =>
  runD (fitD T_api_Mem (loadD h t4)) h fun t30 h =>
  runD (sliceD T_sl_api_Micro h t1 none (some t28) none) h fun t33 h =>
  callW c.noS (.fn (.func 64) [] []) [t30, t33] h (fun t34 h =>
  runD (extractD t34 0) h fun t35 h =>
  runD (extractD t34 1) h fun t36 h =>
  allocW T_api_Mem h fun t13 h =>
  runH (storeH T_api_Mem h t13 t35) h fun _ h =>
  runD (fitD T_api_Mem (loadD h t13)) h fun t37 h =>
  callW c (.fn (.func 112) [] []) [t37, t3] h (fun t39 h =>
  runD (extractD t39 0) h fun t40 h =>
  runD (extractD t39 1) h fun t41 h =>
  K (.ret (.tup [t40, t41])) h)
  (fun v h => K (.pan v) h))
  (fun _ _ => False)))
  (fun v h => K (.pan v) h)
def lamplighterref05_Check.loops : Nat → LInfo
  | 1 => ⟨[], [], [], [(3, none), (2, some [8, 10]), (2, none), (3, some [12, 15])], []⟩
  | 4 => ⟨[5], [false], [0, 1], [], []⟩
  | _ => ⟨[], [], [], [], []⟩
def lamplighterref05_Check.L1 (c : Ctx) (J3 : List AObj → Prop) (K : AOut → List AObj → Prop) (lv : List AV) (h0 : List AObj) (n0 : Nat) (c0 : AV) (c1 : AV) : Prop :=
  ∃ I : Nat → List AV → List AObj → Prop, (∃ n, I n lv h0) ∧ ∀ n h, ∀ t5, I n [t5] h →
    runD (lenD T_sl_api_Micro h c0) h fun t19 h =>
    runD (binD T_int .lss t5 t19) h fun t20 h =>
    condW t20
    (runD (indexAddrD T_sl_api_Micro h c0 t5) h fun t25 h =>
    runD (fitD T_api_Micro (loadD h t25)) h fun t26 h =>
    callW c (.fn (.func 107) [] []) [t26, c1] h (fun t28 h =>
    runD (unD .not t28) h fun t29 h =>
    condW t29
    (K (.ret (.bool false)) h)
    (runD (binD T_int .add t5 (.int .i64 1)) h fun t22 h =>
    (∃ m, m < n ∧ I m (AV.norms n0 h [t22]) (normH n0 h)) ∧ AV.norms n0 h [c0, c1] = [c0, c1]))
    (fun v h => K (.pan v) h))
    (J3 h)
def lamplighterref05_Check.H (c : Ctx) (t0 : AV) (t1 : AV) (h : List AObj) (K : AOut → List AObj → Prop) : Prop :=
  runD (binD T_int .lss t1 (.int .i64 0)) h fun t7 h =>
  joinW (fun (J1 : AV → AV → List AObj → Prop) =>
  guardW t7 false
  (runD (binD T_int .gtr t1 (.int .i64 4096)) h fun t10 h =>
    J1 (.bool false) t10 h)
  (J1 (.bool true) .und h))
  (fun t8 t10 h => runD (pickD t8 (.bool true) t10) h fun t11 h =>
  joinW (fun (J2 : AV → AV → List AObj → Prop) =>
  guardW t11 false
  (runD (binD T_int .rem t1 (.int .i64 8)) h fun t14 h =>
    runD (binD T_int .neq t14 (.int .i64 0)) h fun t15 h =>
    J2 (.bool false) t15 h)
  (J2 (.bool true) .und h))
  (fun t12 t15 h => runD (pickD t12 (.bool true) t15) h fun t16 h =>
  condW t16
  (K (.ret (.bool false)) h)
  (joinW (fun (J3 : List AObj → Prop) =>
  promV [false] [(.int .i64 0)] h fun lv h => lamplighterref05_Check.L1 c J3 K (AV.norms h.length h lv) (normH h.length h) h.length (AV.norm h.length h t0) (AV.norm h.length h t1))
  (fun h => K (.ret (.bool true)) h))))
def lamplighterref05_may.loops : Nat → LInfo
  | 2 => ⟨[], [], [], [(4, none), (4, some [11, 15])], []⟩
  | 3 => ⟨[], [], [], [(4, none), (3, some [20, 23]), (2, none), (5, some [25, 30]), (2, none), (3, some [32, 35])], []⟩
  | _ => ⟨[], [], [], [], []⟩
def lamplighterref05_may.H (c : Ctx) (t0 : AV) (t1 : AV) (h : List AObj) (K : AOut → List AObj → Prop) : Prop :=
  boxW T_api_Micro t0 h fun t2 h =>
  runD (fieldAddrD T_api_Micro t2 0) h fun t5 h =>
  runD (fitD T_int (loadD h t5)) h fun t6 h =>
  runD (binD T_int .eql t6 (.int .i64 1)) h fun t7 h =>
  condW t7
  (runD (fieldAddrD T_api_Micro t2 1) h fun t8 h =>
    runD (fitD T_int (loadD h t8)) h fun t9 h =>
    runD (binD T_int .geq t9 (.int .i64 0)) h fun t10 h =>
    joinW (fun (J1 : AV → AV → List AObj → Prop) =>
    guardW t10 true
    (runD (fieldAddrD T_api_Micro t2 1) h fun t12 h =>
      runD (fitD T_int (loadD h t12)) h fun t13 h =>
      runD (binD T_int .lss t13 t1) h fun t15 h =>
      J1 (.bool true) t15 h)
    (J1 (.bool false) .und h))
    (fun t11 t15 h => runD (pickD t11 t15 (.bool false)) h fun t16 h =>
    K (.ret t16) h))
  (runD (fieldAddrD T_api_Micro t2 0) h fun t17 h =>
  runD (fitD T_int (loadD h t17)) h fun t18 h =>
  runD (binD T_int .eql t18 (.int .i64 2)) h fun t19 h =>
  joinW (fun (J2 : AV → AV → List AObj → Prop) =>
  guardW t19 true
  (runD (fieldAddrD T_api_Micro t2 1) h fun t21 h =>
    runD (fitD T_int (loadD h t21)) h fun t22 h =>
    runD (binD T_int .geq t22 (.int .i64 0)) h fun t23 h =>
    J2 (.bool true) t23 h)
  (J2 (.bool false) .und h))
  (fun t20 t23 h => runD (pickD t20 t23 (.bool false)) h fun t24 h =>
  joinW (fun (J3 : AV → AV → List AObj → Prop) =>
  guardW t24 true
  (runD (fieldAddrD T_api_Micro t2 1) h fun t26 h =>
    runD (fitD T_int (loadD h t26)) h fun t27 h =>
    runD (binD T_int .quo t1 (.int .i64 8)) h fun t29 h =>
    runD (binD T_int .lss t27 t29) h fun t30 h =>
    J3 (.bool true) t30 h)
  (J3 (.bool false) .und h))
  (fun t25 t30 h => runD (pickD t25 t30 (.bool false)) h fun t31 h =>
  joinW (fun (J4 : AV → AV → List AObj → Prop) =>
  guardW t31 true
  (runD (fieldAddrD T_api_Micro t2 2) h fun t33 h =>
    runD (fitD T_int (loadD h t33)) h fun t34 h =>
    runD (binD T_int .eql t34 (.int .i64 0)) h fun t35 h =>
    J4 (.bool true) t35 h)
  (J4 (.bool false) .und h))
  (fun t32 t35 h => runD (pickD t32 t35 (.bool false)) h fun t36 h =>
  K (.ret t36) h))))
theorem lamplighterref05_Same.eq (F : List (FuncId × Contract)) (S : List (FuncId × Con)) (t0 t1 : AV) (h : List AObj) (K : AOut → List AObj → Prop) : funW (ctx F S lamplighterref05_Same.loops) Try.f23 [t0, t1] h K = lamplighterref05_Same.H (ctx F S lamplighterref05_Same.loops) t0 t1 h K := by kernel_rfl
theorem lamplighterref05_Run.eq (F : List (FuncId × Contract)) (S : List (FuncId × Con)) (t0 t1 : AV) (h : List AObj) (K : AOut → List AObj → Prop) : funW (ctx F S lamplighterref05_Run.loops) Try.f64 [t0, t1] h K = lamplighterref05_Run.H (ctx F S lamplighterref05_Run.loops) t0 t1 h K := by kernel_rfl
theorem lamplighterref05_Do.eq (F : List (FuncId × Contract)) (S : List (FuncId × Con)) (t0 t1 : AV) (h : List AObj) (K : AOut → List AObj → Prop) : funW (ctx F S lamplighterref05_Do.loops) Try.f66 [t0, t1] h K = lamplighterref05_Do.H (ctx F S lamplighterref05_Do.loops) t0 t1 h K := by kernel_rfl
theorem lamplighterref05_Crash.eq (F : List (FuncId × Contract)) (S : List (FuncId × Con)) (t0 t1 t2 t3 : AV) (h : List AObj) (K : AOut → List AObj → Prop) : funW (ctx F S lamplighterref05_Crash.loops) Try.f68 [t0, t1, t2, t3] h K = lamplighterref05_Crash.H (ctx F S lamplighterref05_Crash.loops) t0 t1 t2 t3 h K := by kernel_rfl
theorem lamplighterref05_Check.eq (F : List (FuncId × Contract)) (S : List (FuncId × Con)) (t0 t1 : AV) (h : List AObj) (K : AOut → List AObj → Prop) : funW (ctx F S lamplighterref05_Check.loops) Try.f71 [t0, t1] h K = lamplighterref05_Check.H (ctx F S lamplighterref05_Check.loops) t0 t1 h K := by kernel_rfl
theorem lamplighterref05_may.eq (F : List (FuncId × Contract)) (S : List (FuncId × Con)) (t0 t1 : AV) (h : List AObj) (K : AOut → List AObj → Prop) : funW (ctx F S lamplighterref05_may.loops) Try.f107 [t0, t1] h K = lamplighterref05_may.H (ctx F S lamplighterref05_may.loops) t0 t1 h K := by kernel_rfl
theorem lamplighterref05_Same.at : Try.prog.funcs[23]? = some Try.f23 := by kernel_rfl
theorem lamplighterref05_Same.nm : (Try.f23.name == "runtime.NumGoroutine") = false := by kernel_rfl
theorem lamplighterref05_Same.bd : Try.f23.body.isNone = false := by kernel_rfl
theorem lamplighterref05_Run.at : Try.prog.funcs[64]? = some Try.f64 := by kernel_rfl
theorem lamplighterref05_Run.nm : (Try.f64.name == "runtime.NumGoroutine") = false := by kernel_rfl
theorem lamplighterref05_Run.bd : Try.f64.body.isNone = false := by kernel_rfl
theorem lamplighterref05_Do.at : Try.prog.funcs[66]? = some Try.f66 := by kernel_rfl
theorem lamplighterref05_Do.nm : (Try.f66.name == "runtime.NumGoroutine") = false := by kernel_rfl
theorem lamplighterref05_Do.bd : Try.f66.body.isNone = false := by kernel_rfl
theorem lamplighterref05_Crash.at : Try.prog.funcs[68]? = some Try.f68 := by kernel_rfl
theorem lamplighterref05_Crash.nm : (Try.f68.name == "runtime.NumGoroutine") = false := by kernel_rfl
theorem lamplighterref05_Crash.bd : Try.f68.body.isNone = false := by kernel_rfl
theorem lamplighterref05_Check.at : Try.prog.funcs[71]? = some Try.f71 := by kernel_rfl
theorem lamplighterref05_Check.nm : (Try.f71.name == "runtime.NumGoroutine") = false := by kernel_rfl
theorem lamplighterref05_Check.bd : Try.f71.body.isNone = false := by kernel_rfl
theorem lamplighterref05_may.at : Try.prog.funcs[107]? = some Try.f107 := by kernel_rfl
theorem lamplighterref05_may.nm : (Try.f107.name == "runtime.NumGoroutine") = false := by kernel_rfl
theorem lamplighterref05_may.bd : Try.f107.body.isNone = false := by kernel_rfl
end Lam
namespace Lam
open Go Go.Proofs
set_option linter.unusedVariables false
set_option linter.unnecessarySimpa false
set_option linter.unusedSimpArgs false
def lamplighterref05_may.C : Contract
  | [.agg [.int .i64 k, .int .i64 a, .int .i64 w], .int .i64 n] => some (false, pD True (.bool (mmay ⟨k, a, w⟩ n)))
  | _ => none
set_option maxRecDepth 20000 in
theorem lamplighterref05_may.spec : FSpec Try.prog 107 lamplighterref05_may.C := by
  refine FSpec.of (ctx_ok (F := []) (S := []) (by simp) (by simp) lamplighterref05_may.loops) lamplighterref05_may.at lamplighterref05_may.nm lamplighterref05_may.bd ?_
  intro vs b S v news e hS
  unfold lamplighterref05_may.C at e
  split at e
  rotate_left
  · cases e
  cases e
  rw [lamplighterref05_may.eq]
  unfold lamplighterref05_may.H
  simp (maxSteps := 4000000) only [go_sem, Nat.reduceEqDiff, Nat.reduceLT, Nat.reduceAdd, Nat.reduceSub, Nat.reduceLeDiff, List.reduceReplicate, Int.reduceToNat]
  rename_i k a w n
  have key : mmay ⟨k, a, w⟩ n = if k = 1 then (decide (0 ≤ a) && decide (a < n)) else (decide (k = 2) && decide (0 ≤ a) && decide (a < IntKind.i64.wrap (n.tdiv 8)) && decide (w = 0)) := by
    unfold mmay
    simp only []
    by_cases h1 : k = 1
    · subst h1; simp
    · rw [if_neg h1, if_neg h1]
      by_cases h2 : k = 2
      · subst h2; simp
      · rw [if_neg h2]
        rw [Bool.eq_iff_iff]; simp only [Bool.and_eq_true, Bool.or_eq_true, Bool.not_eq_true', Bool.not_eq_false', Bool.not_eq_true, decide_eq_true_eq, decide_eq_false_iff_not, Bool.or_eq_false_iff, Bool.and_eq_false_iff, beq_iff_eq]; simp [h2]; omega
  refine ⟨fun h => ?_, fun h => ⟨fun _ => by decide, ?_⟩⟩
  · rw [key, if_pos h]; exact post_val rfl rfl
  · rw [key, if_neg h]; exact post_val rfl rfl
def lamplighterref05_Check.C : Contract
  | [.sl _ (.mics l), .int .i64 n] => some (false, pD (roomy l.length) (.bool (stepsB l n)))
  | _ => none
set_option maxRecDepth 20000 in
theorem lamplighterref05_Check.spec : FSpec Try.prog 71 lamplighterref05_Check.C := by
  refine FSpec.of (ctx_ok (F := [(107, lamplighterref05_may.C)]) (S := []) (by simpa using lamplighterref05_may.spec) (by simp) lamplighterref05_Check.loops) lamplighterref05_Check.at lamplighterref05_Check.nm lamplighterref05_Check.bd ?_
  intro vs b S v news e hS
  unfold lamplighterref05_Check.C at e
  split at e
  rotate_left
  · cases e
  cases e
  rw [lamplighterref05_Check.eq]
  unfold lamplighterref05_Check.H
  simp (maxSteps := 4000000) only [go_sem, Nat.reduceEqDiff, Nat.reduceLT, Nat.reduceAdd, Nat.reduceSub, Nat.reduceLeDiff, List.reduceReplicate, Int.reduceToNat, lamplighterref05_may.C]
  rename_i _ l n
  have e : (decide (n < 0) || decide (4096 < n) || !decide (n.tmod 8 = 0)) = !sizedB n := by
    unfold sizedB; rw [Bool.eq_iff_iff]; simp only [Bool.and_eq_true, Bool.or_eq_true, Bool.not_eq_true', Bool.not_eq_false', Bool.not_eq_true, decide_eq_true_eq, decide_eq_false_iff_not, Bool.or_eq_false_iff, Bool.and_eq_false_iff, beq_iff_eq]; omega
  rw [e]
  unfold roomy at hS
  refine ⟨fun _ => by decide, fun h => ?_, fun h => ?_⟩
  · rw [Bool.not_eq_true'] at h
    unfold stepsB; rw [h]; exact post_val rfl rfl
  rw [Bool.not_eq_false'] at h
  rw [joinW_eq]
  unfold lamplighterref05_Check.L1
  refine loop1 (σ := Nat) (fun k => .int .i64 k) (fun k => []) (fun k => l.length - k) (fun k => k ≤ l.length ∧ ∀ x ∈ l.take k, mmay x n = true) 0 rfl rfl ⟨Nat.zero_le _, by simp⟩ ?_
  rintro I back k ⟨hk, hall⟩
  simp only [lamplighterref05_may.C, go_sem, Nat.reduceEqDiff, Nat.reduceLT, Nat.reduceAdd, Nat.reduceSub, Nat.reduceLeDiff, List.reduceReplicate, Int.reduceToNat]
  refine ⟨fun hlt => ⟨by omega, fun hm => ?_, fun hm => ?_⟩, fun hge => ?_⟩
  · have : stepsB l n = false := by
      unfold stepsB
      rw [Bool.and_eq_false_iff]; right
      rw [List.all_eq_false]
      exact ⟨_, getD_mem l k ⟨0, 0, 0⟩ (by omega), by simpa using hm⟩
    rw [this]; exact post_val rfl rfl
  · refine back (k + 1) (by omega) (by rw [wnext (by omega)]) rfl ⟨by omega, fun x hx => ?_⟩
    rw [take_next l k ⟨0, 0, 0⟩ (by omega), List.mem_append, List.mem_singleton] at hx
    rcases hx with hx | rfl
    · exact hall x hx
    · exact hm
  · obtain rfl : k = l.length := by omega
    rw [List.take_length] at hall
    have : stepsB l n = true := by unfold stepsB; rw [h, Bool.true_and, List.all_eq_true]; exact hall
    rw [this]; exact post_val rfl rfl
def lamplighterref05_Do.C : Contract
  | [.agg [.sl false (.ints .i64 vol), .sl false (.ints .i64 per), .sl false (.pends pend)], .agg [.int .i64 a, .int .i64 b, .int .i64 c]] => some (false, pD (smallM vol per pend ∧ pend.length + 1 ≤ 1000000) (runV ⟨vol, per, pend⟩ [⟨a, b, c⟩]))
  | _ => none
set_option maxRecDepth 20000 in
theorem lamplighterref05_Do.spec : FSpec Try.prog 66 lamplighterref05_Do.C := by
  refine FSpec.of (ctx_ok (F := [(106, lamplighterref04_Check.C), (107, lamplighterref05_may.C), (108, lamplighterref04_Put.C), (109, lamplighterref04_Flush.C), (110, lamplighterref04_Fence.C)]) (S := []) (by simpa using ⟨lamplighterref04_Check.spec, lamplighterref05_may.spec, lamplighterref04_Put.spec, lamplighterref04_Flush.spec, lamplighterref04_Fence.spec⟩) (by simp) lamplighterref05_Do.loops) lamplighterref05_Do.at lamplighterref05_Do.nm lamplighterref05_Do.bd ?_
  intro vs b S v news e hS
  unfold lamplighterref05_Do.C at e
  split at e
  rotate_left
  · cases e
  cases e
  rw [lamplighterref05_Do.eq]
  unfold lamplighterref05_Do.H
  simp (maxSteps := 4000000) only [go_sem, Nat.reduceEqDiff, Nat.reduceLT, Nat.reduceAdd, Nat.reduceSub, Nat.reduceLeDiff, List.reduceReplicate, Int.reduceToNat, lamplighterref04_Check.C, lamplighterref05_may.C, lamplighterref04_Put.C, lamplighterref04_Flush.C, lamplighterref04_Fence.C]
  rename_i vol per pend a b c
  obtain ⟨hs, hz⟩ := hS
  have key : (!checkB vol per pend || !mmay ⟨a, b, c⟩ vol.length) = !soundB ⟨vol, per, pend⟩ [⟨a, b, c⟩] := by
    rw [← Bool.not_and]
    congr 1
    rw [Bool.eq_iff_iff, sound_iff, Bool.and_eq_true, check_iff]
    constructor
    · rintro ⟨h1, h2⟩
      exact ⟨h1, fun x hx => by rw [List.mem_singleton] at hx; subst hx; exact (mmay_iff h1.sz).1 h2⟩
    · rintro ⟨h1, h2⟩
      exact ⟨h1, (mmay_iff (OkM.sz h1)).2 (h2 _ (by simp))⟩
  rw [key]
  refine ⟨hs, fun h => ?_, fun h => ?_⟩
  · rw [Bool.not_eq_true'] at h
    rw [runV_no h]; exact post_val rfl rfl
  rw [Bool.not_eq_false'] at h
  obtain ⟨ok, hx⟩ := sound_iff.1 h
  have hx := hx _ (List.mem_singleton.2 rfl)
  have ok : OkM vol per pend := ok
  rw [runV_ok h]
  refine ⟨fun ha => ⟨⟨hs, by unfold roomy; omega⟩, ?_⟩, fun ha => ⟨hs, ?_⟩⟩
  · rcases hx with ⟨hkd, h0, h1⟩ | ⟨hkd, h0, h1, _⟩
    · have hp : placeB vol per pend b = true := place_iff.2 ⟨⟨h0, h1⟩, ok⟩
      simp only [putM_ok hp, go_sem, Nat.reduceEqDiff, Nat.reduceLT, Nat.reduceAdd, Nat.reduceSub, Nat.reduceLeDiff, List.reduceReplicate, Int.reduceToNat]
      subst ha
      exact post_val rfl rfl
    · simp only [] at hkd; omega
  · rcases hx with ⟨hkd, h0, h1⟩ | ⟨hkd, h0, h1, _⟩
    · exact absurd hkd ha
    · have hp : placeB vol per pend (firstI vol b) = true := (OkM.first ok h0 (by simp only [] at h1; omega)).2
      have okf := ok.flush b
      simp only [flushM_ok hp, lamplighterref04_Fence.C, fenceM_ok, check_iff.2 okf, go_sem, Nat.reduceEqDiff, Nat.reduceLT, Nat.reduceAdd, Nat.reduceSub, Nat.reduceLeDiff, List.reduceReplicate, Int.reduceToNat]
      refine ⟨okf.small (by rw [flushP_len]; omega), post_val ?_ rfl⟩
      have hkd : a = 2 := hkd
      subst hkd
      rfl
def lamplighterref05_Run.C : Contract
  | [.agg [.sl false (.ints .i64 vol), .sl false (.ints .i64 per), .sl false (.pends pend)], .sl _ (.mics l)] => some (false, pD (smallM vol per pend ∧ pend.length + l.length ≤ 1000000) (runV ⟨vol, per, pend⟩ l))
  | _ => none
set_option maxRecDepth 20000 in
theorem lamplighterref05_Run.spec : FSpec Try.prog 64 lamplighterref05_Run.C := by
  refine FSpec.of (ctx_ok (F := [(106, lamplighterref04_Check.C), (71, lamplighterref05_Check.C), (66, lamplighterref05_Do.C)]) (S := []) (by simpa using ⟨lamplighterref04_Check.spec, lamplighterref05_Check.spec, lamplighterref05_Do.spec⟩) (by simp) lamplighterref05_Run.loops) lamplighterref05_Run.at lamplighterref05_Run.nm lamplighterref05_Run.bd ?_
  intro vs b S v news e hS
  unfold lamplighterref05_Run.C at e
  split at e
  rotate_left
  · cases e
  cases e
  rw [lamplighterref05_Run.eq]
  unfold lamplighterref05_Run.H
  simp (maxSteps := 4000000) only [go_sem, Nat.reduceEqDiff, Nat.reduceLT, Nat.reduceAdd, Nat.reduceSub, Nat.reduceLeDiff, List.reduceReplicate, Int.reduceToNat, lamplighterref04_Check.C, lamplighterref05_Check.C, lamplighterref05_Do.C]
  rename_i vol per pend _ l
  obtain ⟨hs, hz⟩ := hS
  have key : (!checkB vol per pend || !stepsB l vol.length) = !soundB ⟨vol, per, pend⟩ l := by
    rw [← Bool.not_and]; rfl
  rw [key]
  refine ⟨hs, by unfold roomy; omega, fun h => ?_, fun h => ?_⟩
  · rw [Bool.not_eq_true'] at h
    rw [runV_no h]; exact post_val rfl rfl
  rw [Bool.not_eq_false'] at h
  obtain ⟨ok, hl⟩ := sound_iff.1 h
  rw [runV_ok h, joinW_eq]
  unfold lamplighterref05_Run.L1
  refine loop1 (σ := Nat) (fun k => .int .i64 k) (fun k => [.box (runS ⟨vol, per, pend⟩ (l.take k)).V, .box (memV [] [] [])]) (fun k => l.length - k) (fun k => k ≤ l.length) 0 rfl rfl (Nat.zero_le _) ?_
  intro I back k hk
  have okk := runS_ok (l.take k) ok fun x hx => hl x ((List.take_sublist _ _).subset hx)
  have lenk := runS_len (l.take k) ⟨vol, per, pend⟩
  have pendk := runS_pend_le (l.take k) ⟨vol, per, pend⟩
  rw [List.length_take] at pendk
  simp only [] at lenk pendk
  simp only [go_sem, Nat.reduceEqDiff, Nat.reduceLT, Nat.reduceAdd, Nat.reduceSub, Nat.reduceLeDiff, List.reduceReplicate, Int.reduceToNat]
  refine ⟨fun hlt => ?_, fun hge => ?_⟩
  · have hkl : k < l.length := by omega
    have hnx : runS ⟨vol, per, pend⟩ (l.take (k + 1)) = stepM (runS ⟨vol, per, pend⟩ (l.take k)) (l.getD k ⟨0, 0, 0⟩) := by
      rw [take_next l k ⟨0, 0, 0⟩ hkl, runS_append]; rfl
    have hx := hl _ (getD_mem l k ⟨0, 0, 0⟩ hkl)
    generalize l.getD k ⟨0, 0, 0⟩ = x at *
    generalize runS ⟨vol, per, pend⟩ (l.take k) = m at *
    have hsm : smallM m.vol m.per m.pend := OkM.small okk (by omega)
    have hso : soundB ⟨m.vol, m.per, m.pend⟩ [⟨x.kind, x.at_, x.val⟩] = true := sound_iff.2 ⟨okk, fun y hy => by
      rw [List.mem_singleton] at hy; subst hy
      show MayN x m.vol.length
      rw [lenk]; exact hx⟩
    simp only [lamplighterref05_Do.C, runV_ok hso, go_sem, Nat.reduceEqDiff, Nat.reduceLT, Nat.reduceAdd, Nat.reduceSub, Nat.reduceLeDiff, List.reduceReplicate, Int.reduceToNat]
    refine ⟨by omega, ⟨hsm, by omega⟩, back (k + 1) (by omega) (by rw [wnext (by omega)]) ?_ (by omega)⟩
    rw [hnx]; rfl
  · obtain rfl : k = l.length := by omega
    rw [List.take_length]
    exact post_val rfl rfl
def lamplighterref05_Crash.C : Contract
  | [.agg [.sl false (.ints .i64 vol), .sl false (.ints .i64 per), .sl false (.pends pend)], .sl _ (.mics l), .int .i64 n, .sl _ (.ints .i64 keep)] => some (false, pD (smallM vol per pend ∧ pend.length + l.length ≤ 1000000 ∧ roomy keep.length) (mcrashV ⟨vol, per, pend⟩ l n keep))
  | _ => none
set_option maxRecDepth 20000 in
theorem lamplighterref05_Crash.spec : FSpec Try.prog 68 lamplighterref05_Crash.C := by
  refine FSpec.of (ctx_ok (F := [(64, lamplighterref05_Run.C), (112, lamplighterref04_Crash.C)]) (S := []) (by simpa using ⟨lamplighterref05_Run.spec, lamplighterref04_Crash.spec⟩) (by simp) lamplighterref05_Crash.loops) lamplighterref05_Crash.at lamplighterref05_Crash.nm lamplighterref05_Crash.bd ?_
  intro vs b S v news e hS
  unfold lamplighterref05_Crash.C at e
  split at e
  rotate_left
  · cases e
  cases e
  rw [lamplighterref05_Crash.eq]
  unfold lamplighterref05_Crash.H
  simp (maxSteps := 4000000) only [go_sem, Nat.reduceEqDiff, Nat.reduceLT, Nat.reduceAdd, Nat.reduceSub, Nat.reduceLeDiff, List.reduceReplicate, Int.reduceToNat, lamplighterref05_Run.C, lamplighterref04_Crash.C]
  rename_i vol per pend _ l n _ keep
  obtain ⟨hs, hz, hk1⟩ := hS
  refine ⟨⟨hs, hz⟩, ?_⟩
  have hfold : (if (if (l.length : Int) < n then (l.length : Int) else n) > 0 then (if (l.length : Int) < n then (l.length : Int) else n) else 0) = cutI n l.length := rfl
  rw [hfold]
  have hc := cutI_range n l.length
  cases h : soundB ⟨vol, per, pend⟩ l with
  | false =>
    simp only [runV_no h, mcrash_no h, joinW_eq, guard_tt, guard_tf, guard_ft, guard_ff, Int.reduceEq, Int.reduceLT, Int.reduceLE, decide_false, decide_true, Bool.not_false, Bool.not_true, Bool.not_not, not_true_eq_false, not_false_eq_true, true_implies, false_implies, implies_true, and_true, true_and, reduceCtorEq, Bool.and_self, Bool.or_self, Bool.and_true, Bool.true_and, Bool.false_eq_true, if_true, if_false, go_sem, Nat.reduceEqDiff, Nat.reduceLT, Nat.reduceAdd, Nat.reduceSub, Nat.reduceLeDiff, List.reduceReplicate, Int.reduceToNat]
    exact post_val rfl rfl
  | true =>
    obtain ⟨ok, hl⟩ := sound_iff.1 h
    have hso : soundB ⟨vol, per, pend⟩ (l.take (cutI n l.length).toNat) = true := sound_iff.2 ⟨ok, fun x hx => hl x ((List.take_sublist _ _).subset hx)⟩
    have okk := runS_ok (l.take (cutI n l.length).toNat) ok fun x hx => hl x ((List.take_sublist _ _).subset hx)
    have pendk := runS_pend_le (l.take (cutI n l.length).toNat) ⟨vol, per, pend⟩
    have hlt : (l.take (cutI n l.length).toNat).length ≤ l.length := by rw [List.length_take]; omega
    simp only [] at pendk
    simp only [runV_ok h, mcrash_ok h, runV_ok hso, lamplighterref05_Run.C, joinW_eq, guard_tt, guard_tf, guard_ft, guard_ff, Int.reduceEq, Int.reduceLT, Int.reduceLE, decide_false, decide_true, Bool.not_false, Bool.not_true, Bool.not_not, not_true_eq_false, not_false_eq_true, true_implies, false_implies, implies_true, and_true, true_and, reduceCtorEq, Bool.and_self, Bool.or_self, Bool.and_true, Bool.true_and, Bool.false_eq_true, if_true, if_false, go_sem, Nat.reduceEqDiff, Nat.reduceLT, Nat.reduceAdd, Nat.reduceSub, Nat.reduceLeDiff, List.reduceReplicate, Int.reduceToNat]
    generalize runS ⟨vol, per, pend⟩ (l.take (cutI n l.length).toNat) = m at *
    have hsm : smallM m.vol m.per m.pend := OkM.small okk (by omega)
    have hck : checkB m.vol m.per m.pend = true := check_iff.2 okk
    simp only [hck, crashM_ok, lamplighterref04_Crash.C, joinW_eq, guard_tt, guard_tf, guard_ft, guard_ff, Int.reduceEq, Int.reduceLT, Int.reduceLE, decide_false, decide_true, Bool.not_false, Bool.not_true, Bool.not_not, not_true_eq_false, not_false_eq_true, true_implies, false_implies, implies_true, and_true, true_and, reduceCtorEq, Bool.and_self, Bool.or_self, Bool.and_true, Bool.true_and, Bool.false_eq_true, if_true, if_false, go_sem, Nat.reduceEqDiff, Nat.reduceLT, Nat.reduceAdd, Nat.reduceSub, Nat.reduceLeDiff, List.reduceReplicate, Int.reduceToNat]
    exact ⟨hc, ⟨hs, by omega⟩, ⟨hsm, hk1⟩, post_val rfl rfl⟩
def lamplighterref05_Same.C : Contract
  | [.sl _ (.mics a), .sl _ (.mics b)] => some (false, pD (roomy a.length) (.bool (decide (a = b))))
  | _ => none
set_option maxRecDepth 20000 in
theorem lamplighterref05_Same.spec : FSpec Try.prog 23 lamplighterref05_Same.C := by
  refine FSpec.of (ctx_ok (F := []) (S := []) (by simp) (by simp) lamplighterref05_Same.loops) lamplighterref05_Same.at lamplighterref05_Same.nm lamplighterref05_Same.bd ?_
  intro vs b S v news e hS
  unfold lamplighterref05_Same.C at e
  split at e
  rotate_left
  · cases e
  cases e
  rw [lamplighterref05_Same.eq]
  unfold lamplighterref05_Same.H
  simp (maxSteps := 4000000) only [go_sem, Nat.reduceEqDiff, Nat.reduceLT, Nat.reduceAdd, Nat.reduceSub, Nat.reduceLeDiff, List.reduceReplicate, Int.reduceToNat]
  rename_i _ a _ b
  unfold roomy at hS
  refine ⟨fun hne => ?_, fun heq => ?_⟩
  · have : decide (a = b) = false := by rw [decide_eq_false_iff_not]; rintro rfl; exact hne rfl
    rw [this]; exact post_val rfl rfl
  rw [joinW_eq]
  unfold lamplighterref05_Same.L1
  have hlen : a.length = b.length := by omega
  refine loop1 (fun k : Nat => .int .i64 k) (fun _ => []) (fun k => a.length - k) (fun k => k ≤ a.length ∧ ∀ i, i < k → a.getD i ⟨0, 0, 0⟩ = b.getD i ⟨0, 0, 0⟩) 0 rfl rfl ⟨Nat.zero_le _, fun i hi => absurd hi (Nat.not_lt_zero i)⟩ ?_
  rintro I back k ⟨hk, hall⟩
  have hd : ∀ a b : Mic, (decide (a.kind = b.kind) && (decide (a.at_ = b.at_) && (decide (a.val = b.val)))) = decide (a = b) := fun a b => by
    cases a; cases b; rw [Bool.eq_iff_iff]; simp only [Bool.and_eq_true, Bool.or_eq_true, Bool.not_eq_true', Bool.not_eq_false', Bool.not_eq_true, decide_eq_true_eq, decide_eq_false_iff_not, Bool.or_eq_false_iff, Bool.and_eq_false_iff, beq_iff_eq]; simp
  simp only [go_sem, Nat.reduceEqDiff, Nat.reduceLT, Nat.reduceAdd, Nat.reduceSub, Nat.reduceLeDiff, List.reduceReplicate, Int.reduceToNat, Bool.and_true]
  rw [hd]
  refine ⟨fun hlt => ⟨by omega, by omega, fun h0 => ?_, fun h0 => ?_⟩, fun hge => ?_⟩
  · rw [decide_eq_false_iff_not] at h0
    have : decide (a = b) = false := by rw [decide_eq_false_iff_not]; rintro rfl; exact h0 rfl
    rw [this]; exact post_val rfl rfl
  · rw [decide_eq_true_eq] at h0
    refine back (k + 1) (by omega) (by rw [wnext (by omega)]) rfl ⟨by omega, fun i hi => ?_⟩
    by_cases e : i = k
    · subst e; exact h0
    · exact hall i (by omega)
  · rw [decide_eq_true (ext_d _ hlen fun i hi => hall i (by omega))]; exact post_val rfl rfl
end Lam
namespace Lam
open Go Go.Proofs
set_option linter.unusedVariables false
def lamplighterlaw05_MicroTells.loops : Nat → LInfo
  | 2 => ⟨[], [], [], [(4, none), (3, some [29, 32]), (2, none), (3, some [34, 37])], []⟩
  | 10 => ⟨[], [], [], [(4, none), (3, some [83, 86]), (2, none), (3, some [88, 91])], []⟩
  | 11 => ⟨[], [], [], [(2, none), (1, some [94, 95]), (2, none), (3, some [97, 100]), (2, none), (3, some [102, 105]), (2, none), (3, some [107, 110]), (2, none), (7, some [112, 119])], []⟩
  | _ => ⟨[], [], [], [], []⟩
def lamplighterlaw05_MicroTells.H (c : Ctx) (t0 : AV) (t1 : AV) (t2 : AV) (t3 : AV) (t4 : AV) (h : List AObj) (K : AOut → List AObj → Prop) : Prop :=
  boxW T_api_Mem t0 h fun t5 h =>
  boxW T_api_Micro t2 h fun t7 h =>
  callW c (.fn (.func 61) [] []) [] h (fun t25 h =>
  runD (fitD T_api_Mem (loadD h t5)) h fun t26 h =>
  callW c (.fn (.func 62) [] []) [t26] h (fun t27 h =>
  runD (unD .not t27) h fun t28 h =>
  joinW (fun (J1 : AV → AV → List AObj → Prop) =>
  guardW t28 false
  (runD (lenD T_sl_api_Micro h t1) h fun t31 h =>
    runD (binD T_int .gtr t31 (.int .i64 100)) h fun t32 h =>
    J1 (.bool false) t32 h)
  (J1 (.bool true) .und h))
  (fun t29 t32 h => runD (pickD t29 (.bool true) t32) h fun t33 h =>
  joinW (fun (J2 : AV → AV → List AObj → Prop) =>
  guardW t33 false
  (runD (lenD T_sl_int h t4) h fun t36 h =>
    runD (binD T_int .gtr t36 (.int .i64 300)) h fun t37 h =>
    J2 (.bool false) t37 h)
  (J2 (.bool true) .und h))
  (fun t34 t37 h => runD (pickD t34 (.bool true) t37) h fun t38 h =>
  condW t38
  (K (.ret t25) h)
  (runD (fitD T_api_Mem (loadD h t5)) h fun t41 h =>
  callW c (.fn (.func 63) [] []) [t41, t1] h (fun t43 h =>
  runD (extractD t43 0) h fun t44 h =>
  runD (extractD t43 1) h fun t45 h =>
  allocW T_api_Mem h fun t12 h =>
  runH (storeH T_api_Mem h t12 t44) h fun _ h =>
  runD (fitD T_api_Mem (loadD h t5)) h fun t47 h =>
  callW c (.fn (.func 64) [] []) [t47, t1] h (fun t49 h =>
  runD (extractD t49 0) h fun t50 h =>
  runD (extractD t49 1) h fun t51 h =>
  allocW T_api_Mem h fun t14 h =>
  runH (storeH T_api_Mem h t14 t50) h fun _ h =>
  runD (fitD T_api_Mem (loadD h t5)) h fun t53 h =>
  runD (fitD T_api_Micro (loadD h t7)) h fun t54 h =>
  callW c (.fn (.func 65) [] []) [t53, t54] h (fun t55 h =>
  runD (extractD t55 0) h fun t56 h =>
  runD (extractD t55 1) h fun t57 h =>
  allocW T_api_Mem h fun t16 h =>
  runH (storeH T_api_Mem h t16 t56) h fun _ h =>
  runD (fitD T_api_Mem (loadD h t5)) h fun t59 h =>
  runD (fitD T_api_Micro (loadD h t7)) h fun t60 h =>
  callW c (.fn (.func 66) [] []) [t59, t60] h (fun t61 h =>
  runD (extractD t61 0) h fun t62 h =>
  runD (extractD t61 1) h fun t63 h =>
  allocW T_api_Mem h fun t18 h =>
  runH (storeH T_api_Mem h t18 t62) h fun _ h =>
  runD (fitD T_api_Mem (loadD h t5)) h fun t65 h =>
  callW c (.fn (.func 67) [] []) [t65, t1, t3, t4] h (fun t69 h =>
  runD (extractD t69 0) h fun t70 h =>
  runD (extractD t69 1) h fun t71 h =>
  runD (fitD T_api_Mem (loadD h t5)) h fun t73 h =>
  callW c (.fn (.func 68) [] []) [t73, t1, t3, t4] h (fun t77 h =>
  runD (extractD t77 0) h fun t78 h =>
  runD (extractD t77 1) h fun t79 h =>
  runD (fitD T_api_Mem (loadD h t12)) h fun t80 h =>
  runD (fitD T_api_Mem (loadD h t14)) h fun t81 h =>
  callW c (.fn (.func 69) [] []) [t80, t81] h (fun t82 h =>
  joinW (fun (J3 : AV → AV → List AObj → Prop) =>
  guardW t82 true
  (runD (fitD T_api_Mem (loadD h t16)) h fun t84 h =>
    runD (fitD T_api_Mem (loadD h t18)) h fun t85 h =>
    callW c (.fn (.func 69) [] []) [t84, t85] h (fun t86 h =>
    J3 (.bool true) t86 h)
    (fun v h => K (.pan v) h))
  (J3 (.bool false) .und h))
  (fun t83 t86 h => runD (pickD t83 t86 (.bool false)) h fun t87 h =>
  joinW (fun (J4 : AV → AV → List AObj → Prop) =>
  guardW t87 true
  (callW c (.fn (.func 22) [] []) [t70, t78] h (fun t91 h =>
    J4 (.bool true) t91 h)
    (fun v h => K (.pan v) h))
  (J4 (.bool false) .und h))
  (fun t88 t91 h => runD (pickD t88 t91 (.bool false)) h fun t92 h =>
  joinW (fun (J5 : AV → AV → List AObj → Prop) =>
  guardW t25 true
  (J5 (.bool true) t92 h)
  (J5 (.bool false) .und h))
  (fun t94 t95 h => runD (pickD t94 t95 (.bool false)) h fun t96 h =>
  joinW (fun (J6 : AV → AV → List AObj → Prop) =>
  guardW t96 true
  (runD (binD T_api_Errno .eql t45 t51) h fun t100 h =>
    J6 (.bool true) t100 h)
  (J6 (.bool false) .und h))
  (fun t97 t100 h => runD (pickD t97 t100 (.bool false)) h fun t101 h =>
  joinW (fun (J7 : AV → AV → List AObj → Prop) =>
  guardW t101 true
  (runD (binD T_api_Errno .eql t57 t63) h fun t105 h =>
    J7 (.bool true) t105 h)
  (J7 (.bool false) .und h))
  (fun t102 t105 h => runD (pickD t102 t105 (.bool false)) h fun t106 h =>
  joinW (fun (J8 : AV → AV → List AObj → Prop) =>
  guardW t106 true
  (runD (binD T_api_Errno .eql t71 t79) h fun t110 h =>
    J8 (.bool true) t110 h)
  (J8 (.bool false) .und h))
  (fun t107 t110 h => runD (pickD t107 t110 (.bool false)) h fun t111 h =>
  joinW (fun (J9 : AV → AV → List AObj → Prop) =>
  guardW t111 true
  (callW c (.fn (.func 70) [] []) [t1, t3] h (fun t115 h =>
    callW c (.fn (.func 71) [] []) [t1, t3] h (fun t118 h =>
    runD (binD T_bool .eql t115 t118) h fun t119 h =>
    J9 (.bool true) t119 h)
    (fun v h => K (.pan v) h))
    (fun v h => K (.pan v) h))
  (J9 (.bool false) .und h))
  (fun t112 t119 h => runD (pickD t112 t119 (.bool false)) h fun t120 h =>
  K (.ret t120) h))))))))
  (fun v h => K (.pan v) h))
  (fun v h => K (.pan v) h))
  (fun v h => K (.pan v) h))
  (fun v h => K (.pan v) h))
  (fun v h => K (.pan v) h))
  (fun v h => K (.pan v) h))
  (fun v h => K (.pan v) h)))))
  (fun v h => K (.pan v) h))
  (fun v h => K (.pan v) h)
theorem lamplighterlaw05_MicroTells.eq (F : List (FuncId × Contract)) (S : List (FuncId × Con)) (t0 t1 t2 t3 t4 : AV) (h : List AObj) (K : AOut → List AObj → Prop) : funW (ctx F S lamplighterlaw05_MicroTells.loops) Try.f14 [t0, t1, t2, t3, t4] h K = lamplighterlaw05_MicroTells.H (ctx F S lamplighterlaw05_MicroTells.loops) t0 t1 t2 t3 t4 h K := by kernel_rfl
theorem lamplighterlaw05_MicroTells.at : Try.prog.funcs[14]? = some Try.f14 := by kernel_rfl
theorem lamplighterlaw05_MicroTells.nm : (Try.f14.name == "runtime.NumGoroutine") = false := by kernel_rfl
theorem lamplighterlaw05_MicroTells.bd : Try.f14.body.isNone = false := by kernel_rfl
end Lam
namespace Lam
open Go Go.Proofs
set_option linter.unusedVariables false
set_option linter.unnecessarySimpa false
set_option linter.unusedSimpArgs false
abbrev MicroTells_ctx : Ctx := ctx [(61, lamplighterlaw05_awake.C), (62, lamplighterref04_Few.C), (63, micro_Run.C), (65, micro_Do.C), (67, micro_Crash.C), (70, micro_Check.C), (64, lamplighterref05_Run.C), (66, lamplighterref05_Do.C), (68, lamplighterref05_Crash.C), (71, lamplighterref05_Check.C), (69, lamplighterref04_Same.C), (22, lamplighterref02_Numbers.C)] [] lamplighterlaw05_MicroTells.loops
set_option maxRecDepth 20000 in
theorem MicroTells_vc (m_vol : List Int) (m_per : List Int) (m_pend : List Pend) (l : List Mic) (x_kind : Int) (x_at : Int) (x_val : Int) (n : Int) (keep : List Int) (w_m_vol : wfL (.ints .i64 m_vol)) (n_m_vol : m_vol.length ≤ maxLen) (w_m_per : wfL (.ints .i64 m_per)) (n_m_per : m_per.length ≤ maxLen) (w_m_pend : wfL (.pends m_pend)) (n_m_pend : m_pend.length ≤ maxLen) (w_l : wfL (.mics l)) (n_l : l.length ≤ maxLen) (w_x_kind : (Lit.int .i64 x_kind).wf = true) (w_x_at : (Lit.int .i64 x_at).wf = true) (w_x_val : (Lit.int .i64 x_val).wf = true) (w_n : (Lit.int .i64 n).wf = true) (w_keep : wfL (.ints .i64 keep)) (n_keep : keep.length ≤ maxLen) : lamplighterlaw05_MicroTells.H MicroTells_ctx (.agg [(.sl false (.ints .i64 m_vol)), (.sl false (.ints .i64 m_per)), (.sl false (.pends m_pend))]) (.sl false (.mics l)) (.agg [(.int .i64 x_kind), (.int .i64 x_at), (.int .i64 x_val)]) (.int .i64 n) (.sl false (.ints .i64 keep)) [] Told := by
  unfold lamplighterlaw05_MicroTells.H
  simp (maxSteps := 4000000) only [go_sem, Nat.reduceEqDiff, Nat.reduceLT, Nat.reduceAdd, Nat.reduceSub, Nat.reduceLeDiff, List.reduceReplicate, Int.reduceToNat, lamplighterlaw05_awake.C, lamplighterref04_Few.C, micro_Run.C, micro_Do.C, micro_Crash.C, micro_Check.C, lamplighterref05_Run.C, lamplighterref05_Do.C, lamplighterref05_Crash.C, lamplighterref05_Check.C, lamplighterref04_Same.C, lamplighterref02_Numbers.C]
  refine ⟨fun _ => rfl, fun hg => ?_⟩
  simp only [Bool.or_eq_false_iff, Bool.not_eq_false', decide_eq_false_iff_not, few_iff] at hg
  obtain ⟨⟨⟨f1, f2, f3⟩, hl⟩, hk⟩ := hg
  have hi64 := wf_i64s w_keep
  have hkr : roomy keep.length := by unfold roomy; omega
  have sm : smallM m_vol m_per m_pend := by unfold smallM roomy; omega
  obtain ⟨A, e1, hA, a1, a2, a3⟩ := runV_ex ⟨m_vol, m_per, m_pend⟩ l
  obtain ⟨B, e2, hB, b1, b2, b3⟩ := runV_ex ⟨m_vol, m_per, m_pend⟩ [⟨x_kind, x_at, x_val⟩]
  obtain ⟨w, e3, hw, w1⟩ := mcrash_ex ⟨m_vol, m_per, m_pend⟩ l n keep
  simp only [List.length_cons, List.length_nil] at a1 a2 a3 b1 b2 b3 w1
  have hst : (sizedB n && l.all fun x => mmay x n) = stepsB l n := rfl
  simp only [hA, hB, hw, hst, micro_Do.C, micro_Crash.C, micro_Check.C, lamplighterref05_Run.C, lamplighterref05_Do.C, lamplighterref05_Crash.C, lamplighterref05_Check.C, lamplighterref04_Same.C, lamplighterref02_Numbers.C, sameB_self, beq_self_eq_true, joinW_eq, guard_tt, guard_tf, guard_ft, guard_ff, Int.reduceEq, Int.reduceLT, Int.reduceLE, decide_false, decide_true, Bool.not_false, Bool.not_true, Bool.not_not, not_true_eq_false, not_false_eq_true, true_implies, false_implies, implies_true, and_true, true_and, reduceCtorEq, Bool.and_self, Bool.or_self, Bool.and_true, Bool.true_and, Bool.false_eq_true, if_true, if_false, go_sem, Nat.reduceEqDiff, Nat.reduceLT, Nat.reduceAdd, Nat.reduceSub, Nat.reduceLeDiff, List.reduceReplicate, Int.reduceToNat]
  have sA : smallM A.vol A.per A.pend := by unfold smallM roomy; omega
  have sB : smallM B.vol B.per B.pend := by unfold smallM roomy; omega
  have rl : roomy l.length := by unfold roomy; omega
  have rw1 : roomy w.length := by unfold roomy; omega
  exact ⟨⟨sm, by omega⟩, ⟨sm, by omega⟩, ⟨sm, by omega⟩, ⟨sm, by omega⟩, ⟨sm, by omega, hkr, hi64⟩, ⟨sm, by omega, hkr⟩, sA, sB, rw1, rl, rl, rfl⟩
theorem MicroTells_ok : Ok Try.prog MicroTells_ctx := ctx_ok (by simpa using ⟨lamplighterlaw05_awake.spec, lamplighterref04_Few.spec, micro_Run.spec, micro_Do.spec, micro_Crash.spec, micro_Check.spec, lamplighterref05_Run.spec, lamplighterref05_Do.spec, lamplighterref05_Crash.spec, lamplighterref05_Check.spec, lamplighterref04_Same.spec, lamplighterref02_Numbers.spec⟩) (by simp) _
theorem MicroTells_law (m : AV) (l : Lst) (x : AV) (n : Int) (keep : Lst) (g_m : GoodV T_api_Mem m) (k_l : l.kind = .mic) (w_l : wfL l) (n_l : l.len ≤ maxLen) (g_x : GoodV T_api_Micro x) (w_n : (Lit.int .i64 n).wf = true) (k_keep : keep.kind = (.int .i64)) (w_keep : wfL keep) (n_keep : keep.len ≤ maxLen) : funW MicroTells_ctx Try.f14 [m, (.sl false l), x, (.int .i64 n), (.sl false keep)] [] Told := by
  obtain ⟨_, rfl, _, _, rfl, ⟨m_vol, rfl, k_m_vol, w_m_vol, n_m_vol⟩, _, _, rfl, ⟨m_per, rfl, k_m_per, w_m_per, n_m_per⟩, _, _, rfl, ⟨m_pend, rfl, k_m_pend, w_m_pend, n_m_pend⟩, rfl⟩ := g_m
  obtain ⟨_, rfl, _, _, rfl, ⟨x_kind, rfl, w_x_kind⟩, _, _, rfl, ⟨x_at, rfl, w_x_at⟩, _, _, rfl, ⟨x_val, rfl, w_x_val⟩, rfl⟩ := g_x
  obtain ⟨m_vol, rfl⟩ := gkind_ints k_m_vol
  obtain ⟨m_per, rfl⟩ := gkind_ints k_m_per
  obtain ⟨m_pend, rfl⟩ := gkind_pends k_m_pend
  obtain ⟨l, rfl⟩ := gkind_mics k_l
  obtain ⟨keep, rfl⟩ := gkind_ints k_keep
  rw [MicroTells_ctx, lamplighterlaw05_MicroTells.eq]
  exact MicroTells_vc m_vol m_per m_pend l x_kind x_at x_val n keep w_m_vol n_m_vol w_m_per n_m_per w_m_pend n_m_pend w_l n_l w_x_kind w_x_at w_x_val w_n w_keep n_keep
end Lam
