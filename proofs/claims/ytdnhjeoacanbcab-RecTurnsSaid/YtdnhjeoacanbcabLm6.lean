/- What functions of the program come to, each proved from its code. -/
import Derived.Test.YtdnhjeoacanbcabLm5
namespace Lam
open Go Go.Proofs
set_option linter.unusedVariables false
def micro_Run.loops : Nat → LInfo
  | _ => ⟨[], [], [], [], []⟩
def micro_Run.H (c : Ctx) (t0 : AV) (t1 : AV) (h : List AObj) (K : AOut → List AObj → Prop) : Prop :=
  boxW T_api_Mem t0 h fun t2 h =>
  allocW T_api_Mem h fun t4 h =>
  runD (fitD T_api_Mem (loadD h t2)) h fun t6 h =>
  callW false c (.fn (.func 52) [] []) [t6, t1] h (fun t8 h =>
  runD (unD .not t8) h fun t9 h =>
  condW t9
  (runD (fitD T_api_Mem (loadD h t2)) h fun t10 h =>
    runH (storeH T_api_Mem h t4 t10) h fun _ h =>
    loadRes (fitD T_api_Mem (loadD h t4)) fun r0 => K (.ret (.tup [r0, (.int .i64 40)])) h)
  (runD (fitD T_api_Mem (loadD h t2)) h fun t11 h =>
  runD (lenD T_sl_api_Micro h t1) h fun t14 h =>
  callW false c (.fn (.func 53) [] []) [t11, t1, t14] h (fun t15 h =>
  runH (storeH T_api_Mem h t4 t15) h fun _ h =>
  loadRes (fitD T_api_Mem (loadD h t4)) fun r0 => K (.ret (.tup [r0, (.int .i64 0)])) h)
  (fun v h => K (.pan v) h)))
  (fun v h => K (.pan v) h)
def micro_Crash.loops : Nat → LInfo
  | _ => ⟨[], [], [], [], []⟩
def micro_Crash.H (c : Ctx) (t0 : AV) (t1 : AV) (t2 : AV) (t3 : AV) (h : List AObj) (K : AOut → List AObj → Prop) : Prop :=
  boxW T_api_Mem t0 h fun t4 h =>
  runD (fitD T_api_Mem (loadD h t4)) h fun t10 h =>
  callW false c (.fn (.func 52) [] []) [t10, t1] h (fun t12 h =>
  runD (unD .not t12) h fun t13 h =>
  condW t13
  (K (.ret (.tup [(.sl true (.ints .i64 [])), (.int .i64 40)])) h)
  (runD (fitD T_api_Mem (loadD h t4)) h fun t14 h =>
  runD (lenD T_sl_api_Micro h t1) h fun t18 h =>
  runD (minD t2 t18) h fun t19 h =>
  runD (maxD (.int .i64 0) t19) h fun t20 h =>
  callW false c (.fn (.func 53) [] []) [t14, t1, t20] h (fun t21 h =>
  callW false c (.fn (.func 57) [] []) [t21, t3] h (fun t23 h =>
  runD (extractD t23 0) h fun t24 h =>
  runD (extractD t23 1) h fun t25 h =>
  K (.ret (.tup [t24, t25])) h)
  (fun v h => K (.pan v) h))
  (fun v h => K (.pan v) h)))
  (fun v h => K (.pan v) h)
def micro_Check.loops : Nat → LInfo
  | 1 => ⟨[], [], [], [(3, none), (2, some [8, 10]), (2, none), (3, some [12, 15])], []⟩
  | 2 => ⟨[], [], [], [(2, none), (4, some [18, 22])], []⟩
  | _ => ⟨[], [], [], [], []⟩
def micro_Check.H (c : Ctx) (t0 : AV) (t1 : AV) (h : List AObj) (K : AOut → List AObj → Prop) : Prop :=
  boxW T_int t1 h fun t3 h =>
  runD (fitD T_int (loadD h t3)) h fun t6 h =>
  runD (binD T_int .geq t6 (.int .i64 0)) h fun t7 h =>
  joinW (fun (J1 : AV → AV → List AObj → Prop) =>
  guardW t7 true
  (runD (fitD T_int (loadD h t3)) h fun t9 h =>
    runD (binD T_int .leq t9 (.int .i64 4096)) h fun t10 h =>
    J1 (.bool true) t10 h)
  (J1 (.bool false) .und h))
  (fun t8 t10 h => runD (pickD t8 t10 (.bool false)) h fun t11 h =>
  joinW (fun (J2 : AV → AV → List AObj → Prop) =>
  guardW t11 true
  (runD (fitD T_int (loadD h t3)) h fun t13 h =>
    runD (binD T_int .rem t13 (.int .i64 8)) h fun t14 h =>
    runD (binD T_int .eql t14 (.int .i64 0)) h fun t15 h =>
    J2 (.bool true) t15 h)
  (J2 (.bool false) .und h))
  (fun t12 t15 h => runD (pickD t12 t15 (.bool false)) h fun t16 h =>
  joinW (fun (J3 : AV → AV → List AObj → Prop) =>
  guardW t16 true
  (callW false c (.fn (.func 58) [] []) [t0, (.fn (.func 59) [] [t3])] h (fun t21 h =>
    runD (unD .not t21) h fun t22 h =>
    J3 (.bool true) t22 h)
    (fun v h => K (.pan v) h))
  (J3 (.bool false) .und h))
  (fun t18 t22 h => runD (pickD t18 t22 (.bool false)) h fun t23 h =>
  K (.ret t23) h)))
def micro_Do.loops : Nat → LInfo
  | _ => ⟨[], [], [], [], []⟩
def micro_Do.H (c : Ctx) (t0 : AV) (t1 : AV) (h : List AObj) (K : AOut → List AObj → Prop) : Prop :=
  boxW T_api_Mem t0 h fun t2 h =>
  boxW T_api_Micro t1 h fun t3 h =>
  allocW T_api_Mem h fun t4 h =>
  runD (fitD T_api_Mem (loadD h t2)) h fun t6 h =>
  runD (fitD T_api_Micro (loadD h t3)) h fun t7 h =>
  runD (buildSliceD T_sl_api_Micro 1 [(0, t7)] h.length) h fun t8 h =>
  callW false c (.fn (.func 17) [] []) [t6, t8] h (fun t9 h =>
  runD (extractD t9 0) h fun t10 h =>
  runD (extractD t9 1) h fun t11 h =>
  runH (storeH T_api_Mem h t4 t10) h fun _ h =>
  loadRes (fitD T_api_Mem (loadD h t4)) fun r0 => K (.ret (.tup [r0, t11])) h)
  (fun v h => K (.pan v) h)
def micro_sound.loops : Nat → LInfo
  | 1 => ⟨[], [], [], [(3, none), (5, some [7, 12])], []⟩
  | _ => ⟨[], [], [], [], []⟩
def micro_sound.H (c : Ctx) (t0 : AV) (t1 : AV) (h : List AObj) (K : AOut → List AObj → Prop) : Prop :=
  boxW T_api_Mem t0 h fun t2 h =>
  runD (fitD T_api_Mem (loadD h t2)) h fun t5 h =>
  callW false c (.fn (.func 19) [] []) [t5] h (fun t6 h =>
  joinW (fun (J1 : AV → AV → List AObj → Prop) =>
  guardW t6 true
  (runD (fieldAddrD T_api_Mem t2 0) h fun t9 h =>
    runD (fitD T_sl_int (loadD h t9)) h fun t10 h =>
    runD (lenD T_sl_int h t10) h fun t11 h =>
    callW false c (.fn (.func 21) [] []) [t1, t11] h (fun t12 h =>
    J1 (.bool true) t12 h)
    (fun v h => K (.pan v) h))
  (J1 (.bool false) .und h))
  (fun t7 t12 h => runD (pickD t7 t12 (.bool false)) h fun t13 h =>
  K (.ret t13) h))
  (fun v h => K (.pan v) h)
def micro_first.loops : Nat → LInfo
  | 4 => ⟨[15], [false], [1, 6, 7, 8, 14], [], []⟩
  | _ => ⟨[], [], [], [], []⟩
def micro_first.L1 (c : Ctx) (J1 : AV → AV → List AObj → Prop) (K : AOut → List AObj → Prop) (lv : List AV) (h0 : List AObj) (n0 : Nat) (c1 : AV) (c6 : AV) (c7 : AV) (c8 : AV) (c14 : AV) : Prop :=
  ∃ I : Nat → List AV → List AObj → Prop, (∃ n, I n lv h0) ∧ ∀ n h, ∀ t15, I n [t15] h →
    runD (binD T_int .lss t15 c14) h fun t16 h =>
    condW t16
    (runD (indexAddrD T_sl_api_Micro h c1 t15) h fun t21 h =>
    runD (fieldAddrD T_api_Micro t21 0) h fun t22 h =>
    runD (fitD T_int (loadD h t22)) h fun t23 h =>
    runD (lookupD T_map_int_func_p_micro_doer_api_Micro h c8 t23) h fun t24 h =>
    runD (indexAddrD T_sl_api_Micro h c1 t15) h fun t28 h =>
    runD (fitD T_api_Micro (loadD h t28)) h fun t29 h =>
    callW false c t24 [c7, t29] h (fun t30 h =>
    runD (binD T_int .add t15 (.int .i64 1)) h fun t31 h =>
    (∃ m, m < n ∧ I m (AV.norms n0 h [t31]) (normH n0 h)) ∧ AV.norms n0 h [c1, c6, c7, c8, c14] = [c1, c6, c7, c8, c14])
    (fun v h => K (.pan v) h))
    (J1 c6 c7 h)
def micro_first.H (c : Ctx) (t0 : AV) (t1 : AV) (t2 : AV) (h : List AObj) (K : AOut → List AObj → Prop) : Prop :=
  boxW T_api_Mem t0 h fun t3 h =>
  allocW T_api_Mem h fun t6 h =>
  runD (fitD T_api_Mem (loadD h t3)) h fun t10 h =>
  runD (buildD T_micro_doer [(0, t10)]) h fun t11 h =>
  boxW T_micro_doer t11 h fun t12 h =>
  callW false c (.fn (.func 77) [] []) [] h (fun t13 h =>
  joinW (fun (J1 : AV → AV → List AObj → Prop) =>
  promV [false] [(.int .i64 0)] h fun lv h => micro_first.L1 c J1 K (AV.norms h.length h lv) (normH h.length h) h.length (AV.norm h.length h t1) (AV.norm h.length h t6) (AV.norm h.length h t12) (AV.norm h.length h t13) (AV.norm h.length h t2))
  (fun t6 t7 h => runD (nilCheckD t7) h fun t33 h =>
  runD (fieldAddrD T_micro_doer t33 0) h fun t34 h =>
  runD (fitD T_api_Mem (loadD h t34)) h fun t35 h =>
  runH (storeH T_api_Mem h t6 t35) h fun _ h =>
  loadRes (fitD T_api_Mem (loadD h t6)) fun r0 => K (.ret r0) h))
  (fun v h => K (.pan v) h)
def micro_Check_1.loops : Nat → LInfo
  | _ => ⟨[], [], [], [], []⟩
def micro_Check_1.H (c : Ctx) (t0 : AV) (t1 : AV) (h : List AObj) (K : AOut → List AObj → Prop) : Prop :=
  boxW T_api_Micro t0 h fun t2 h =>
  runD (fitD T_api_Micro (loadD h t2)) h fun t4 h =>
  runD (fitD T_int (loadD h t1)) h fun t5 h =>
  callW false c (.fn (.func 60) [] []) [t4, t5] h (fun t6 h =>
  runD (unD .not t6) h fun t7 h =>
  K (.ret t7) h)
  (fun v h => K (.pan v) h)
def micro_may.loops : Nat → LInfo
  | 2 => ⟨[], [], [], [(4, none), (7, some [14, 21]), (2, none), (8, some [23, 31])], []⟩
  | _ => ⟨[], [], [], [], []⟩
def micro_may.H (c : Ctx) (t0 : AV) (t1 : AV) (h : List AObj) (K : AOut → List AObj → Prop) : Prop :=
  boxW T_api_Micro t0 h fun t2 h =>
  runD (makeMapD T_map_int_int h.length) h fun t6 h =>
  runH (mapSetH T_map_int_int h t6 (.int .i64 1) t1) h fun _ h =>
  runD (binD T_int .quo t1 (.int .i64 8)) h fun t9 h =>
  runH (mapSetH T_map_int_int h t6 (.int .i64 2) t9) h fun _ h =>
  runD (fieldAddrD T_api_Micro t2 1) h fun t11 h =>
  runD (fitD T_int (loadD h t11)) h fun t12 h =>
  runD (binD T_int .geq t12 (.int .i64 0)) h fun t13 h =>
  joinW (fun (J1 : AV → AV → List AObj → Prop) =>
  guardW t13 true
  (runD (fieldAddrD T_api_Micro t2 1) h fun t15 h =>
    runD (fitD T_int (loadD h t15)) h fun t16 h =>
    runD (fieldAddrD T_api_Micro t2 0) h fun t18 h =>
    runD (fitD T_int (loadD h t18)) h fun t19 h =>
    runD (lookupD T_map_int_int h t6 t19) h fun t20 h =>
    runD (binD T_int .lss t16 t20) h fun t21 h =>
    J1 (.bool true) t21 h)
  (J1 (.bool false) .und h))
  (fun t14 t21 h => runD (pickD t14 t21 (.bool false)) h fun t22 h =>
  joinW (fun (J2 : AV → AV → List AObj → Prop) =>
  guardW t22 true
  (runD (fieldAddrD T_api_Micro t2 0) h fun t24 h =>
    runD (fitD T_int (loadD h t24)) h fun t25 h =>
    runD (binD T_int .eql t25 (.int .i64 1)) h fun t26 h =>
    joinW (fun (J3 : AV → AV → List AObj → Prop) =>
    guardW t26 false
    (runD (fieldAddrD T_api_Micro t2 2) h fun t28 h =>
      runD (fitD T_int (loadD h t28)) h fun t29 h =>
      runD (binD T_int .eql t29 (.int .i64 0)) h fun t30 h =>
      J3 (.bool false) t30 h)
    (J3 (.bool true) .und h))
    (fun t27 t30 h => runD (pickD t27 (.bool true) t30) h fun t31 h =>
    J2 (.bool true) t31 h))
  (J2 (.bool false) .und h))
  (fun t23 t31 h => runD (pickD t23 t31 (.bool false)) h fun t32 h =>
  K (.ret t32) h))
def micro_kinds.loops : Nat → LInfo
  | _ => ⟨[], [], [], [], []⟩
def micro_kinds.H (c : Ctx) (h : List AObj) (K : AOut → List AObj → Prop) : Prop :=
  runD (makeMapD T_map_int_func_p_micro_doer_api_Micro h.length) h fun t1 h =>
  runH (mapSetH T_map_int_func_p_micro_doer_api_Micro h t1 (.int .i64 1) (.fn (.func 88) [] [])) h fun _ h =>
  runH (mapSetH T_map_int_func_p_micro_doer_api_Micro h t1 (.int .i64 2) (.fn (.func 89) [] [])) h fun _ h =>
  K (.ret t1) h
def micro_doer_store.loops : Nat → LInfo
  | _ => ⟨[], [], [], [], []⟩
def micro_doer_store.H (c : Ctx) (t0 : AV) (t1 : AV) (h : List AObj) (K : AOut → List AObj → Prop) : Prop :=
  boxW T_api_Micro t1 h fun t3 h =>
  runD (nilCheckD t0) h fun t7 h =>
  runD (fieldAddrD T_micro_doer t7 0) h fun t8 h =>
  runD (fitD T_api_Mem (loadD h t8)) h fun t9 h =>
  runD (fieldAddrD T_api_Micro t3 1) h fun t10 h =>
  runD (fitD T_int (loadD h t10)) h fun t11 h =>
  runD (fieldAddrD T_api_Micro t3 2) h fun t12 h =>
  runD (fitD T_int (loadD h t12)) h fun t13 h =>
  callW false c.noS (.fn (.func 93) [] []) [t9, t11, t13] h (fun t14 h =>
  runD (extractD t14 0) h fun t15 h =>
  runD (extractD t14 1) h fun t16 h =>
  runD (nilCheckD t0) h fun t17 h =>
  runD (fieldAddrD T_micro_doer t17 0) h fun t18 h =>
  runH (storeH T_api_Mem h t18 t15) h fun _ h =>
  K (.ret (.tup [])) h)
  (fun _ _ => False)
def micro_doer_persist.loops : Nat → LInfo
  | _ => ⟨[], [], [], [], []⟩
def micro_doer_persist.H (c : Ctx) (t0 : AV) (t1 : AV) (h : List AObj) (K : AOut → List AObj → Prop) : Prop :=
  boxW T_api_Micro t1 h fun t3 h =>
  runD (nilCheckD t0) h fun t7 h =>
  runD (fieldAddrD T_micro_doer t7 0) h fun t8 h =>
  runD (fitD T_api_Mem (loadD h t8)) h fun t9 h =>
  runD (fieldAddrD T_api_Micro t3 1) h fun t10 h =>
  runD (fitD T_int (loadD h t10)) h fun t11 h =>
  callW false c.noS (.fn (.func 94) [] []) [t9, t11] h (fun t12 h =>
  runD (extractD t12 0) h fun t13 h =>
  runD (extractD t12 1) h fun t14 h =>
  runD (nilCheckD t0) h fun t15 h =>
  runD (fieldAddrD T_micro_doer t15 0) h fun t16 h =>
  runH (storeH T_api_Mem h t16 t13) h fun _ h =>
  runD (nilCheckD t0) h fun t20 h =>
  runD (fieldAddrD T_micro_doer t20 0) h fun t21 h =>
  runD (fitD T_api_Mem (loadD h t21)) h fun t22 h =>
  callW false c (.fn (.func 95) [] []) [t22] h (fun t23 h =>
  runD (extractD t23 0) h fun t24 h =>
  runD (extractD t23 1) h fun t25 h =>
  runD (nilCheckD t0) h fun t26 h =>
  runD (fieldAddrD T_micro_doer t26 0) h fun t27 h =>
  runH (storeH T_api_Mem h t27 t24) h fun _ h =>
  K (.ret (.tup [])) h)
  (fun v h => K (.pan v) h))
  (fun _ _ => False)
theorem micro_Run.eq (F : List (FuncId × Contract)) (S : List (FuncId × Con)) (t0 t1 : AV) (h : List AObj) (K : AOut → List AObj → Prop) : funW (ctx F S micro_Run.loops) Try.f17 [t0, t1] h K = micro_Run.H (ctx F S micro_Run.loops) t0 t1 h K := by kernel_rfl
theorem micro_Crash.eq (F : List (FuncId × Contract)) (S : List (FuncId × Con)) (t0 t1 t2 t3 : AV) (h : List AObj) (K : AOut → List AObj → Prop) : funW (ctx F S micro_Crash.loops) Try.f20 [t0, t1, t2, t3] h K = micro_Crash.H (ctx F S micro_Crash.loops) t0 t1 t2 t3 h K := by kernel_rfl
theorem micro_Check.eq (F : List (FuncId × Contract)) (S : List (FuncId × Con)) (t0 t1 : AV) (h : List AObj) (K : AOut → List AObj → Prop) : funW (ctx F S micro_Check.loops) Try.f21 [t0, t1] h K = micro_Check.H (ctx F S micro_Check.loops) t0 t1 h K := by kernel_rfl
theorem micro_Do.eq (F : List (FuncId × Contract)) (S : List (FuncId × Con)) (t0 t1 : AV) (h : List AObj) (K : AOut → List AObj → Prop) : funW (ctx F S micro_Do.loops) Try.f51 [t0, t1] h K = micro_Do.H (ctx F S micro_Do.loops) t0 t1 h K := by kernel_rfl
theorem micro_sound.eq (F : List (FuncId × Contract)) (S : List (FuncId × Con)) (t0 t1 : AV) (h : List AObj) (K : AOut → List AObj → Prop) : funW (ctx F S micro_sound.loops) Try.f52 [t0, t1] h K = micro_sound.H (ctx F S micro_sound.loops) t0 t1 h K := by kernel_rfl
theorem micro_first.eq (F : List (FuncId × Contract)) (S : List (FuncId × Con)) (t0 t1 t2 : AV) (h : List AObj) (K : AOut → List AObj → Prop) : funW (ctx F S micro_first.loops) Try.f53 [t0, t1, t2] h K = micro_first.H (ctx F S micro_first.loops) t0 t1 t2 h K := by kernel_rfl
theorem micro_Check_1.eq (F : List (FuncId × Contract)) (S : List (FuncId × Con)) (t0 t1 : AV) (h : List AObj) (K : AOut → List AObj → Prop) : funW (ctx F S micro_Check_1.loops) Try.f59 [t0, t1] h K = micro_Check_1.H (ctx F S micro_Check_1.loops) t0 t1 h K := by kernel_rfl
theorem micro_may.eq (F : List (FuncId × Contract)) (S : List (FuncId × Con)) (t0 t1 : AV) (h : List AObj) (K : AOut → List AObj → Prop) : funW (ctx F S micro_may.loops) Try.f60 [t0, t1] h K = micro_may.H (ctx F S micro_may.loops) t0 t1 h K := by kernel_rfl
theorem micro_kinds.eq (F : List (FuncId × Contract)) (S : List (FuncId × Con)) (h : List AObj) (K : AOut → List AObj → Prop) : funW (ctx F S micro_kinds.loops) Try.f77 [] h K = micro_kinds.H (ctx F S micro_kinds.loops)  h K := by kernel_rfl
theorem micro_doer_store.eq (F : List (FuncId × Contract)) (S : List (FuncId × Con)) (t0 t1 : AV) (h : List AObj) (K : AOut → List AObj → Prop) : funW (ctx F S micro_doer_store.loops) Try.f88 [t0, t1] h K = micro_doer_store.H (ctx F S micro_doer_store.loops) t0 t1 h K := by kernel_rfl
theorem micro_doer_persist.eq (F : List (FuncId × Contract)) (S : List (FuncId × Con)) (t0 t1 : AV) (h : List AObj) (K : AOut → List AObj → Prop) : funW (ctx F S micro_doer_persist.loops) Try.f89 [t0, t1] h K = micro_doer_persist.H (ctx F S micro_doer_persist.loops) t0 t1 h K := by kernel_rfl
theorem micro_Run.at : Try.prog.funcs[17]? = some Try.f17 := by kernel_rfl
theorem micro_Run.nm : (Try.f17.name == "runtime.NumGoroutine") = false := by kernel_rfl
theorem micro_Run.bd : Try.f17.body.isNone = false := by kernel_rfl
theorem micro_Crash.at : Try.prog.funcs[20]? = some Try.f20 := by kernel_rfl
theorem micro_Crash.nm : (Try.f20.name == "runtime.NumGoroutine") = false := by kernel_rfl
theorem micro_Crash.bd : Try.f20.body.isNone = false := by kernel_rfl
theorem micro_Check.at : Try.prog.funcs[21]? = some Try.f21 := by kernel_rfl
theorem micro_Check.nm : (Try.f21.name == "runtime.NumGoroutine") = false := by kernel_rfl
theorem micro_Check.bd : Try.f21.body.isNone = false := by kernel_rfl
theorem micro_Do.at : Try.prog.funcs[51]? = some Try.f51 := by kernel_rfl
theorem micro_Do.nm : (Try.f51.name == "runtime.NumGoroutine") = false := by kernel_rfl
theorem micro_Do.bd : Try.f51.body.isNone = false := by kernel_rfl
theorem micro_sound.at : Try.prog.funcs[52]? = some Try.f52 := by kernel_rfl
theorem micro_sound.nm : (Try.f52.name == "runtime.NumGoroutine") = false := by kernel_rfl
theorem micro_sound.bd : Try.f52.body.isNone = false := by kernel_rfl
theorem micro_first.at : Try.prog.funcs[53]? = some Try.f53 := by kernel_rfl
theorem micro_first.nm : (Try.f53.name == "runtime.NumGoroutine") = false := by kernel_rfl
theorem micro_first.bd : Try.f53.body.isNone = false := by kernel_rfl
theorem micro_Check_1.at : Try.prog.funcs[59]? = some Try.f59 := by kernel_rfl
theorem micro_Check_1.nm : (Try.f59.name == "runtime.NumGoroutine") = false := by kernel_rfl
theorem micro_Check_1.bd : Try.f59.body.isNone = false := by kernel_rfl
theorem micro_may.at : Try.prog.funcs[60]? = some Try.f60 := by kernel_rfl
theorem micro_may.nm : (Try.f60.name == "runtime.NumGoroutine") = false := by kernel_rfl
theorem micro_may.bd : Try.f60.body.isNone = false := by kernel_rfl
theorem micro_kinds.at : Try.prog.funcs[77]? = some Try.f77 := by kernel_rfl
theorem micro_kinds.nm : (Try.f77.name == "runtime.NumGoroutine") = false := by kernel_rfl
theorem micro_kinds.bd : Try.f77.body.isNone = false := by kernel_rfl
theorem micro_doer_store.at : Try.prog.funcs[88]? = some Try.f88 := by kernel_rfl
theorem micro_doer_store.nm : (Try.f88.name == "runtime.NumGoroutine") = false := by kernel_rfl
theorem micro_doer_store.bd : Try.f88.body.isNone = false := by kernel_rfl
theorem micro_doer_persist.at : Try.prog.funcs[89]? = some Try.f89 := by kernel_rfl
theorem micro_doer_persist.nm : (Try.f89.name == "runtime.NumGoroutine") = false := by kernel_rfl
theorem micro_doer_persist.bd : Try.f89.body.isNone = false := by kernel_rfl
end Lam
namespace Lam
open Go Go.Proofs
set_option linter.unusedVariables false
set_option linter.unnecessarySimpa false
set_option linter.unusedSimpArgs false
def micro_may.C : Contract
  | [.agg [.int .i64 k, .int .i64 a, .int .i64 w], .int .i64 n] => some (false, pD True (.bool (mmay ⟨k, a, w⟩ n)))
  | _ => none
set_option maxRecDepth 20000 in
theorem micro_may.spec : FSpec Try.prog 60 micro_may.C := by
  refine FSpec.of (ctx_ok (F := []) (S := []) (by simp) (by simp) micro_may.loops) micro_may.at micro_may.nm micro_may.bd ?_
  intro vs b S v news e hS
  unfold micro_may.C at e
  split at e
  rotate_left
  · cases e
  cases e
  rw [micro_may.eq]
  unfold micro_may.H
  simp (maxSteps := 4000000) only [go_sem, Nat.reduceEqDiff, Nat.reduceLT, Nat.reduceAdd, Nat.reduceSub, Nat.reduceLeDiff, List.reduceReplicate, Int.reduceToNat]
  refine ⟨by decide, ?_⟩
  exact post_val rfl rfl
def micro_Check_1.K : Con := fun args h K => match args with
  | [a0, a1] => micro_Check_1.H (ctx [(60, micro_may.C)] [] micro_Check_1.loops) a0 a1 h K
  | _ => False
theorem micro_Check_1.spec : SSpec Try.prog 59 micro_Check_1.K := by
  refine SSpec.of (ctx_ok (F := [(60, micro_may.C)]) (S := []) (by simpa using micro_may.spec) (by simp) micro_Check_1.loops) micro_Check_1.at micro_Check_1.nm micro_Check_1.bd ?_
  intro args h K hC
  unfold micro_Check_1.K at hC
  split at hC
  · rw [micro_Check_1.eq]; exact hC
  · exact hC.elim
def slices_IndexFunc_sl_api_Micro_api_Micro.K : Con := fun args h K => match args with
  | [a0, a1] => slices_IndexFunc_sl_api_Micro_api_Micro.H (ctx [] [(59, micro_Check_1.K)] slices_IndexFunc_sl_api_Micro_api_Micro.loops) a0 a1 h K
  | _ => False
theorem slices_IndexFunc_sl_api_Micro_api_Micro.spec : SSpec Try.prog 80 slices_IndexFunc_sl_api_Micro_api_Micro.K := by
  refine SSpec.of (ctx_ok (F := []) (S := [(59, micro_Check_1.K)]) (by simp) (by simpa using micro_Check_1.spec) slices_IndexFunc_sl_api_Micro_api_Micro.loops) slices_IndexFunc_sl_api_Micro_api_Micro.at slices_IndexFunc_sl_api_Micro_api_Micro.nm slices_IndexFunc_sl_api_Micro_api_Micro.bd ?_
  intro args h K hC
  unfold slices_IndexFunc_sl_api_Micro_api_Micro.K at hC
  split at hC
  · rw [slices_IndexFunc_sl_api_Micro_api_Micro.eq]; exact hC
  · exact hC.elim
def slices_ContainsFunc_sl_api_Micro_api_Micro.K : Con := fun args h K => match args with
  | [a0, a1] => slices_ContainsFunc_sl_api_Micro_api_Micro.H (ctx [] [(80, slices_IndexFunc_sl_api_Micro_api_Micro.K)] slices_ContainsFunc_sl_api_Micro_api_Micro.loops) a0 a1 h K
  | _ => False
theorem slices_ContainsFunc_sl_api_Micro_api_Micro.spec : SSpec Try.prog 58 slices_ContainsFunc_sl_api_Micro_api_Micro.K := by
  refine SSpec.of (ctx_ok (F := []) (S := [(80, slices_IndexFunc_sl_api_Micro_api_Micro.K)]) (by simp) (by simpa using slices_IndexFunc_sl_api_Micro_api_Micro.spec) slices_ContainsFunc_sl_api_Micro_api_Micro.loops) slices_ContainsFunc_sl_api_Micro_api_Micro.at slices_ContainsFunc_sl_api_Micro_api_Micro.nm slices_ContainsFunc_sl_api_Micro_api_Micro.bd ?_
  intro args h K hC
  unfold slices_ContainsFunc_sl_api_Micro_api_Micro.K at hC
  split at hC
  · rw [slices_ContainsFunc_sl_api_Micro_api_Micro.eq]; exact hC
  · exact hC.elim

theorem micro_Check_1_vc (x : Mic) (n : Int) (h : List AObj) (K : AOut → List AObj → Prop) (id : Nat) (hid : h[id]? = some (.box (.int .i64 n)))
    (hK : K (.ret (.bool (!mmay x n))) (h ++ [.box (encMic x)])) : micro_Check_1.K [.agg [.int .i64 x.kind, .int .i64 x.at_, .int .i64 x.val], .ptr id []] h K := by
  have hlt : id < h.length := (List.getElem?_eq_some_iff.1 hid).1
  have hid' : ∀ r, (h ++ r)[id]? = some (.box (.int .i64 n)) := fun r => by rw [List.getElem?_append_left hlt]; exact hid
  have hlen : ∀ o r, (h ++ o :: r)[h.length]? = some o := fun o r => by simp
  unfold micro_Check_1.K
  simp only
  unfold micro_Check_1.H
  simp only [go_sem, Nat.reduceEqDiff, Nat.reduceLT, Nat.reduceAdd, Nat.reduceSub, Nat.reduceLeDiff, List.reduceReplicate, Int.reduceToNat, hid', hlen, micro_may.C]
  exact hK

theorem index_vc (l : List Mic) (n : Int) (K : AOut → List AObj → Prop) (x : Bool) (hr : roomy l.length) (h : List AObj) (hh : h = [.box (.int .i64 n)])
    (hK : ∀ r h', (r = -1 ∧ (∀ y ∈ l, mmay y n = true)) ∨ (0 ≤ r ∧ ∃ y ∈ l, mmay y n = false) → K (.ret (.int .i64 r)) h') :
    slices_IndexFunc_sl_api_Micro_api_Micro.K [.sl x (.mics l), .fn (.func 59) [] [.ptr 0 []]] h K := by
  unfold roomy at hr
  unfold slices_IndexFunc_sl_api_Micro_api_Micro.K
  simp only
  unfold slices_IndexFunc_sl_api_Micro_api_Micro.H
  subst hh
  simp only [go_sem, Nat.reduceEqDiff, Nat.reduceLT, Nat.reduceAdd, Nat.reduceSub, Nat.reduceLeDiff, List.reduceReplicate, Int.reduceToNat, joinW_eq]
  unfold slices_IndexFunc_sl_api_Micro_api_Micro.L1
  refine ⟨fun m lv h' => ∃ k : Nat, k + m = l.length ∧ lv = [.int .i64 k] ∧ h' = [.box (.int .i64 n)] ∧ ∀ y ∈ l.take k, mmay y n = true, ⟨l.length, 0, by omega, rfl, rfl, by simp⟩, ?_⟩
  rintro m h' t8 ⟨k, hk, hlv, rfl, hall⟩
  simp only [List.cons.injEq, and_true] at hlv
  subst hlv
  simp only [go_sem, Nat.reduceEqDiff, Nat.reduceLT, Nat.reduceAdd, Nat.reduceSub, Nat.reduceLeDiff, List.reduceReplicate, Int.reduceToNat]
  refine ⟨fun hlt => ⟨by omega, ?_⟩, fun hge => ?_⟩
  · have hkl : k < l.length := by omega
    apply micro_Check_1_vc _ n _ _ 0 rfl
    simp only [go_sem, Nat.reduceEqDiff, Nat.reduceLT, Nat.reduceAdd, Nat.reduceSub, Nat.reduceLeDiff, List.reduceReplicate, Int.reduceToNat]
    refine ⟨fun h => hK _ _ (.inr ⟨by omega, _, getD_mem l k _ hkl, by simpa using h⟩), fun h => ?_⟩
    refine ⟨m - 1, by omega, k + 1, by omega, by rw [w64 (by omega) (by omega)]; rfl, ?_⟩
    intro y hy
    rw [take_next l k ⟨0, 0, 0⟩ hkl] at hy
    rcases List.mem_append.1 hy with hy | hy
    · exact hall y hy
    · rw [List.mem_singleton.1 hy]; simpa using h
  · have : k = l.length := by omega
    subst this
    rw [List.take_length] at hall
    exact hK _ _ (.inl ⟨rfl, hall⟩)

theorem contains_vc (l : List Mic) (n : Int) (K : AOut → List AObj → Prop) (x : Bool) (hr : roomy l.length) (h : List AObj) (hh : h = [.box (.int .i64 n)])
    (hK : ∀ h', K (.ret (.bool (!l.all (mmay · n)))) h') :
    slices_ContainsFunc_sl_api_Micro_api_Micro.K [.sl x (.mics l), .fn (.func 59) [] [.ptr 0 []]] h K := by
  unfold slices_ContainsFunc_sl_api_Micro_api_Micro.K
  simp only
  unfold slices_ContainsFunc_sl_api_Micro_api_Micro.H
  subst hh
  simp only [go_sem, Nat.reduceEqDiff, Nat.reduceLT, Nat.reduceAdd, Nat.reduceSub, Nat.reduceLeDiff, List.reduceReplicate, Int.reduceToNat]
  apply index_vc l n _ x hr _ rfl
  intro r h' hcase
  simp only [go_sem, Nat.reduceEqDiff, Nat.reduceLT, Nat.reduceAdd, Nat.reduceSub, Nat.reduceLeDiff, List.reduceReplicate, Int.reduceToNat]
  have : decide (0 ≤ r) = !l.all (mmay · n) := by
    rcases hcase with ⟨rfl, h⟩ | ⟨h0, y, hy, h⟩
    · have : l.all (mmay · n) = true := List.all_eq_true.2 h
      rw [this]; rfl
    · have : l.all (mmay · n) = false := by
        rw [List.all_eq_false]; exact ⟨y, hy, by simp [h]⟩
      rw [this]; simpa using h0
  rw [this]; exact hK h'

def micro_Check.C : Contract
  | [.sl _ (.mics l), .int .i64 n] => some (false, pD (roomy l.length) (.bool (sizedB n && l.all (mmay · n))))
  | _ => none
set_option maxRecDepth 20000 in
theorem micro_Check.spec : FSpec Try.prog 21 micro_Check.C := by
  refine FSpec.of (ctx_ok (F := []) (S := [(58, slices_ContainsFunc_sl_api_Micro_api_Micro.K)]) (by simp) (by simpa using slices_ContainsFunc_sl_api_Micro_api_Micro.spec) micro_Check.loops) micro_Check.at micro_Check.nm micro_Check.bd ?_
  intro vs b S v news e hS
  unfold micro_Check.C at e
  split at e
  rotate_left
  · cases e
  cases e
  rw [micro_Check.eq]
  unfold micro_Check.H
  simp (maxSteps := 4000000) only [go_sem, Nat.reduceEqDiff, Nat.reduceLT, Nat.reduceAdd, Nat.reduceSub, Nat.reduceLeDiff, List.reduceReplicate, Int.reduceToNat]
  refine ⟨by simp, ?_⟩
  rw [joinW_eq]
  simp only [guardW_bool]
  refine ⟨fun hs => ?_, fun hs => ?_⟩
  · apply contains_vc _ _ _ _ hS _ rfl
    intro h'
    simp only [go_sem, Nat.reduceEqDiff, Nat.reduceLT, Nat.reduceAdd, Nat.reduceSub, Nat.reduceLeDiff, List.reduceReplicate, Int.reduceToNat, Bool.not_not]
    exact post_val (by rw [show sizedB _ = true from hs, Bool.true_and]; rfl) rfl
  · simp only [go_sem, Nat.reduceEqDiff, Nat.reduceLT, Nat.reduceAdd, Nat.reduceSub, Nat.reduceLeDiff, List.reduceReplicate, Int.reduceToNat]
    exact post_val (by rw [show sizedB _ = false from hs, Bool.false_and]; rfl) rfl


def micro_doer_store.K : Con := fun args h K => match args with
  | [a0, a1] => micro_doer_store.H (ctx [(93, pmem_Put.C)] [] micro_doer_store.loops) a0 a1 h K
  | _ => False
theorem micro_doer_store.spec : SSpec Try.prog 88 micro_doer_store.K := by
  refine SSpec.of (ctx_ok (F := [(93, pmem_Put.C)]) (S := []) (by simpa using pmem_Put.spec) (by simp) micro_doer_store.loops) micro_doer_store.at micro_doer_store.nm micro_doer_store.bd ?_
  intro args h K hC
  unfold micro_doer_store.K at hC
  split at hC
  · rw [micro_doer_store.eq]; exact hC
  · exact hC.elim
def micro_doer_persist.K : Con := fun args h K => match args with
  | [a0, a1] => micro_doer_persist.H (ctx [(94, pmem_Flush.C), (95, pmem_Fence.C)] [] micro_doer_persist.loops) a0 a1 h K
  | _ => False
theorem micro_doer_persist.spec : SSpec Try.prog 89 micro_doer_persist.K := by
  refine SSpec.of (ctx_ok (F := [(94, pmem_Flush.C), (95, pmem_Fence.C)]) (S := []) (by simpa using ⟨pmem_Flush.spec, pmem_Fence.spec⟩) (by simp) micro_doer_persist.loops) micro_doer_persist.at micro_doer_persist.nm micro_doer_persist.bd ?_
  intro args h K hC
  unfold micro_doer_persist.K at hC
  split at hC
  · rw [micro_doer_persist.eq]; exact hC
  · exact hC.elim
def micro_kinds.K : Con := fun args h K => match args with
  | [] => micro_kinds.H (ctx [] [] micro_kinds.loops)  h K
  | _ => False
theorem micro_kinds.spec : SSpec Try.prog 77 micro_kinds.K := by
  refine SSpec.of (ctx_ok (F := []) (S := []) (by simp) (by simp) micro_kinds.loops) micro_kinds.at micro_kinds.nm micro_kinds.bd ?_
  intro args h K hC
  unfold micro_kinds.K at hC
  split at hC
  · rw [micro_kinds.eq]; exact hC
  · exact hC.elim
def micro_first.C : Contract
  | [.agg [.sl false (.ints .i64 vol), .sl false (.ints .i64 per), .sl false (.pends pend)], .sl _ (.mics l), .int .i64 n] => some (false, pD (Mm.ok ⟨vol, per, pend⟩ ∧ (∀ x ∈ l, MayN x vol.length) ∧ pend.length + l.length ≤ 1000000 ∧ 0 ≤ n ∧ n ≤ (l.length : Int)) (runS ⟨vol, per, pend⟩ (l.take n.toNat)).V)
  | _ => none
set_option maxRecDepth 20000 in
theorem micro_first.spec : FSpec Try.prog 53 micro_first.C := by
  refine FSpec.of (ctx_ok (F := []) (S := [(77, micro_kinds.K), (88, micro_doer_store.K), (89, micro_doer_persist.K)]) (by simp) (by simpa using ⟨micro_kinds.spec, micro_doer_store.spec, micro_doer_persist.spec⟩) micro_first.loops) micro_first.at micro_first.nm micro_first.bd ?_
  intro vs b S v news e hS
  unfold micro_first.C at e
  split at e
  rotate_left
  · cases e
  cases e
  rw [micro_first.eq]
  unfold micro_first.H
  simp (maxSteps := 4000000) only [go_sem, Nat.reduceEqDiff, Nat.reduceLT, Nat.reduceAdd, Nat.reduceSub, Nat.reduceLeDiff, List.reduceReplicate, Int.reduceToNat, micro_kinds.K, micro_kinds.H]
  rename_i vol per pend _ l n
  obtain ⟨ok, hl, hsz, hn0, hn1⟩ := hS
  rw [joinW_eq]
  unfold micro_first.L1
  refine loop1 (σ := Nat) (fun k => .int .i64 k) (fun k => [.box (memV vol per pend), .box (memV [] [] []), .box (.agg [(runS ⟨vol, per, pend⟩ (l.take k)).V]), .map (.ifn fun j => if j = 2 then some 89 else if j = 1 then some 88 else none)]) (fun k => n.toNat - k) (fun k => k ≤ n.toNat) 0 rfl rfl (Nat.zero_le _) ?_
  intro I back k hk
  have okk := runS_ok (l.take k) ok fun x hx => hl x ((List.take_sublist _ _).subset hx)
  have lenk := runS_len (l.take k) ⟨vol, per, pend⟩
  have pendk := runS_pend_le (l.take k) ⟨vol, per, pend⟩
  rw [List.length_take] at pendk
  simp only [] at lenk pendk
  simp only [go_sem, Nat.reduceEqDiff, Nat.reduceLT, Nat.reduceAdd, Nat.reduceSub, Nat.reduceLeDiff, List.reduceReplicate, Int.reduceToNat]
  refine ⟨fun hlt => ?_, fun hge => ?_⟩
  · have hkl : k < l.length := by omega
    have hnx : runS ⟨vol, per, pend⟩ (l.take (k + 1)) = stepM (runS ⟨vol, per, pend⟩ (l.take k)) (l.getD k ⟨0, 0, 0⟩) := by
      rw [take_next l k ⟨0, 0, 0⟩ hkl, runS_append]; rfl
    have hx := hl _ (getD_mem l k ⟨0, 0, 0⟩ hkl)
    generalize l.getD k ⟨0, 0, 0⟩ = x at *
    generalize runS ⟨vol, per, pend⟩ (l.take k) = m at *
    have hsm : smallM m.vol m.per m.pend := OkM.small okk (by omega)
    refine ⟨by omega, ?_⟩
    rcases hx with ⟨hkd, h0, h1⟩ | ⟨hkd, h0, h1, _⟩
    · have hp : placeB m.vol m.per m.pend x.at_ = true := place_iff.2 ⟨⟨h0, by omega⟩, okk⟩
      have hst : stepM m x = store m x.at_ x.val := by unfold stepM; rw [if_pos hkd]
      have e : (if x.kind = 2 then some 89 else if x.kind = 1 then some 88 else none : Option Nat) = some 88 := by rw [if_neg (by omega), if_pos hkd]
      simp only [e, micro_doer_store.K, micro_doer_store.H, pmem_Put.C, putM_ok hp, go_sem, Nat.reduceEqDiff, Nat.reduceLT, Nat.reduceAdd, Nat.reduceSub, Nat.reduceLeDiff, List.reduceReplicate, Int.reduceToNat]
      refine ⟨by omega, ⟨hsm, by unfold roomy; omega⟩, back (k + 1) (by omega) (by rw [wnext (by omega)]) ?_ (by omega)⟩
      rw [hnx, hst]; rfl
    · have hp : placeB m.vol m.per m.pend (firstI m.vol x.at_) = true := (OkM.first okk h0 (by omega)).2
      have hst : stepM m x = persist m x.at_ := by unfold stepM; rw [if_neg (by omega)]
      have e : (if x.kind = 2 then some 89 else if x.kind = 1 then some 88 else none : Option Nat) = some 89 := by rw [if_pos hkd]
      have okf := okk.flush x.at_
      simp only [e, micro_doer_persist.K, micro_doer_persist.H, pmem_Flush.C, flushM_ok hp, fenceM_ok, check_iff.2 okf, pmem_Fence.C, go_sem, Nat.reduceEqDiff, Nat.reduceLT, Nat.reduceAdd, Nat.reduceSub, Nat.reduceLeDiff, List.reduceReplicate, Int.reduceToNat]
      refine ⟨by omega, hsm, OkM.small okf (by rw [flushP_len]; omega), back (k + 1) (by omega) (by rw [wnext (by omega)]) ?_ (by omega)⟩
      rw [hnx, hst]; rfl
  · have : k = n.toNat := by omega
    subst this
    refine post_val ?_ rfl
    simp only [go_sem, Nat.reduceEqDiff, Nat.reduceLT, Nat.reduceAdd, Nat.reduceSub, Nat.reduceLeDiff, List.reduceReplicate, Int.reduceToNat]

def soundB (m : Mm) (l : List Mic) : Bool := m.okB && stepsB l m.vol.length
def micro_sound.C : Contract
  | [.agg [.sl false (.ints .i64 vol), .sl false (.ints .i64 per), .sl false (.pends pend)], .sl _ (.mics l)] => some (false, pD (smallM vol per pend ∧ roomy l.length) (.bool (soundB ⟨vol, per, pend⟩ l)))
  | _ => none
set_option maxRecDepth 20000 in
theorem micro_sound.spec : FSpec Try.prog 52 micro_sound.C := by
  refine FSpec.of (ctx_ok (F := [(19, pmem_Check.C), (21, micro_Check.C)]) (S := []) (by simpa using ⟨pmem_Check.spec, micro_Check.spec⟩) (by simp) micro_sound.loops) micro_sound.at micro_sound.nm micro_sound.bd ?_
  intro vs b S v news e hS
  unfold micro_sound.C at e
  split at e
  rotate_left
  · cases e
  cases e
  rw [micro_sound.eq]
  unfold micro_sound.H
  simp (maxSteps := 4000000) only [go_sem, Nat.reduceEqDiff, Nat.reduceLT, Nat.reduceAdd, Nat.reduceSub, Nat.reduceLeDiff, List.reduceReplicate, Int.reduceToNat, pmem_Check.C, micro_Check.C]
  exact ⟨hS.1, fun _ => hS.2, post_val rfl rfl⟩
/-- steps that may be, on a memory that may be -/
theorem sound_iff {m : Mm} {l : List Mic} : soundB m l = true ↔ m.ok ∧ ∀ x ∈ l, MayN x m.vol.length := by
  unfold soundB stepsB
  rw [Bool.and_eq_true, Bool.and_eq_true, Mm.ok_iff, List.all_eq_true]
  constructor
  · rintro ⟨h1, _, h2⟩
    exact ⟨h1, fun x hx => (mmay_iff h1.sz).1 (h2 x hx)⟩
  · rintro ⟨h1, h2⟩
    have hmd := h1.md
    have hsz := h1.sz
    refine ⟨h1, ?_, fun x hx => (mmay_iff h1.sz).2 (h2 x hx)⟩
    unfold sizedB
    simp only [Bool.and_eq_true, decide_eq_true_eq]
    refine ⟨⟨by omega, by omega⟩, ?_⟩
    rw [Int.tmod_eq_emod_of_nonneg (by omega)]; omega
def runV (m : Mm) (l : List Mic) : AV := if soundB m l = true then .tup [(runS m l).V, .int .i64 0] else .tup [m.V, .int .i64 40]
theorem runV_ok {m : Mm} {l : List Mic} (h : soundB m l = true) : runV m l = .tup [(runS m l).V, .int .i64 0] := by unfold runV; simp only [h, if_true]
theorem runV_no {m : Mm} {l : List Mic} (h : soundB m l = false) : runV m l = .tup [m.V, .int .i64 40] := by unfold runV; rw [h]; rfl
theorem runV_ex (m : Mm) (l : List Mic) : ∃ (A : Mm) (e : Int), runV m l = .tup [A.V, .int .i64 e] ∧ A.vol.length = m.vol.length ∧ A.per.length = m.per.length ∧ A.pend.length ≤ m.pend.length + l.length := by
  cases h : soundB m l with
  | true => exact ⟨_, _, runV_ok h, runS_len _ _, runS_per _ _, runS_pend_le _ _⟩
  | false => exact ⟨_, _, runV_no h, rfl, rfl, Nat.le_add_right _ _⟩
def micro_Run.C : Contract
  | [.agg [.sl false (.ints .i64 vol), .sl false (.ints .i64 per), .sl false (.pends pend)], .sl _ (.mics l)] => some (false, pD (smallM vol per pend ∧ pend.length + l.length ≤ 1000000) (runV ⟨vol, per, pend⟩ l))
  | _ => none
set_option maxRecDepth 20000 in
theorem micro_Run.spec : FSpec Try.prog 17 micro_Run.C := by
  refine FSpec.of (ctx_ok (F := [(52, micro_sound.C), (53, micro_first.C)]) (S := []) (by simpa using ⟨micro_sound.spec, micro_first.spec⟩) (by simp) micro_Run.loops) micro_Run.at micro_Run.nm micro_Run.bd ?_
  intro vs b S v news e hS
  unfold micro_Run.C at e
  split at e
  rotate_left
  · cases e
  cases e
  rw [micro_Run.eq]
  unfold micro_Run.H
  simp (maxSteps := 4000000) only [go_sem, Nat.reduceEqDiff, Nat.reduceLT, Nat.reduceAdd, Nat.reduceSub, Nat.reduceLeDiff, List.reduceReplicate, Int.reduceToNat, micro_sound.C, micro_first.C]
  rename_i vol per pend _ l
  obtain ⟨hs, hz⟩ := hS
  refine ⟨⟨hs, by unfold roomy; omega⟩, fun h => ?_, fun h => ?_⟩
  · unfold runV; rw [h]; exact post_val rfl rfl
  · obtain ⟨ok, hl⟩ := sound_iff.1 h
    refine ⟨⟨ok, hl, hz, by omega, by omega⟩, ?_⟩
    unfold runV; simp only [h, if_true]
    refine post_val ?_ rfl
    simp only [go_sem, Nat.reduceEqDiff, Nat.reduceLT, Nat.reduceAdd, Nat.reduceSub, Nat.reduceLeDiff, List.reduceReplicate, Int.reduceToNat, Int.toNat_natCast, List.take_length]
def micro_Do.C : Contract
  | [.agg [.sl false (.ints .i64 vol), .sl false (.ints .i64 per), .sl false (.pends pend)], .agg [.int .i64 a, .int .i64 b, .int .i64 c]] => some (false, pD (smallM vol per pend ∧ pend.length + 1 ≤ 1000000) (runV ⟨vol, per, pend⟩ [⟨a, b, c⟩]))
  | _ => none
set_option maxRecDepth 20000 in
theorem micro_Do.spec : FSpec Try.prog 51 micro_Do.C := by
  refine FSpec.of (ctx_ok (F := [(17, micro_Run.C)]) (S := []) (by simpa using micro_Run.spec) (by simp) micro_Do.loops) micro_Do.at micro_Do.nm micro_Do.bd ?_
  intro vs b S v news e hS
  unfold micro_Do.C at e
  split at e
  rotate_left
  · cases e
  cases e
  rw [micro_Do.eq]
  unfold micro_Do.H
  simp (maxSteps := 4000000) only [go_sem, Nat.reduceEqDiff, Nat.reduceLT, Nat.reduceAdd, Nat.reduceSub, Nat.reduceLeDiff, List.reduceReplicate, Int.reduceToNat, micro_Run.C]
  rename_i vol per pend a b c
  unfold runV
  cases h : soundB ⟨vol, per, pend⟩ [⟨a, b, c⟩]
  · simp only [joinW_eq, guard_tt, guard_tf, guard_ft, guard_ff, Int.reduceEq, Int.reduceLT, Int.reduceLE, decide_false, decide_true, Bool.not_false, Bool.not_true, Bool.not_not, not_true_eq_false, not_false_eq_true, true_implies, false_implies, implies_true, and_true, true_and, reduceCtorEq, Bool.and_self, Bool.or_self, Bool.and_true, Bool.true_and, Bool.false_eq_true, if_true, if_false, go_sem, Nat.reduceEqDiff, Nat.reduceLT, Nat.reduceAdd, Nat.reduceSub, Nat.reduceLeDiff, List.reduceReplicate, Int.reduceToNat]
    exact ⟨⟨hS.1, by omega⟩, post_val rfl rfl⟩
  · simp only [joinW_eq, guard_tt, guard_tf, guard_ft, guard_ff, Int.reduceEq, Int.reduceLT, Int.reduceLE, decide_false, decide_true, Bool.not_false, Bool.not_true, Bool.not_not, not_true_eq_false, not_false_eq_true, true_implies, false_implies, implies_true, and_true, true_and, reduceCtorEq, Bool.and_self, Bool.or_self, Bool.and_true, Bool.true_and, Bool.false_eq_true, if_true, if_false, go_sem, Nat.reduceEqDiff, Nat.reduceLT, Nat.reduceAdd, Nat.reduceSub, Nat.reduceLeDiff, List.reduceReplicate, Int.reduceToNat]
    exact ⟨⟨hS.1, by omega⟩, post_val rfl rfl⟩
def cutI (n : Int) (len : Nat) : Int := if (if (len : Int) < n then (len : Int) else n) > 0 then (if (len : Int) < n then (len : Int) else n) else 0
theorem cutI_range (n : Int) (len : Nat) : 0 ≤ cutI n len ∧ cutI n len ≤ (len : Int) := by unfold cutI; split <;> (try split) <;> omega
theorem cutI_nat {n len : Nat} (h : n ≤ len) : (cutI n len).toNat = n := by unfold cutI; split <;> (try split) <;> omega
def mcrashV (m : Mm) (l : List Mic) (n : Int) (keep : List Int) : AV := if soundB m l = true then .tup [.sl false (.ints .i64 (crashW keep (runS m (l.take (cutI n l.length).toNat)).per (runS m (l.take (cutI n l.length).toNat)).pend)), .int .i64 0] else .tup [.sl false (.ints .i64 []), .int .i64 40]
theorem mcrash_ok {m : Mm} {l : List Mic} {n : Int} {keep : List Int} (h : soundB m l = true) : mcrashV m l n keep = .tup [.sl false (.ints .i64 (crashW keep (runS m (l.take (cutI n l.length).toNat)).per (runS m (l.take (cutI n l.length).toNat)).pend)), .int .i64 0] := by unfold mcrashV; simp only [h, if_true]
theorem mcrash_no {m : Mm} {l : List Mic} {n : Int} {keep : List Int} (h : soundB m l = false) : mcrashV m l n keep = .tup [.sl false (.ints .i64 []), .int .i64 40] := by unfold mcrashV; rw [h]; rfl
theorem mcrash_ex (m : Mm) (l : List Mic) (n : Int) (keep : List Int) : ∃ (w : List Int) (e : Int), mcrashV m l n keep = .tup [.sl false (.ints .i64 w), .int .i64 e] ∧ w.length ≤ m.per.length := by
  cases h : soundB m l with
  | true => exact ⟨_, _, mcrash_ok h, by rw [crashW_len, runS_per]; exact Nat.le_refl _⟩
  | false => exact ⟨_, _, mcrash_no h, Nat.zero_le _⟩
def micro_Crash.C : Contract
  | [.agg [.sl false (.ints .i64 vol), .sl false (.ints .i64 per), .sl false (.pends pend)], .sl _ (.mics l), .int .i64 n, .sl _ (.ints .i64 keep)] => some (false, pD (smallM vol per pend ∧ pend.length + l.length ≤ 1000000 ∧ roomy keep.length ∧ i64s keep) (mcrashV ⟨vol, per, pend⟩ l n keep))
  | _ => none
set_option maxRecDepth 20000 in
theorem micro_Crash.spec : FSpec Try.prog 20 micro_Crash.C := by
  refine FSpec.of (ctx_ok (F := [(52, micro_sound.C), (53, micro_first.C), (57, pmem_Crash.C)]) (S := []) (by simpa using ⟨micro_sound.spec, micro_first.spec, pmem_Crash.spec⟩) (by simp) micro_Crash.loops) micro_Crash.at micro_Crash.nm micro_Crash.bd ?_
  intro vs b S v news e hS
  unfold micro_Crash.C at e
  split at e
  rotate_left
  · cases e
  cases e
  rw [micro_Crash.eq]
  unfold micro_Crash.H
  simp (maxSteps := 4000000) only [go_sem, Nat.reduceEqDiff, Nat.reduceLT, Nat.reduceAdd, Nat.reduceSub, Nat.reduceLeDiff, List.reduceReplicate, Int.reduceToNat, micro_sound.C, micro_first.C, pmem_Crash.C]
  rename_i vol per pend _ l n _ keep
  obtain ⟨hs, hz, hk1, hk2⟩ := hS
  have hfold : (if (if (l.length : Int) < n then (l.length : Int) else n) > 0 then (if (l.length : Int) < n then (l.length : Int) else n) else 0) = cutI n l.length := rfl
  rw [hfold]
  have hc := cutI_range n l.length
  refine ⟨⟨hs, by unfold roomy; omega⟩, fun h => ?_, fun h => ?_⟩
  · unfold mcrashV; rw [h]; exact post_val rfl rfl
  · obtain ⟨ok, hl⟩ := sound_iff.1 h
    unfold mcrashV; simp only [h, if_true]
    have okk := runS_ok (l.take (cutI n l.length).toNat) ok fun x hx => hl x ((List.take_sublist _ _).subset hx)
    have pendk := runS_pend_le (l.take (cutI n l.length).toNat) ⟨vol, per, pend⟩
    rw [List.length_take] at pendk
    simp only [] at pendk
    generalize runS ⟨vol, per, pend⟩ (l.take (cutI n l.length).toNat) = m at *
    have hsm : smallM m.vol m.per m.pend := OkM.small okk (by omega)
    have hck : checkB m.vol m.per m.pend = true := check_iff.2 okk
    simp only [hck, crashM_ok, go_sem, Nat.reduceEqDiff, Nat.reduceLT, Nat.reduceAdd, Nat.reduceSub, Nat.reduceLeDiff, List.reduceReplicate, Int.reduceToNat]
    exact ⟨⟨ok, hl, hz, hc⟩, ⟨hsm, hk1, hk2⟩, post_val rfl rfl⟩
end Lam
namespace Lam
open Go Go.Proofs
set_option linter.unusedVariables false
def lamplighterlaw07_RecTurns.loops : Nat → LInfo
  | 2 => ⟨[], [], [], [(5, none), (4, some [37, 41]), (2, none), (4, some [43, 47]), (2, none), (4, some [49, 53]), (2, none), (3, some [55, 58]), (2, none), (4, some [60, 64]), (2, none), (6, some [66, 72]), (2, none), (6, some [74, 80])], []⟩
  | 6 => ⟨[], [], [], [(3, none), (2, some [95, 97])], []⟩
  | 16 => ⟨[], [], [], [(2, none), (2, some [164, 166]), (2, none), (2, some [168, 170]), (2, none), (2, some [172, 174]), (2, none), (2, some [176, 178]), (2, none), (2, some [180, 182]), (2, none), (3, some [184, 187]), (2, none), (3, some [189, 192]), (2, none), (25, some [194, 219])], []⟩
  | _ => ⟨[], [], [], [], []⟩
def lamplighterlaw07_RecTurns.H (c : Ctx) (t0 : AV) (t1 : AV) (t2 : AV) (t3 : AV) (t4 : AV) (h : List AObj) (K : AOut → List AObj → Prop) : Prop :=
  boxW T_api_Rec t1 h fun t6 h =>
  boxW T_api_Rec t2 h fun t7 h =>
  callW false c (.fn (.func 46) [] []) [] h (fun t32 h =>
  runD (fieldAddrD T_api_Rec t6 1) h fun t33 h =>
  runD (fitD T_string (loadD h t33)) h fun t34 h =>
  runD (lenD T_string h t34) h fun t35 h =>
  runD (binD T_int .gtr t35 (.int .i64 100)) h fun t36 h =>
  joinW (fun (J1 : AV → AV → List AObj → Prop) =>
  guardW t36 false
  (runD (fieldAddrD T_api_Rec t6 2) h fun t38 h =>
    runD (fitD T_string (loadD h t38)) h fun t39 h =>
    runD (lenD T_string h t39) h fun t40 h =>
    runD (binD T_int .gtr t40 (.int .i64 100)) h fun t41 h =>
    J1 (.bool false) t41 h)
  (J1 (.bool true) .und h))
  (fun t37 t41 h => runD (pickD t37 (.bool true) t41) h fun t42 h =>
  joinW (fun (J2 : AV → AV → List AObj → Prop) =>
  guardW t42 false
  (runD (fieldAddrD T_api_Rec t7 1) h fun t44 h =>
    runD (fitD T_string (loadD h t44)) h fun t45 h =>
    runD (lenD T_string h t45) h fun t46 h =>
    runD (binD T_int .gtr t46 (.int .i64 100)) h fun t47 h =>
    J2 (.bool false) t47 h)
  (J2 (.bool true) .und h))
  (fun t43 t47 h => runD (pickD t43 (.bool true) t47) h fun t48 h =>
  joinW (fun (J3 : AV → AV → List AObj → Prop) =>
  guardW t48 false
  (runD (fieldAddrD T_api_Rec t7 2) h fun t50 h =>
    runD (fitD T_string (loadD h t50)) h fun t51 h =>
    runD (lenD T_string h t51) h fun t52 h =>
    runD (binD T_int .gtr t52 (.int .i64 100)) h fun t53 h =>
    J3 (.bool false) t53 h)
  (J3 (.bool true) .und h))
  (fun t49 t53 h => runD (pickD t49 (.bool true) t53) h fun t54 h =>
  joinW (fun (J4 : AV → AV → List AObj → Prop) =>
  guardW t54 false
  (runD (lenD T_sl_int h t0) h fun t57 h =>
    runD (binD T_int .gtr t57 (.int .i64 300)) h fun t58 h =>
    J4 (.bool false) t58 h)
  (J4 (.bool true) .und h))
  (fun t55 t58 h => runD (pickD t55 (.bool true) t58) h fun t59 h =>
  joinW (fun (J5 : AV → AV → List AObj → Prop) =>
  guardW t59 false
  (runD (lenD T_sl_int h t0) h fun t62 h =>
    runD (binD T_int .rem t62 (.int .i64 16)) h fun t63 h =>
    runD (binD T_int .neq t63 (.int .i64 0)) h fun t64 h =>
    J5 (.bool false) t64 h)
  (J5 (.bool true) .und h))
  (fun t60 t64 h => runD (pickD t60 (.bool true) t64) h fun t65 h =>
  joinW (fun (J6 : AV → AV → List AObj → Prop) =>
  guardW t65 false
  (runD (convD h T_uint8 T_int t3) h fun t68 h =>
    runD (lenD T_sl_int h t0) h fun t70 h =>
    runD (binD T_int .quo t70 (.int .i64 16)) h fun t71 h =>
    runD (binD T_int .geq t68 t71) h fun t72 h =>
    J6 (.bool false) t72 h)
  (J6 (.bool true) .und h))
  (fun t66 t72 h => runD (pickD t66 (.bool true) t72) h fun t73 h =>
  joinW (fun (J7 : AV → AV → List AObj → Prop) =>
  guardW t73 false
  (runD (convD h T_uint8 T_int t4) h fun t76 h =>
    runD (lenD T_sl_int h t0) h fun t78 h =>
    runD (binD T_int .quo t78 (.int .i64 16)) h fun t79 h =>
    runD (binD T_int .geq t76 t79) h fun t80 h =>
    J7 (.bool false) t80 h)
  (J7 (.bool true) .und h))
  (fun t74 t80 h => runD (pickD t74 (.bool true) t80) h fun t81 h =>
  condW t81
  (K (.ret t32) h)
  (runD (fitD T_api_Rec (loadD h t6)) h fun t84 h =>
  callW false c (.fn (.func 47) [] []) [t84] h (fun t85 h =>
  runD (extractD t85 0) h fun t86 h =>
  runD (extractD t85 1) h fun t87 h =>
  runD (fitD T_api_Rec (loadD h t7)) h fun t89 h =>
  callW false c (.fn (.func 47) [] []) [t89] h (fun t90 h =>
  runD (extractD t90 0) h fun t91 h =>
  runD (extractD t90 1) h fun t92 h =>
  runD (binD T_api_Errno .neq t87 (.int .i64 0)) h fun t94 h =>
  joinW (fun (J8 : AV → AV → List AObj → Prop) =>
  guardW t94 false
  (runD (binD T_api_Errno .neq t92 (.int .i64 0)) h fun t97 h =>
    J8 (.bool false) t97 h)
  (J8 (.bool true) .und h))
  (fun t95 t97 h => runD (pickD t95 (.bool true) t97) h fun t98 h =>
  condW t98
  (K (.ret t32) h)
  (runD (convD h T_uint8 T_int t3) h fun t102 h =>
  callW false c (.fn (.func 48) [] []) [t102, t86] h (fun t104 h =>
  runD (extractD t104 0) h fun t105 h =>
  runD (extractD t104 1) h fun t106 h =>
  runD (convD h T_uint8 T_int t4) h fun t109 h =>
  callW false c (.fn (.func 48) [] []) [t109, t91] h (fun t111 h =>
  runD (extractD t111 0) h fun t112 h =>
  runD (extractD t111 1) h fun t113 h =>
  callW false c (.fn (.func 27) [] []) [t0] h (fun t116 h =>
  runD (extractD t116 0) h fun t117 h =>
  runD (extractD t116 1) h fun t118 h =>
  allocW T_api_Mem h fun t20 h =>
  runH (storeH T_api_Mem h t20 t117) h fun _ h =>
  runD (fitD T_api_Mem (loadD h t20)) h fun t120 h =>
  runD (buildSliceD T_sl_api_Micro 0 [] h.length) h fun t121 h =>
  runDM (appendD T_sl_api_Micro h t121 t105 h.length) (appendH T_sl_api_Micro h t121 t105) h fun t123 h =>
  runDM (appendD T_sl_api_Micro h t123 t112 h.length) (appendH T_sl_api_Micro h t123 t112) h fun t125 h =>
  callW true c.noS (.fn (.func 17) [] []) [t120, t125] h (fun t126 h =>
  runD (extractD t126 0) h fun t127 h =>
  runD (extractD t126 1) h fun t128 h =>
  allocW T_api_Mem h fun t22 h =>
  runH (storeH T_api_Mem h t22 t127) h fun _ h =>
  sepB t121 [t20] = true ∧ sepB t123 [t20] = true ∧ runD (fitD T_api_Mem (loadD h t20)) h fun t130 h =>
  runD (buildSliceD T_sl_api_Micro 0 [] h.length) h fun t131 h =>
  runDM (appendD T_sl_api_Micro h t131 t112 h.length) (appendH T_sl_api_Micro h t131 t112) h fun t133 h =>
  runDM (appendD T_sl_api_Micro h t133 t105 h.length) (appendH T_sl_api_Micro h t133 t105) h fun t135 h =>
  callW true c.noS (.fn (.func 17) [] []) [t130, t135] h (fun t136 h =>
  runD (extractD t136 0) h fun t137 h =>
  runD (extractD t136 1) h fun t138 h =>
  allocW T_api_Mem h fun t24 h =>
  runH (storeH T_api_Mem h t24 t137) h fun _ h =>
  sepB t131 [t20] = true ∧ sepB t133 [t20] = true ∧ runD (fieldAddrD T_api_Mem t22 1) h fun t140 h =>
  runD (fitD T_sl_int (loadD h t140)) h fun t141 h =>
  runD (convD h T_uint8 T_int t4) h fun t143 h =>
  callW false c (.fn (.func 50) [] []) [t141, t143] h (fun t144 h =>
  runD (extractD t144 0) h fun t145 h =>
  runD (extractD t144 1) h fun t146 h =>
  allocW T_api_Rec h fun t26 h =>
  runH (storeH T_api_Rec h t26 t145) h fun _ h =>
  runD (fieldAddrD T_api_Mem t24 1) h fun t148 h =>
  runD (fitD T_sl_int (loadD h t148)) h fun t149 h =>
  runD (convD h T_uint8 T_int t3) h fun t151 h =>
  callW false c (.fn (.func 50) [] []) [t149, t151] h (fun t152 h =>
  runD (extractD t152 0) h fun t153 h =>
  runD (extractD t152 1) h fun t154 h =>
  allocW T_api_Rec h fun t28 h =>
  runH (storeH T_api_Rec h t28 t153) h fun _ h =>
  runD (fieldAddrD T_api_Mem t22 1) h fun t156 h =>
  runD (fitD T_sl_int (loadD h t156)) h fun t157 h =>
  runD (convD h T_uint8 T_int t3) h fun t159 h =>
  callW false c (.fn (.func 50) [] []) [t157, t159] h (fun t160 h =>
  runD (extractD t160 0) h fun t161 h =>
  runD (extractD t160 1) h fun t162 h =>
  allocW T_api_Rec h fun t30 h =>
  runH (storeH T_api_Rec h t30 t161) h fun _ h =>
  joinW (fun (J9 : AV → AV → List AObj → Prop) =>
  guardW t32 true
  (runD (binD T_api_Errno .eql t128 (.int .i64 0)) h fun t166 h =>
    J9 (.bool true) t166 h)
  (J9 (.bool false) .und h))
  (fun t164 t166 h => runD (pickD t164 t166 (.bool false)) h fun t167 h =>
  joinW (fun (J10 : AV → AV → List AObj → Prop) =>
  guardW t167 true
  (runD (binD T_api_Errno .eql t138 (.int .i64 0)) h fun t170 h =>
    J10 (.bool true) t170 h)
  (J10 (.bool false) .und h))
  (fun t168 t170 h => runD (pickD t168 t170 (.bool false)) h fun t171 h =>
  joinW (fun (J11 : AV → AV → List AObj → Prop) =>
  guardW t171 true
  (runD (binD T_api_Errno .eql t146 (.int .i64 0)) h fun t174 h =>
    J11 (.bool true) t174 h)
  (J11 (.bool false) .und h))
  (fun t172 t174 h => runD (pickD t172 t174 (.bool false)) h fun t175 h =>
  joinW (fun (J12 : AV → AV → List AObj → Prop) =>
  guardW t175 true
  (runD (binD T_api_Errno .eql t154 (.int .i64 0)) h fun t178 h =>
    J12 (.bool true) t178 h)
  (J12 (.bool false) .und h))
  (fun t176 t178 h => runD (pickD t176 t178 (.bool false)) h fun t179 h =>
  joinW (fun (J13 : AV → AV → List AObj → Prop) =>
  guardW t179 true
  (runD (binD T_api_Errno .eql t162 (.int .i64 0)) h fun t182 h =>
    J13 (.bool true) t182 h)
  (J13 (.bool false) .und h))
  (fun t180 t182 h => runD (pickD t180 t182 (.bool false)) h fun t183 h =>
  joinW (fun (J14 : AV → AV → List AObj → Prop) =>
  guardW t183 true
  (runD (fitD T_api_Rec (loadD h t26)) h fun t185 h =>
    runD (fitD T_api_Rec (loadD h t7)) h fun t186 h =>
    runD (binD T_api_Rec .eql t185 t186) h fun t187 h =>
    J14 (.bool true) t187 h)
  (J14 (.bool false) .und h))
  (fun t184 t187 h => runD (pickD t184 t187 (.bool false)) h fun t188 h =>
  joinW (fun (J15 : AV → AV → List AObj → Prop) =>
  guardW t188 true
  (runD (fitD T_api_Rec (loadD h t28)) h fun t190 h =>
    runD (fitD T_api_Rec (loadD h t6)) h fun t191 h =>
    runD (binD T_api_Rec .eql t190 t191) h fun t192 h =>
    J15 (.bool true) t192 h)
  (J15 (.bool false) .und h))
  (fun t189 t192 h => runD (pickD t189 t192 (.bool false)) h fun t193 h =>
  joinW (fun (J16 : AV → AV → List AObj → Prop) =>
  guardW t193 true
  (runD (binD T_uint8 .eql t3 t4) h fun t197 h =>
    joinW (fun (J17 : AV → AV → List AObj → Prop) =>
    guardW t197 true
    (runD (fitD T_api_Rec (loadD h t30)) h fun t199 h =>
      runD (fitD T_api_Rec (loadD h t7)) h fun t200 h =>
      runD (binD T_api_Rec .eql t199 t200) h fun t201 h =>
      J17 (.bool true) t201 h)
    (J17 (.bool false) .und h))
    (fun t198 t201 h => runD (pickD t198 t201 (.bool false)) h fun t202 h =>
    joinW (fun (J18 : AV → AV → List AObj → Prop) =>
    guardW t202 false
    (runD (binD T_uint8 .neq t3 t4) h fun t206 h =>
      joinW (fun (J19 : AV → AV → List AObj → Prop) =>
      guardW t206 true
      (runD (fitD T_api_Rec (loadD h t30)) h fun t208 h =>
        runD (fitD T_api_Rec (loadD h t6)) h fun t209 h =>
        runD (binD T_api_Rec .eql t208 t209) h fun t210 h =>
        J19 (.bool true) t210 h)
      (J19 (.bool false) .und h))
      (fun t207 t210 h => runD (pickD t207 t210 (.bool false)) h fun t211 h =>
      joinW (fun (J20 : AV → AV → List AObj → Prop) =>
      guardW t211 true
      (runD (fieldAddrD T_api_Mem t22 1) h fun t213 h =>
        runD (fitD T_sl_int (loadD h t213)) h fun t214 h =>
        runD (fieldAddrD T_api_Mem t24 1) h fun t215 h =>
        runD (fitD T_sl_int (loadD h t215)) h fun t216 h =>
        callW false c (.fn (.func 22) [] []) [t214, t216] h (fun t217 h =>
        J20 (.bool true) t217 h)
        (fun v h => K (.pan v) h))
      (J20 (.bool false) .und h))
      (fun t212 t217 h => runD (pickD t212 t217 (.bool false)) h fun t218 h =>
      J18 (.bool false) t218 h)))
    (J18 (.bool true) .und h))
    (fun t203 t218 h => runD (pickD t203 (.bool true) t218) h fun t219 h =>
    J16 (.bool true) t219 h)))
  (J16 (.bool false) .und h))
  (fun t194 t219 h => runD (pickD t194 t219 (.bool false)) h fun t220 h =>
  K (.ret t220) h)))))))))
  (fun v h => K (.pan v) h))
  (fun v h => K (.pan v) h))
  (fun v h => K (.pan v) h))
  (fun _ _ => False))
  (fun _ _ => False))
  (fun v h => K (.pan v) h))
  (fun v h => K (.pan v) h))
  (fun v h => K (.pan v) h))))
  (fun v h => K (.pan v) h))
  (fun v h => K (.pan v) h))))))))))
  (fun v h => K (.pan v) h)
theorem lamplighterlaw07_RecTurns.eq (F : List (FuncId × Contract)) (S : List (FuncId × Con)) (t0 t1 t2 t3 t4 : AV) (h : List AObj) (K : AOut → List AObj → Prop) : funW (ctx F S lamplighterlaw07_RecTurns.loops) Try.f14 [t0, t1, t2, t3, t4] h K = lamplighterlaw07_RecTurns.H (ctx F S lamplighterlaw07_RecTurns.loops) t0 t1 t2 t3 t4 h K := by kernel_rfl
theorem lamplighterlaw07_RecTurns.at : Try.prog.funcs[14]? = some Try.f14 := by kernel_rfl
theorem lamplighterlaw07_RecTurns.nm : (Try.f14.name == "runtime.NumGoroutine") = false := by kernel_rfl
theorem lamplighterlaw07_RecTurns.bd : Try.f14.body.isNone = false := by kernel_rfl
end Lam
namespace Lam
open Go Go.Proofs
set_option linter.unusedVariables false
set_option linter.unnecessarySimpa false
set_option linter.unusedSimpArgs false
theorem blockAt_getD (W : List Int) (a i : Nat) (h : i < 16) : (blockAt W a).getD i 0 = W.getD (16 * a + i) 0 := by
  unfold blockAt; rw [getD_take, if_pos h, getD_drop]
theorem blockAt_eq {W V : List Int} {a : Nat} (hl : W.length = V.length) (h : ∀ k, k / 16 = a → W.getD k 0 = V.getD k 0) : blockAt W a = blockAt V a := by
  have e1 : (blockAt W a).length = (blockAt V a).length := by unfold blockAt; simp [hl]
  refine ext_d 0 e1 fun i hi => ?_
  have hi : i < 16 := by unfold blockAt at hi; simp at hi; omega
  rw [blockAt_getD _ _ _ hi, blockAt_getD _ _ _ hi]
  exact h _ (by omega)
theorem two_runs {W : List Int} (h1 : W.length ≤ 4096) (h2 : W.length % 8 = 0) {a b : Nat} (ha : 16 * a + 16 ≤ W.length) (hb : 16 * b + 16 ≤ W.length) {p q : List Int} (hp : p.length = 16) (hq : q.length = 16) :
    ∃ W', runS ⟨W, W, []⟩ (stepsR a p ++ stepsR b q) = ⟨W', W', []⟩ ∧ W'.length = W.length ∧ blockAt W' b = q ∧ (a ≠ b → blockAt W' a = p) ∧ ∀ k, k / 16 ≠ a → k / 16 ≠ b → W'.getD k 0 = W.getD k 0 := by
  obtain ⟨V, v1, v2, v3, v4⟩ := stepsR_run h1 h2 ha hp
  obtain ⟨U, u1, u2, u3, u4⟩ := stepsR_run (W := V) (by omega) (by omega) (b := b) (by omega) hq
  refine ⟨U, by rw [runS_append, v1, u1], by omega, u3, fun hab => ?_, fun k h1 h2 => by rw [u4 k h2, v4 k h1]⟩
  rw [← v3]
  exact blockAt_eq u2 fun k hk => u4 k (by omega)
theorem two_same {W U V : List Int} {a b : Nat} {p q : List Int} (hU : U.length = W.length) (hV : V.length = W.length) (u1 : blockAt U b = q) (u2 : blockAt U a = p) (u3 : ∀ k, k / 16 ≠ a → k / 16 ≠ b → U.getD k 0 = W.getD k 0)
    (v1 : blockAt V a = p) (v2 : blockAt V b = q) (v3 : ∀ k, k / 16 ≠ b → k / 16 ≠ a → V.getD k 0 = W.getD k 0) : U = V := by
  refine ext_d 0 (by omega) fun k hk => ?_
  have ek : k = 16 * (k / 16) + k % 16 := by omega
  have hm : k % 16 < 16 := by omega
  by_cases h1 : k / 16 = a
  · have : (blockAt U a).getD (k % 16) 0 = (blockAt V a).getD (k % 16) 0 := by rw [u2, v1]
    rw [blockAt_getD _ _ _ hm, blockAt_getD _ _ _ hm, ← h1, ← ek] at this
    exact this
  · by_cases h2 : k / 16 = b
    · have : (blockAt U b).getD (k % 16) 0 = (blockAt V b).getD (k % 16) 0 := by rw [u1, v2]
      rw [blockAt_getD _ _ _ hm, blockAt_getD _ _ _ hm, ← h2, ← ek] at this
      exact this
    · rw [u3 k h1 h2, v3 k h2 h1]
abbrev RecTurns_ctx : Ctx := ctx [(46, lamplighterlaw07_awake.C), (47, rec_Words.C), (48, rec_Steps.C), (50, rec_Read.C), (27, pmem_New.C), (17, micro_Run.C), (22, lamplighterref02_Numbers.C)] [] lamplighterlaw07_RecTurns.loops
set_option maxRecDepth 20000 in
set_option maxHeartbeats 1000000 in
theorem RecTurns_vc (words : List Int) (x_kind : Int) (x_key : Bytes) (x_val : Bytes) (x_child : Int) (y_kind : Int) (y_key : Bytes) (y_val : Bytes) (y_child : Int) (a : Int) (b : Int) (w_words : wfL (.ints .i64 words)) (n_words : words.length ≤ maxLen) (w_x_kind : (Lit.int .i64 x_kind).wf = true) (w_x_key : x_key.length ≤ maxLen) (w_x_val : x_val.length ≤ maxLen) (w_x_child : (Lit.int .i64 x_child).wf = true) (w_y_kind : (Lit.int .i64 y_kind).wf = true) (w_y_key : y_key.length ≤ maxLen) (w_y_val : y_val.length ≤ maxLen) (w_y_child : (Lit.int .i64 y_child).wf = true) (w_a : (Lit.int .u8 a).wf = true) (w_b : (Lit.int .u8 b).wf = true) : lamplighterlaw07_RecTurns.H RecTurns_ctx (.sl false (.ints .i64 words)) (.agg [(.int .i64 x_kind), (.str x_key), (.str x_val), (.int .i64 x_child)]) (.agg [(.int .i64 y_kind), (.str y_key), (.str y_val), (.int .i64 y_child)]) (.int .u8 a) (.int .u8 b) [] Told := by
  unfold lamplighterlaw07_RecTurns.H
  simp (maxSteps := 4000000) only [go_sem, Nat.reduceEqDiff, Nat.reduceLT, Nat.reduceAdd, Nat.reduceSub, Nat.reduceLeDiff, List.reduceReplicate, Int.reduceToNat, lamplighterlaw07_awake.C, rec_Words.C, rec_Steps.C, rec_Read.C, pmem_New.C, micro_Run.C, lamplighterref02_Numbers.C]
  have ha8 := wf_u8 w_a
  have hb8 := wf_u8 w_b
  have ea : IntKind.i64.wrap a = a := w64 (by omega) (by omega)
  have eb : IntKind.i64.wrap b = b := w64 (by omega) (by omega)
  refine ⟨fun _ => by decide, fun _ => by decide, fun _ => by decide, fun _ => rfl, fun hg => ?_⟩
  simp only [Bool.or_eq_false_iff, decide_eq_false_iff_not, Bool.not_eq_false', decide_eq_true_eq] at hg
  obtain ⟨⟨⟨⟨⟨⟨⟨g1, g2⟩, g3⟩, g4⟩, g5⟩, g6⟩, g7⟩, g8⟩ := hg
  have e0 : IntKind.i64.wrap ((words.length : Int).tdiv 16) = ((words.length / 16 : Nat) : Int) := by
    rw [Int.tdiv_eq_ediv_of_nonneg (by omega)]; exact w64 (by omega) (by omega)
  rw [ea, e0] at g7
  rw [eb, e0] at g8
  rw [ea, eb]
  obtain ⟨i, rfl⟩ := Int.eq_ofNat_of_zero_le ha8.1
  obtain ⟨j, rfl⟩ := Int.eq_ofNat_of_zero_le hb8.1
  rw [Int.tmod_eq_emod_of_nonneg (by omega)] at g6
  have hi16 : 16 * i + 16 ≤ words.length := by omega
  have hj16 : 16 * j + 16 ≤ words.length := by omega
  have hrw : roomy words.length := by unfold roomy; omega
  have hnew : newM words = .tup [memV words words [], .int .i64 0] := by
    unfold newM; rw [show szB _ = true from by unfold szB; rw [decide_eq_true (by omega), decide_eq_true (by rw [Int.tmod_eq_emod_of_nonneg (by omega)]; omega)]; rfl]; rfl
  have ex : (⟨x_kind, x_key, x_val, x_child⟩ : Rc).V = .agg [.int .i64 x_kind, .str x_key, .str x_val, .int .i64 x_child] := rfl
  have ey : (⟨y_kind, y_key, y_val, y_child⟩ : Rc).V = .agg [.int .i64 y_kind, .str y_key, .str y_val, .int .i64 y_child] := rfl
  have hstep : ∀ (k : Nat), 16 * k + 16 ≤ words.length → ∀ (p : List Int), p.length = 16 → rstepsV (k : Int) p = .tup [.sl false (.mics (stepsR k p)), .int .i64 0] := by
    intro k hk p hp
    unfold rstepsV; rw [if_pos]
    rw [hp, decide_eq_true (by omega), decide_eq_true (by omega)]; rfl
  cases h1 : recB ⟨x_kind, x_key, x_val, x_child⟩ with
  | false =>
    cases h2 : recB ⟨y_kind, y_key, y_val, y_child⟩ with
    | false => simp only [rwords_no h1, rwords_no h2, rec_Words.C, joinW_eq, guard_tt, guard_tf, guard_ft, guard_ff, Int.reduceEq, Int.reduceLT, Int.reduceLE, decide_false, decide_true, Bool.not_false, Bool.not_true, Bool.not_not, not_true_eq_false, not_false_eq_true, true_implies, false_implies, implies_true, and_true, true_and, reduceCtorEq, Bool.and_self, Bool.or_self, Bool.and_true, Bool.true_and, Bool.false_eq_true, if_true, if_false, go_sem, Nat.reduceEqDiff, Nat.reduceLT, Nat.reduceAdd, Nat.reduceSub, Nat.reduceLeDiff, List.reduceReplicate, Int.reduceToNat]; rfl
    | true => simp only [rwords_no h1, rwords_ok h2, rec_Words.C, joinW_eq, guard_tt, guard_tf, guard_ft, guard_ff, Int.reduceEq, Int.reduceLT, Int.reduceLE, decide_false, decide_true, Bool.not_false, Bool.not_true, Bool.not_not, not_true_eq_false, not_false_eq_true, true_implies, false_implies, implies_true, and_true, true_and, reduceCtorEq, Bool.and_self, Bool.or_self, Bool.and_true, Bool.true_and, Bool.false_eq_true, if_true, if_false, go_sem, Nat.reduceEqDiff, Nat.reduceLT, Nat.reduceAdd, Nat.reduceSub, Nat.reduceLeDiff, List.reduceReplicate, Int.reduceToNat]; rfl
  | true =>
    cases h2 : recB ⟨y_kind, y_key, y_val, y_child⟩ with
    | false => simp only [rwords_ok h1, rwords_no h2, rec_Words.C, joinW_eq, guard_tt, guard_tf, guard_ft, guard_ff, Int.reduceEq, Int.reduceLT, Int.reduceLE, decide_false, decide_true, Bool.not_false, Bool.not_true, Bool.not_not, not_true_eq_false, not_false_eq_true, true_implies, false_implies, implies_true, and_true, true_and, reduceCtorEq, Bool.and_self, Bool.or_self, Bool.and_true, Bool.true_and, Bool.false_eq_true, if_true, if_false, go_sem, Nat.reduceEqDiff, Nat.reduceLT, Nat.reduceAdd, Nat.reduceSub, Nat.reduceLeDiff, List.reduceReplicate, Int.reduceToNat]; rfl
    | true =>
      have ok1 := rec_iff.1 h1
      have ok2 := rec_iff.1 h2
      have l1 := form_len ok1
      have l2 := form_len ok2
      have hrd : ∀ (W : List Int) (k : Nat) (z : Rc), W.length = words.length → 16 * k + 16 ≤ words.length → z.ok → blockAt W k = formR z → rreadV W (k : Int) = .tup [z.V, .int .i64 0] := by
        intro W k z hl hk hz hb
        unfold rreadV
        rw [if_neg, Int.toNat_natCast, hb, recOf_form hz]
        rw [hl]; simp; omega
      have s1 := hstep i hi16 _ l1
      have s2 := hstep j hj16 _ l2
      have n1 := steps_len i (formR ⟨x_kind, x_key, x_val, x_child⟩)
      have n2 := steps_len j (formR ⟨y_kind, y_key, y_val, y_child⟩)
      obtain ⟨U, u1, u2, u3, u4, u5⟩ := two_runs (W := words) (by omega) (by omega) hi16 hj16 l1 l2
      obtain ⟨V, v1, v2, v3, v4, v5⟩ := two_runs (W := words) (by omega) (by omega) hj16 hi16 l2 l1
      have okm := (begun_new (w := words) (by omega) (by omega)).ok
      have sd1 : soundB ⟨words, words, []⟩ (stepsR i (formR ⟨x_kind, x_key, x_val, x_child⟩) ++ stepsR j (formR ⟨y_kind, y_key, y_val, y_child⟩)) = true :=
        sound_iff.2 ⟨okm, fun z hz => (List.mem_append.1 hz).elim (stepsR_may hi16 _ z) (stepsR_may hj16 _ z)⟩
      have sd2 : soundB ⟨words, words, []⟩ (stepsR j (formR ⟨y_kind, y_key, y_val, y_child⟩) ++ stepsR i (formR ⟨x_kind, x_key, x_val, x_child⟩)) = true :=
        sound_iff.2 ⟨okm, fun z hz => (List.mem_append.1 hz).elim (stepsR_may hj16 _ z) (stepsR_may hi16 _ z)⟩
      have r1 := runV_ok sd1
      have r2 := runV_ok sd2
      rw [u1] at r1
      rw [v1] at r2
      have rU := hrd U j _ u2 hj16 ok2 u3
      have rV := hrd V i _ v2 hi16 ok1 v3
      have la : ∀ (p q : List Mic), (p ++ q).take (p ++ q).length = p ++ q := fun p q => List.take_length
      have lz : ∀ (p q : List Mic), (p ++ q).length = p.length + q.length := fun p q => List.length_append
      simp only [rwords_ok h1, rwords_ok h2, rec_Words.C, rec_Steps.C, s1, s2, hnew, micro_Run.C, joinW_eq, guard_tt, guard_tf, guard_ft, guard_ff, Int.reduceEq, Int.reduceLT, Int.reduceLE, decide_false, decide_true, Bool.not_false, Bool.not_true, Bool.not_not, not_true_eq_false, not_false_eq_true, true_implies, false_implies, implies_true, and_true, true_and, reduceCtorEq, Bool.and_self, Bool.or_self, Bool.and_true, Bool.true_and, Bool.false_eq_true, if_true, if_false, go_sem, Nat.reduceEqDiff, Nat.reduceLT, Nat.reduceAdd, Nat.reduceSub, Nat.reduceLeDiff, List.reduceReplicate, Int.reduceToNat]
      generalize hp : stepsR i (formR ⟨x_kind, x_key, x_val, x_child⟩) = p at *
      generalize hq : stepsR j (formR ⟨y_kind, y_key, y_val, y_child⟩) = q at *
      have hpq : roomy (p ++ q).length := by rw [lz]; unfold roomy; omega
      have hqp : roomy (q ++ p).length := by rw [lz]; unfold roomy; omega
      have hrp : roomy p.length := by unfold roomy; omega
      have hrq : roomy q.length := by unfold roomy; omega
      have hsm : smallM words words [] := by unfold smallM roomy; simp; omega
      have hb1 : (p ++ q).length ≤ 1000000 := by rw [lz]; omega
      have hb2 : (q ++ p).length ≤ 1000000 := by rw [lz]; omega
      by_cases hij : i = j
      · subst hij
        have dd : decide ((i : Int) = i) = true := decide_eq_true rfl
        simp only [r1, r2, rec_Read.C, micro_Run.C, rU, rV, dd, u2, v2, decide_true, joinW_eq, guard_tt, guard_tf, guard_ft, guard_ff, Int.reduceEq, Int.reduceLT, Int.reduceLE, decide_false, decide_true, Bool.not_false, Bool.not_true, Bool.not_not, not_true_eq_false, not_false_eq_true, true_implies, false_implies, implies_true, and_true, true_and, reduceCtorEq, Bool.and_self, Bool.or_self, Bool.and_true, Bool.true_and, Bool.false_eq_true, if_true, if_false, go_sem, Nat.reduceEqDiff, Nat.reduceLT, Nat.reduceAdd, Nat.reduceSub, Nat.reduceLeDiff, List.reduceReplicate, Int.reduceToNat]
        exact ⟨hrw, hrp, hpq, ⟨hsm, hb1⟩, rfl, rfl, hrq, hqp, ⟨hsm, hb2⟩, rfl, rfl, hrw, hrw, hrw, rfl⟩
      · have rU' := hrd U i _ u2 hi16 ok1 (u4 hij)
        have hUV : U = V := two_same u2 v2 u3 (u4 hij) u5 v3 (v4 (Ne.symm hij)) v5
        have dd : decide ((i : Int) = j) = false := decide_eq_false (by omega)
        subst hUV
        simp only [r1, r2, rec_Read.C, micro_Run.C, rU, rV, rU', dd, lamplighterref02_Numbers.C, decide_true, joinW_eq, guard_tt, guard_tf, guard_ft, guard_ff, Int.reduceEq, Int.reduceLT, Int.reduceLE, decide_false, decide_true, Bool.not_false, Bool.not_true, Bool.not_not, not_true_eq_false, not_false_eq_true, true_implies, false_implies, implies_true, and_true, true_and, reduceCtorEq, Bool.and_self, Bool.or_self, Bool.and_true, Bool.true_and, Bool.false_eq_true, if_true, if_false, go_sem, Nat.reduceEqDiff, Nat.reduceLT, Nat.reduceAdd, Nat.reduceSub, Nat.reduceLeDiff, List.reduceReplicate, Int.reduceToNat]
        have hrU : roomy U.length := by rw [u2]; exact hrw
        exact ⟨hrw, hrp, hpq, ⟨hsm, hb1⟩, rfl, rfl, hrq, hqp, ⟨hsm, hb2⟩, rfl, rfl, hrU, hrU, hrU, hrU, rfl⟩
theorem RecTurns_ok : Ok Try.prog RecTurns_ctx := ctx_ok (by simpa using ⟨lamplighterlaw07_awake.spec, rec_Words.spec, rec_Steps.spec, rec_Read.spec, pmem_New.spec, micro_Run.spec, lamplighterref02_Numbers.spec⟩) (by simp) _
theorem RecTurns_law (words : Lst) (x : AV) (y : AV) (a : Int) (b : Int) (k_words : words.kind = (.int .i64)) (w_words : wfL words) (n_words : words.len ≤ maxLen) (g_x : GoodV T_api_Rec x) (g_y : GoodV T_api_Rec y) (w_a : (Lit.int .u8 a).wf = true) (w_b : (Lit.int .u8 b).wf = true) : funW RecTurns_ctx Try.f14 [(.sl false words), x, y, (.int .u8 a), (.int .u8 b)] [] Told := by
  obtain ⟨_, rfl, _, _, rfl, ⟨x_kind, rfl, w_x_kind⟩, _, _, rfl, ⟨x_key, rfl, w_x_key⟩, _, _, rfl, ⟨x_val, rfl, w_x_val⟩, _, _, rfl, ⟨x_child, rfl, w_x_child⟩, rfl⟩ := g_x
  obtain ⟨_, rfl, _, _, rfl, ⟨y_kind, rfl, w_y_kind⟩, _, _, rfl, ⟨y_key, rfl, w_y_key⟩, _, _, rfl, ⟨y_val, rfl, w_y_val⟩, _, _, rfl, ⟨y_child, rfl, w_y_child⟩, rfl⟩ := g_y
  obtain ⟨words, rfl⟩ := gkind_ints k_words
  rw [RecTurns_ctx, lamplighterlaw07_RecTurns.eq]
  exact RecTurns_vc words x_kind x_key x_val x_child y_kind y_key y_val y_child a b w_words n_words w_x_kind w_x_key w_x_val w_x_child w_y_kind w_y_key w_y_val w_y_child w_a w_b
end Lam
