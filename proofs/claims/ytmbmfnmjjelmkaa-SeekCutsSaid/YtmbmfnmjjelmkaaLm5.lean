/- What functions of the program come to, each proved from its code. -/
import Derived.Test.YtmbmfnmjjelmkaaLm4
namespace Lam
open Go Go.Proofs
set_option linter.unusedVariables false
def seek_Begin.loops : Nat → LInfo
  | 2 => ⟨[], [], [], [(3, none), (2, some [17, 19])], [], []⟩
  | _ => ⟨[], [], [], [], [], []⟩
def seek_Begin.H (c : Ctx) (t0 : AV) (t1 : AV) (h : List AObj) (K : AOut → List AObj → Prop) : Prop :=
  allocW T_api_Seek h fun t4 h =>
  callW false c (.fn (.func 23) [] []) [t0, t1] h (fun t12 h =>
  runD (extractD t12 0) h fun t13 h =>
  runD (extractD t12 1) h fun t14 h =>
  allocW T_api_Node h fun t6 h =>
  runH (storeH T_api_Node h t6 t13) h fun _ h =>
  runD (binD T_api_Errno .neq t14 (.int .i64 0)) h fun t16 h =>
  joinW (fun (J1 : AV → AV → List AObj → Prop) =>
  guardW t16 false
  (runD (binD T_int .geq t1 (.int .i64 256)) h fun t19 h =>
    J1 (.bool false) t19 h)
  (J1 (.bool true) .und h))
  (fun t17 t19 h => runD (pickD t17 (.bool true) t19) h fun t20 h =>
  condW t20
  (runD (buildD T_api_Seek []) h fun t21 h =>
    runH (storeH T_api_Seek h t4 t21) h fun _ h =>
    loadRes (fitD T_api_Seek (loadD h t4)) fun r0 => K (.ret (.tup [r0, (.int .i64 90)])) h)
  (runD (fieldAddrD T_api_Node t6 1) h fun t23 h =>
  runD (fitD T_int (loadD h t23)) h fun t24 h =>
  runD (buildD T_api_Seek [(0, t1), (1, t24)]) h fun t25 h =>
  allocW T_api_Seek h fun t8 h =>
  runH (storeH T_api_Seek h t8 t25) h fun _ h =>
  runD (fitD T_api_Seek (loadD h t8)) h fun t26 h =>
  callW false c (.fn (.func 61) [] []) [t26] h (fun t27 h =>
  joinW (fun (J2 : List AObj → Prop) =>
  condW t27
  (runD (fieldAddrD T_api_Seek t8 2) h fun t28 h =>
    runH (storeH T_int h t28 (.int .i64 12)) h fun _ h =>
    J2 h)
  (J2 h))
  (fun h => runD (fitD T_api_Seek (loadD h t8)) h fun t29 h =>
  runH (storeH T_api_Seek h t4 t29) h fun _ h =>
  loadRes (fitD T_api_Seek (loadD h t4)) fun r0 => K (.ret (.tup [r0, (.int .i64 0)])) h))
  (fun v h => K (.pan v) h))))
  (fun v h => K (.pan v) h)
def seek_Step.loops : Nat → LInfo
  | 2 => ⟨[], [], [], [(4, none), (3, some [12, 15]), (2, none), (6, some [17, 23])], [], []⟩
  | 4 => ⟨[], [], [], [(3, none), (2, some [33, 35])], [], []⟩
  | _ => ⟨[], [], [], [], [], []⟩
def seek_Step.H (c : Ctx) (t0 : AV) (t1 : AV) (h : List AObj) (K : AOut → List AObj → Prop) : Prop :=
  boxW T_api_Seek t1 h fun t3 h =>
  allocW T_api_Seek h fun t4 h =>
  runD (fieldAddrD T_api_Seek t3 0) h fun t9 h =>
  runD (fitD T_int (loadD h t9)) h fun t10 h =>
  runD (binD T_int .geq t10 (.int .i64 0)) h fun t11 h =>
  joinW (fun (J1 : AV → AV → List AObj → Prop) =>
  guardW t11 true
  (runD (fieldAddrD T_api_Seek t3 0) h fun t13 h =>
    runD (fitD T_int (loadD h t13)) h fun t14 h =>
    runD (binD T_int .lss t14 (.int .i64 256)) h fun t15 h =>
    J1 (.bool true) t15 h)
  (J1 (.bool false) .und h))
  (fun t12 t15 h => runD (pickD t12 t15 (.bool false)) h fun t16 h =>
  joinW (fun (J2 : AV → AV → List AObj → Prop) =>
  guardW t16 true
  (runD (fieldAddrD T_api_Seek t3 0) h fun t18 h =>
    runD (fitD T_int (loadD h t18)) h fun t19 h =>
    runD (lenD T_sl_int h t0) h fun t21 h =>
    runD (binD T_int .quo t21 (.int .i64 16)) h fun t22 h =>
    runD (binD T_int .lss t19 t22) h fun t23 h =>
    J2 (.bool true) t23 h)
  (J2 (.bool false) .und h))
  (fun t17 t23 h => runD (pickD t17 t23 (.bool false)) h fun t24 h =>
  joinW (fun (J3 : AV → List AObj → Prop) =>
  condW t24
  (runD (fieldAddrD T_api_Seek t3 0) h fun t25 h =>
    runD (fitD T_int (loadD h t25)) h fun t26 h =>
    runD (binD T_int .mul (.int .i64 16) t26) h fun t27 h =>
    runD (fieldAddrD T_api_Seek t3 2) h fun t28 h =>
    runD (fitD T_int (loadD h t28)) h fun t29 h =>
    callW false c (.fn (.func 63) [] []) [t27, t29] h (fun t30 h =>
    J3 t30 h)
    (fun v h => K (.pan v) h))
  (J3 (.int .i64 (-1)) h))
  (fun t5 h => runD (fieldAddrD T_api_Seek t3 4) h fun t31 h =>
  runD (fitD T_bool (loadD h t31)) h fun t32 h =>
  joinW (fun (J4 : AV → AV → List AObj → Prop) =>
  guardW t32 false
  (runD (binD T_int .lss t5 (.int .i64 0)) h fun t35 h =>
    J4 (.bool false) t35 h)
  (J4 (.bool true) .und h))
  (fun t33 t35 h => runD (pickD t33 (.bool true) t35) h fun t36 h =>
  condW t36
  (runD (fitD T_api_Seek (loadD h t3)) h fun t37 h =>
    runH (storeH T_api_Seek h t4 t37) h fun _ h =>
    loadRes (fitD T_api_Seek (loadD h t4)) fun r0 => K (.ret r0) h)
  (runD (fitD T_api_Seek (loadD h t3)) h fun t38 h =>
  runD (indexAddrD T_sl_int h t0 t5) h fun t41 h =>
  runD (fitD T_int (loadD h t41)) h fun t42 h =>
  runD (buildD T_seek_look [(0, t38), (1, t42)]) h fun t43 h =>
  boxW T_seek_look t43 h fun t44 h =>
  runD (fieldAddrD T_api_Seek t3 3) h fun t46 h =>
  runD (fitD T_sl_int (loadD h t46)) h fun t47 h =>
  callW false c (.fn (.func 64) [] []) [t47] h (fun t48 h =>
  runD (nilCheckD t44) h fun t49 h =>
  runD (fieldAddrD T_seek_look t49 0) h fun t50 h =>
  runD (fieldAddrD T_api_Seek t50 3) h fun t51 h =>
  runH (storeH T_sl_int h t51 t48) h fun _ h =>
  runD (fieldAddrD T_api_Seek t3 3) h fun t52 h =>
  runD (fitD T_sl_int (loadD h t52)) h fun t53 h =>
  runD (lenD T_sl_int h t53) h fun t54 h =>
  runD (nilCheckD t44) h fun t56 h =>
  runD (fieldAddrD T_seek_look t56 1) h fun t57 h =>
  runD (fitD T_int (loadD h t57)) h fun t58 h =>
  runD (binD T_int .gtr t58 (.int .i64 0)) h fun t59 h =>
  joinW (fun (J5 : AV → AV → List AObj → Prop) =>
  guardW t59 true
  (runD (binD T_int .eql t54 (.int .i64 0)) h fun t62 h =>
    joinW (fun (J6 : AV → AV → List AObj → Prop) =>
    guardW t62 false
    (runD (fieldAddrD T_api_Seek t3 3) h fun t64 h =>
      runD (fitD T_sl_int (loadD h t64)) h fun t65 h =>
      runD (binD T_int .sub t54 (.int .i64 1)) h fun t67 h =>
      runD (indexAddrD T_sl_int h t65 t67) h fun t68 h =>
      runD (fitD T_int (loadD h t68)) h fun t69 h =>
      runD (nilCheckD t44) h fun t71 h =>
      runD (fieldAddrD T_seek_look t71 1) h fun t72 h =>
      runD (fitD T_int (loadD h t72)) h fun t73 h =>
      runD (binD T_int .neq t69 t73) h fun t74 h =>
      J6 (.bool false) t74 h)
    (J6 (.bool true) .und h))
    (fun t63 t74 h => runD (pickD t63 (.bool true) t74) h fun t75 h =>
    J5 (.bool true) t75 h))
  (J5 (.bool false) .und h))
  (fun t60 t75 h => runD (pickD t60 t75 (.bool false)) h fun t76 h =>
  joinW (fun (J7 : List AObj → Prop) =>
  condW t76
  (runD (nilCheckD t44) h fun t79 h =>
    runD (fieldAddrD T_seek_look t79 0) h fun t80 h =>
    runD (fieldAddrD T_api_Seek t80 3) h fun t81 h =>
    runD (fitD T_sl_int (loadD h t81)) h fun t82 h =>
    runD (nilCheckD t44) h fun t84 h =>
    runD (fieldAddrD T_seek_look t84 1) h fun t85 h =>
    runD (fitD T_int (loadD h t85)) h fun t86 h =>
    runD (buildSliceD T_sl_int 1 [(0, t86)] h.length) h fun t87 h =>
    runDM (appendD T_sl_int h t82 t87 h.length) (appendH T_sl_int h t82 t87) h fun t88 h =>
    runD (nilCheckD t44) h fun t89 h =>
    runD (fieldAddrD T_seek_look t89 0) h fun t90 h =>
    runD (fieldAddrD T_api_Seek t90 3) h fun t91 h =>
    runH (storeH T_sl_int h t91 t88) h fun _ h =>
    J7 h)
  (J7 h))
  (fun h => runD (fitD T_api_Seek (loadD h t3)) h fun t94 h =>
  callW false c (.fn (.func 61) [] []) [t94] h (fun t95 h =>
  joinW (fun (J8 : AV → List AObj → Prop) =>
  condW t95
  (J8 (.fn (.func 66) [t44] []) h)
  (J8 (.fn (.func 65) [t44] []) h))
  (fun t8 h => callW false c t8 [] h (fun t99 h =>
  runD (nilCheckD t44) h fun t101 h =>
  runD (fieldAddrD T_seek_look t101 0) h fun t102 h =>
  runD (fitD T_api_Seek (loadD h t102)) h fun t103 h =>
  runH (storeH T_api_Seek h t4 t103) h fun _ h =>
  loadRes (fitD T_api_Seek (loadD h t4)) fun r0 => K (.ret r0) h)
  (fun v h => K (.pan v) h)))
  (fun v h => K (.pan v) h))))
  (fun v h => K (.pan v) h))))))
def seek_Holds.loops : Nat → LInfo
  | 2 => ⟨[], [], [], [(3, none), (5, some [16, 21])], [], []⟩
  | _ => ⟨[], [], [], [], [], []⟩
def seek_Holds.H (c : Ctx) (t0 : AV) (t1 : AV) (h : List AObj) (K : AOut → List AObj → Prop) : Prop :=
  boxW T_api_Seek t1 h fun t3 h =>
  runD (fieldAddrD T_api_Seek t3 0) h fun t9 h =>
  runD (fitD T_int (loadD h t9)) h fun t10 h =>
  callW false c (.fn (.func 23) [] []) [t0, t10] h (fun t11 h =>
  runD (extractD t11 0) h fun t12 h =>
  runD (extractD t11 1) h fun t13 h =>
  allocW T_api_Node h fun t5 h =>
  runH (storeH T_api_Node h t5 t12) h fun _ h =>
  runD (binD T_api_Errno .eql t13 (.int .i64 0)) h fun t15 h =>
  joinW (fun (J1 : AV → AV → List AObj → Prop) =>
  guardW t15 true
  (runD (fieldAddrD T_api_Node t5 1) h fun t17 h =>
    runD (fitD T_int (loadD h t17)) h fun t18 h =>
    runD (fieldAddrD T_api_Seek t3 1) h fun t19 h =>
    runD (fitD T_int (loadD h t19)) h fun t20 h =>
    runD (binD T_int .eql t18 t20) h fun t21 h =>
    J1 (.bool true) t21 h)
  (J1 (.bool false) .und h))
  (fun t16 t21 h => runD (pickD t16 t21 (.bool false)) h fun t22 h =>
  K (.ret t22) h))
  (fun v h => K (.pan v) h)
def seek_Hits.loops : Nat → LInfo
  | 3 => ⟨[4, 14], [true, false], [0, 5, 12, 13], [], [], []⟩
  | 6 => ⟨[], [], [], [(3, none), (5, some [26, 31])], [], []⟩
  | _ => ⟨[], [], [], [], [], []⟩
def seek_Hits.L1 (c : Ctx) (J1 : AV → List AObj → Prop) (K : AOut → List AObj → Prop) (lv : List AV) (h0 : List AObj) (n0 : Nat) (c0 : AV) (c5 : AV) (c12 : AV) (c13 : AV) : Prop :=
  ∃ I : Nat → List AV → List AObj → Prop, (∃ n, I n lv h0) ∧ ∀ n h, ∀ t4, ∀ t14, I n [t4, t14] h →
    runD (binD T_int .lss t14 c13) h fun t15 h =>
    condW t15
    (runD (indexAddrD T_sl_int h c12 t14) h fun t16 h =>
    runD (fitD T_int (loadD h t16)) h fun t17 h =>
    callW false c (.fn (.func 37) [] []) [c0, t17] h (fun t21 h =>
    runD (extractD t21 0) h fun t22 h =>
    runD (extractD t21 1) h fun t23 h =>
    allocW T_api_Rec h fun t8 h =>
    runH (storeH T_api_Rec h t8 t22) h fun _ h =>
    runD (binD T_api_Errno .eql t23 (.int .i64 0)) h fun t25 h =>
    joinW (fun (J2 : AV → AV → List AObj → Prop) =>
    guardW t25 true
    (runD (fieldAddrD T_api_Rec t8 1) h fun t28 h =>
      runD (fitD T_string (loadD h t28)) h fun t29 h =>
      runD (lookupD T_map_string_bool h c5 t29) h fun t30 h =>
      runD (unD .not t30) h fun t31 h =>
      J2 (.bool true) t31 h)
    (J2 (.bool false) .und h))
    (fun t26 t31 h => runD (pickD t26 t31 (.bool false)) h fun t32 h =>
    joinW (fun (J3 : AV → List AObj → Prop) =>
    condW t32
    (runD (fieldAddrD T_api_Rec t8 1) h fun t34 h =>
      runD (fitD T_string (loadD h t34)) h fun t35 h =>
      runH (mapSetH T_map_string_bool h c5 t35 (.bool true)) h fun _ h =>
      runD (fitD T_api_Rec (loadD h t8)) h fun t37 h =>
      runD (buildSliceD T_sl_api_Rec 1 [(0, t37)] h.length) h fun t38 h =>
      runDM (appendD T_sl_api_Rec h t4 t38 h.length) (appendH T_sl_api_Rec h t4 t38) h fun t39 h =>
      J3 t39 h)
    (J3 t4 h))
    (fun t4 h => runD (binD T_int .add t14 (.int .i64 1)) h fun t40 h =>
    (∃ m, m < n ∧ I m (AV.norms n0 h [t4, t40]) (normH n0 h)) ∧ AV.norms n0 h [c0, c5, c12, c13] = [c0, c5, c12, c13])))
    (fun v h => K (.pan v) h))
    (J1 t4 h)
def seek_Hits.H (c : Ctx) (t0 : AV) (t1 : AV) (h : List AObj) (K : AOut → List AObj → Prop) : Prop :=
  boxW T_api_Seek t1 h fun t3 h =>
  runD (makeMapD T_map_string_bool h.length) h fun t10 h =>
  runD (fieldAddrD T_api_Seek t3 3) h fun t11 h =>
  runD (fitD T_sl_int (loadD h t11)) h fun t12 h =>
  runD (lenD T_sl_int h t12) h fun t13 h =>
  joinW (fun (J1 : AV → List AObj → Prop) =>
  promV [true, false] [(.sl true (.recs [])), (.int .i64 0)] h fun lv h => seek_Hits.L1 c J1 K (AV.norms h.length h lv) (normH h.length h) h.length (AV.norm h.length h t0) (AV.norm h.length h t10) (AV.norm h.length h t12) (AV.norm h.length h t13))
  (fun t4 h => callW false c (.fn (.func 67) [] []) [t4, (.fn (.func 68) [] [])] h (fun t42 h =>
  K (.ret t4) h)
  (fun v h => K (.pan v) h))
def seek_down.loops : Nat → LInfo
  | _ => ⟨[], [], [], [], [], []⟩
def seek_down.H (c : Ctx) (t0 : AV) (h : List AObj) (K : AOut → List AObj → Prop) : Prop :=
  boxW T_api_Seek t0 h fun t1 h =>
  runD (fieldAddrD T_api_Seek t1 1) h fun t3 h =>
  runD (fitD T_int (loadD h t3)) h fun t4 h =>
  runD (binD T_int .and t4 (.int .i64 1)) h fun t5 h =>
  runD (binD T_int .eql t5 (.int .i64 1)) h fun t6 h =>
  K (.ret t6) h
def seek_look_up.loops : Nat → LInfo
  | 0 => ⟨[], [], [], [(7, none), (6, some [8, 14])], [], []⟩
  | _ => ⟨[], [], [], [], [], []⟩
def seek_look_up.H (c : Ctx) (t0 : AV) (h : List AObj) (K : AOut → List AObj → Prop) : Prop :=
  runD (nilCheckD t0) h fun t4 h =>
  runD (fieldAddrD T_seek_look t4 1) h fun t5 h =>
  runD (fitD T_int (loadD h t5)) h fun t6 h =>
  runD (binD T_int .lss t6 (.int .i64 1)) h fun t7 h =>
  joinW (fun (J1 : AV → AV → List AObj → Prop) =>
  guardW t7 false
  (runD (nilCheckD t0) h fun t10 h =>
    runD (fieldAddrD T_seek_look t10 0) h fun t11 h =>
    runD (fieldAddrD T_api_Seek t11 2) h fun t12 h =>
    runD (fitD T_int (loadD h t12)) h fun t13 h =>
    runD (binD T_int .eql t13 (.int .i64 12)) h fun t14 h =>
    J1 (.bool false) t14 h)
  (J1 (.bool true) .und h))
  (fun t8 t14 h => runD (pickD t8 (.bool true) t14) h fun t15 h =>
  runD (nilCheckD t0) h fun t16 h =>
  runD (fieldAddrD T_seek_look t16 0) h fun t17 h =>
  runD (fieldAddrD T_api_Seek t17 4) h fun t18 h =>
  runH (storeH T_bool h t18 t15) h fun _ h =>
  runD (nilCheckD t0) h fun t20 h =>
  runD (fieldAddrD T_seek_look t20 0) h fun t21 h =>
  runD (fieldAddrD T_api_Seek t21 4) h fun t22 h =>
  runD (fitD T_bool (loadD h t22)) h fun t23 h =>
  runD (unD .not t23) h fun t24 h =>
  joinW (fun (J2 : List AObj → Prop) =>
  condW t24
  (runD (nilCheckD t0) h fun t26 h =>
    runD (fieldAddrD T_seek_look t26 0) h fun t27 h =>
    runD (fieldAddrD T_api_Seek t27 2) h fun t28 h =>
    runD (fitD T_int (loadD h t28)) h fun t29 h =>
    runD (binD T_int .add t29 (.int .i64 1)) h fun t30 h =>
    runD (nilCheckD t0) h fun t31 h =>
    runD (fieldAddrD T_seek_look t31 0) h fun t32 h =>
    runD (fieldAddrD T_api_Seek t32 2) h fun t33 h =>
    runH (storeH T_int h t33 t30) h fun _ h =>
    J2 h)
  (J2 h))
  (fun h => K (.ret (.tup [])) h))
def seek_look_fall.loops : Nat → LInfo
  | _ => ⟨[], [], [], [], [], []⟩
def seek_look_fall.H (c : Ctx) (t0 : AV) (h : List AObj) (K : AOut → List AObj → Prop) : Prop :=
  runD (nilCheckD t0) h fun t4 h =>
  runD (fieldAddrD T_seek_look t4 0) h fun t5 h =>
  runD (fieldAddrD T_api_Seek t5 2) h fun t6 h =>
  runD (fitD T_int (loadD h t6)) h fun t7 h =>
  runD (binD T_int .eql t7 (.int .i64 0)) h fun t8 h =>
  runD (nilCheckD t0) h fun t9 h =>
  runD (fieldAddrD T_seek_look t9 0) h fun t10 h =>
  runD (fieldAddrD T_api_Seek t10 4) h fun t11 h =>
  runH (storeH T_bool h t11 t8) h fun _ h =>
  runD (nilCheckD t0) h fun t13 h =>
  runD (fieldAddrD T_seek_look t13 0) h fun t14 h =>
  runD (fieldAddrD T_api_Seek t14 4) h fun t15 h =>
  runD (fitD T_bool (loadD h t15)) h fun t16 h =>
  runD (unD .not t16) h fun t17 h =>
  joinW (fun (J1 : List AObj → Prop) =>
  condW t17
  (runD (nilCheckD t0) h fun t19 h =>
    runD (fieldAddrD T_seek_look t19 0) h fun t20 h =>
    runD (fieldAddrD T_api_Seek t20 2) h fun t21 h =>
    runD (fitD T_int (loadD h t21)) h fun t22 h =>
    runD (binD T_int .sub t22 (.int .i64 1)) h fun t23 h =>
    runD (nilCheckD t0) h fun t24 h =>
    runD (fieldAddrD T_seek_look t24 0) h fun t25 h =>
    runD (fieldAddrD T_api_Seek t25 2) h fun t26 h =>
    runH (storeH T_int h t26 t23) h fun _ h =>
    J1 h)
  (J1 h))
  (fun h => K (.ret (.tup [])) h)
def seek_Hits_1.loops : Nat → LInfo
  | _ => ⟨[], [], [], [], [], []⟩
def seek_Hits_1.H (c : Ctx) (t0 : AV) (t1 : AV) (h : List AObj) (K : AOut → List AObj → Prop) : Prop :=
  boxW T_api_Rec t0 h fun t2 h =>
  boxW T_api_Rec t1 h fun t3 h =>
  runD (fieldAddrD T_api_Rec t2 1) h fun t5 h =>
  runD (fitD T_string (loadD h t5)) h fun t6 h =>
  runD (fieldAddrD T_api_Rec t3 1) h fun t7 h =>
  runD (fitD T_string (loadD h t7)) h fun t8 h =>
  callW false c (.fn (.func 69) [] []) [t6, t8] h (fun t9 h =>
  K (.ret t9) h)
  (fun v h => K (.pan v) h)
theorem seek_Begin.eq (F : List (FuncId × Contract)) (S : List (FuncId × Con)) (t0 t1 : AV) (h : List AObj) (K : AOut → List AObj → Prop) : funW (ctx F S seek_Begin.loops) Try.f25 [t0, t1] h K = seek_Begin.H (ctx F S seek_Begin.loops) t0 t1 h K := by kernel_rfl
theorem seek_Step.eq (F : List (FuncId × Contract)) (S : List (FuncId × Con)) (t0 t1 : AV) (h : List AObj) (K : AOut → List AObj → Prop) : funW (ctx F S seek_Step.loops) Try.f28 [t0, t1] h K = seek_Step.H (ctx F S seek_Step.loops) t0 t1 h K := by kernel_rfl
theorem seek_Holds.eq (F : List (FuncId × Contract)) (S : List (FuncId × Con)) (t0 t1 : AV) (h : List AObj) (K : AOut → List AObj → Prop) : funW (ctx F S seek_Holds.loops) Try.f30 [t0, t1] h K = seek_Holds.H (ctx F S seek_Holds.loops) t0 t1 h K := by kernel_rfl
theorem seek_Hits.eq (F : List (FuncId × Contract)) (S : List (FuncId × Con)) (t0 t1 : AV) (h : List AObj) (K : AOut → List AObj → Prop) : funW (ctx F S seek_Hits.loops) Try.f33 [t0, t1] h K = seek_Hits.H (ctx F S seek_Hits.loops) t0 t1 h K := by kernel_rfl
theorem seek_down.eq (F : List (FuncId × Contract)) (S : List (FuncId × Con)) (t0 : AV) (h : List AObj) (K : AOut → List AObj → Prop) : funW (ctx F S seek_down.loops) Try.f61 [t0] h K = seek_down.H (ctx F S seek_down.loops) t0 h K := by kernel_rfl
theorem seek_look_up.eq (F : List (FuncId × Contract)) (S : List (FuncId × Con)) (t0 : AV) (h : List AObj) (K : AOut → List AObj → Prop) : funW (ctx F S seek_look_up.loops) Try.f65 [t0] h K = seek_look_up.H (ctx F S seek_look_up.loops) t0 h K := by kernel_rfl
theorem seek_look_fall.eq (F : List (FuncId × Contract)) (S : List (FuncId × Con)) (t0 : AV) (h : List AObj) (K : AOut → List AObj → Prop) : funW (ctx F S seek_look_fall.loops) Try.f66 [t0] h K = seek_look_fall.H (ctx F S seek_look_fall.loops) t0 h K := by kernel_rfl
theorem seek_Hits_1.eq (F : List (FuncId × Contract)) (S : List (FuncId × Con)) (t0 t1 : AV) (h : List AObj) (K : AOut → List AObj → Prop) : funW (ctx F S seek_Hits_1.loops) Try.f68 [t0, t1] h K = seek_Hits_1.H (ctx F S seek_Hits_1.loops) t0 t1 h K := by kernel_rfl
theorem seek_Begin.at : Try.prog.funcs[25]? = some Try.f25 := by kernel_rfl
theorem seek_Begin.nm : (Try.f25.name == "runtime.NumGoroutine") = false := by kernel_rfl
theorem seek_Begin.bd : Try.f25.body.isNone = false := by kernel_rfl
theorem seek_Step.at : Try.prog.funcs[28]? = some Try.f28 := by kernel_rfl
theorem seek_Step.nm : (Try.f28.name == "runtime.NumGoroutine") = false := by kernel_rfl
theorem seek_Step.bd : Try.f28.body.isNone = false := by kernel_rfl
theorem seek_Holds.at : Try.prog.funcs[30]? = some Try.f30 := by kernel_rfl
theorem seek_Holds.nm : (Try.f30.name == "runtime.NumGoroutine") = false := by kernel_rfl
theorem seek_Holds.bd : Try.f30.body.isNone = false := by kernel_rfl
theorem seek_Hits.at : Try.prog.funcs[33]? = some Try.f33 := by kernel_rfl
theorem seek_Hits.nm : (Try.f33.name == "runtime.NumGoroutine") = false := by kernel_rfl
theorem seek_Hits.bd : Try.f33.body.isNone = false := by kernel_rfl
theorem seek_down.at : Try.prog.funcs[61]? = some Try.f61 := by kernel_rfl
theorem seek_down.nm : (Try.f61.name == "runtime.NumGoroutine") = false := by kernel_rfl
theorem seek_down.bd : Try.f61.body.isNone = false := by kernel_rfl
theorem seek_look_up.at : Try.prog.funcs[65]? = some Try.f65 := by kernel_rfl
theorem seek_look_up.nm : (Try.f65.name == "runtime.NumGoroutine") = false := by kernel_rfl
theorem seek_look_up.bd : Try.f65.body.isNone = false := by kernel_rfl
theorem seek_look_fall.at : Try.prog.funcs[66]? = some Try.f66 := by kernel_rfl
theorem seek_look_fall.nm : (Try.f66.name == "runtime.NumGoroutine") = false := by kernel_rfl
theorem seek_look_fall.bd : Try.f66.body.isNone = false := by kernel_rfl
theorem seek_Hits_1.at : Try.prog.funcs[68]? = some Try.f68 := by kernel_rfl
theorem seek_Hits_1.nm : (Try.f68.name == "runtime.NumGoroutine") = false := by kernel_rfl
theorem seek_Hits_1.bd : Try.f68.body.isNone = false := by kernel_rfl
end Lam
namespace Lam
set_option maxRecDepth 20000
open Go Go.Proofs
set_option linter.unusedVariables false
set_option linter.unnecessarySimpa false
set_option linter.unusedSimpArgs false
def cmpI (a b : Bytes) : Int := if ltB a b = true then -1 else if ltB b a = true then 1 else 0
theorem cmpI_neg {a b : Bytes} : (cmpI a b < 0) ↔ ltB a b = true := by
  unfold cmpI
  split
  · rename_i h; simp [h]
  · rename_i h
    split
    · simp [h]
    · simp [h]
def cmp_isNaN_string.C : Contract
  | [.str _] => some (false, pD True (.bool false))
  | _ => none
set_option maxRecDepth 20000 in
theorem cmp_isNaN_string.spec : FSpec Try.prog 94 cmp_isNaN_string.C := by
  refine FSpec.of (ctx_ok (F := []) (S := []) (by simp) (by simp) cmp_isNaN_string.loops) cmp_isNaN_string.at cmp_isNaN_string.nm cmp_isNaN_string.bd ?_
  intro vs b S v news e hS
  unfold cmp_isNaN_string.C at e
  split at e
  rotate_left
  · cases e
  cases e
  rw [cmp_isNaN_string.eq]
  unfold cmp_isNaN_string.H
  simp (maxSteps := 4000000) only [go_sem, Nat.reduceEqDiff, Nat.reduceLT, Nat.reduceAdd, Nat.reduceSub, Nat.reduceLeDiff, List.reduceReplicate, Int.reduceToNat]
  exact post_val rfl rfl
def cmp_Compare_string.C : Contract
  | [.str a, .str b] => some (false, pD True (.int .i64 (cmpI a b)))
  | _ => none
set_option maxRecDepth 20000 in
theorem cmp_Compare_string.spec : FSpec Try.prog 69 cmp_Compare_string.C := by
  refine FSpec.of (ctx_ok (F := [(94, cmp_isNaN_string.C)]) (S := []) (by simpa using cmp_isNaN_string.spec) (by simp) cmp_Compare_string.loops) cmp_Compare_string.at cmp_Compare_string.nm cmp_Compare_string.bd ?_
  intro vs b S v news e hS
  unfold cmp_Compare_string.C at e
  split at e
  rotate_left
  · cases e
  cases e
  rw [cmp_Compare_string.eq]
  unfold cmp_Compare_string.H
  simp (maxSteps := 4000000) only [go_sem, Nat.reduceEqDiff, Nat.reduceLT, Nat.reduceAdd, Nat.reduceSub, Nat.reduceLeDiff, List.reduceReplicate, Int.reduceToNat, cmp_isNaN_string.C]
  rename_i a b
  unfold cmpI
  refine ⟨fun h => ?_, fun h => ⟨fun h2 => ?_, fun h2 => ?_⟩⟩
  · rw [h]; exact post_val rfl rfl
  · rw [h, h2]; exact post_val rfl rfl
  · rw [h, h2]; exact post_val rfl rfl
def seek_Hits_1.C : Contract
  | [.agg [.int .i64 a, .str b, .str c, .int .i64 d], .agg [.int .i64 e, .str f, .str g, .int .i64 i]] => some (false, pD True (.int .i64 (cmpI b f)))
  | _ => none
set_option maxRecDepth 20000 in
theorem seek_Hits_1.spec : FSpec Try.prog 68 seek_Hits_1.C := by
  refine FSpec.of (ctx_ok (F := [(69, cmp_Compare_string.C)]) (S := []) (by simpa using cmp_Compare_string.spec) (by simp) seek_Hits_1.loops) seek_Hits_1.at seek_Hits_1.nm seek_Hits_1.bd ?_
  intro vs b S v news e hS
  unfold seek_Hits_1.C at e
  split at e
  rotate_left
  · cases e
  cases e
  rw [seek_Hits_1.eq]
  unfold seek_Hits_1.H
  simp (maxSteps := 4000000) only [go_sem, Nat.reduceEqDiff, Nat.reduceLT, Nat.reduceAdd, Nat.reduceSub, Nat.reduceLeDiff, List.reduceReplicate, Int.reduceToNat, cmp_Compare_string.C]
  exact post_val rfl rfl
structure SkT where
  block : Int
  turn : Int
  at_ : Int
  refs : List Int
  over : Bool
def SkT.V (s : SkT) : AV := .agg [.int .i64 s.block, .int .i64 s.turn, .int .i64 s.at_, .sl false (.ints .i64 s.refs), .bool s.over]
theorem SkT.norm (s : SkT) (n : Nat) (h : List AObj) : AV.norm n h s.V = s.V := by simp only [SkT.V, go_sem, Nat.reduceEqDiff, Nat.reduceLT, Nat.reduceAdd, Nat.reduceSub, Nat.reduceLeDiff, List.reduceReplicate, Int.reduceToNat]
/-- the heap of one that sorts -/
def hpS (A : SkT) (m : Bytes → Bool) (v : Nat) (l : List RecT) (tl : List Int) : List AObj := .box A.V :: .map (.sb m) :: .row .own v (.recs l) :: tl.map fun n => .box (.int .i64 n)
abbrev hitF : AV := .fn (.func 68) [] []
theorem d0_def : (⟨0, [], [], 0⟩ : RecT) = d0 := rfl
theorem rec_eta (l : List RecT) (i : Nat) : (⟨(l.getD i d0).kind, kyL l i, (l.getD i d0).val, (l.getD i d0).child⟩ : RecT) = l.getD i d0 := rfl
theorem kyL_def (l : List RecT) (i : Nat) : (l.getD i d0).key = kyL l i := rfl
theorem swapL_def (l : List RecT) (i j : Nat) : (l.set i (l.getD j d0)).set j (l.getD i d0) = swapL l i j := rfl
def slices_order2CmpFunc_api_Rec.K : Con := fun args h K => match args with
  | [a0, a1, a2, a3, a4] => slices_order2CmpFunc_api_Rec.H (ctx [(68, seek_Hits_1.C)] [] slices_order2CmpFunc_api_Rec.loops) a0 a1 a2 a3 a4 h K
  | _ => False
theorem slices_order2CmpFunc_api_Rec.spec : SSpec Try.prog 150 slices_order2CmpFunc_api_Rec.K := by
  refine SSpec.of (ctx_ok (F := [(68, seek_Hits_1.C)]) (S := []) (by simpa using seek_Hits_1.spec) (by simp) slices_order2CmpFunc_api_Rec.loops) slices_order2CmpFunc_api_Rec.at slices_order2CmpFunc_api_Rec.nm slices_order2CmpFunc_api_Rec.bd ?_
  intro args h K hC
  unfold slices_order2CmpFunc_api_Rec.K at hC
  split at hC
  · rw [slices_order2CmpFunc_api_Rec.eq]; exact hC
  · exact hC.elim
theorem order2_K (A : SkT) (m : Bytes → Bool) (v : Nat) (l : List RecT) (s : Nat) (n a b : Nat) (hs : s < 1000) (hn : n = l.length) (ha : a < n) (hb : b < n) (hr : roomy n) (K : AOut → List AObj → Prop)
    (hK : ∀ (a' b' : Nat) (s' : Nat), a' < n → b' < n → (s' = s ∨ s' = s + 1) → (a' = a ∨ a' = b) → (b' = a ∨ b' = b) → K (.ret (.tup [.int .i64 a', .int .i64 b'])) (hpS A m v l [(s' : Int)])) :
    slices_order2CmpFunc_api_Rec.K [.sref false 2 v 0 n, .int .i64 a, .int .i64 b, .ptr 3 [], hitF] (hpS A m v l [(s : Int)]) K := by
  unfold slices_order2CmpFunc_api_Rec.K slices_order2CmpFunc_api_Rec.H hpS
  simp only [List.map_cons, List.map_nil, seek_Hits_1.C, d0_def, kyL_def, cmpI_neg, joinW_eq, guard_tt, guard_tf, guard_ft, guard_ff, Int.reduceEq, Int.reduceLT, Int.reduceLE, decide_false, decide_true, Bool.not_false, Bool.not_true, Bool.not_not, not_true_eq_false, not_false_eq_true, true_implies, false_implies, implies_true, and_true, true_and, reduceCtorEq, Bool.and_self, Bool.or_self, Bool.and_true, Bool.true_and, Bool.false_eq_true, if_true, if_false, go_sem, Nat.reduceEqDiff, Nat.reduceLT, Nat.reduceAdd, Nat.reduceSub, Nat.reduceLeDiff, List.reduceReplicate, Int.reduceToNat]
  refine ⟨⟨by omega, by omega⟩, by omega, ⟨by omega, by omega⟩, by omega, fun h => ?_, fun h => ?_⟩
  · rw [wnext (by omega)]
    exact hK b a (s + 1) hb ha (.inr rfl) (.inr rfl) (.inl rfl)
  · exact hK a b s ha hb (.inl rfl) (.inl rfl) (.inr rfl)
def slices_medianCmpFunc_api_Rec.K : Con := fun args h K => match args with
  | [a0, a1, a2, a3, a4, a5] => slices_medianCmpFunc_api_Rec.H (ctx [(68, seek_Hits_1.C)] [(150, slices_order2CmpFunc_api_Rec.K)] slices_medianCmpFunc_api_Rec.loops) a0 a1 a2 a3 a4 a5 h K
  | _ => False
theorem slices_medianCmpFunc_api_Rec.spec : SSpec Try.prog 141 slices_medianCmpFunc_api_Rec.K := by
  refine SSpec.of (ctx_ok (F := [(68, seek_Hits_1.C)]) (S := [(150, slices_order2CmpFunc_api_Rec.K)]) (by simpa using seek_Hits_1.spec) (by simpa using slices_order2CmpFunc_api_Rec.spec) slices_medianCmpFunc_api_Rec.loops) slices_medianCmpFunc_api_Rec.at slices_medianCmpFunc_api_Rec.nm slices_medianCmpFunc_api_Rec.bd ?_
  intro args h K hC
  unfold slices_medianCmpFunc_api_Rec.K at hC
  split at hC
  · rw [slices_medianCmpFunc_api_Rec.eq]; exact hC
  · exact hC.elim
theorem median_K (A : SkT) (m : Bytes → Bool) (v : Nat) (l : List RecT) (s : Nat) (n a b d : Nat) (hs : s < 900) (hn : n = l.length) (ha : a < n) (hb : b < n) (hd : d < n) (hr : roomy n) (K : AOut → List AObj → Prop)
    (hK : ∀ (a' : Nat) (s' : Nat), (a' = a ∨ a' = b ∨ a' = d) → s' ≤ s + 3 → K (.ret (.int .i64 a')) (hpS A m v l [(s' : Int)])) :
    slices_medianCmpFunc_api_Rec.K [.sref false 2 v 0 n, .int .i64 a, .int .i64 b, .int .i64 d, .ptr 3 [], hitF] (hpS A m v l [(s : Int)]) K := by
  unfold slices_medianCmpFunc_api_Rec.K slices_medianCmpFunc_api_Rec.H
  simp only [hpS, List.map_cons, List.map_nil, joinW_eq, guard_tt, guard_tf, guard_ft, guard_ff, Int.reduceEq, Int.reduceLT, Int.reduceLE, decide_false, decide_true, Bool.not_false, Bool.not_true, Bool.not_not, not_true_eq_false, not_false_eq_true, true_implies, false_implies, implies_true, and_true, true_and, reduceCtorEq, Bool.and_self, Bool.or_self, Bool.and_true, Bool.true_and, Bool.false_eq_true, if_true, if_false, go_sem, Nat.reduceEqDiff, Nat.reduceLT, Nat.reduceAdd, Nat.reduceSub, Nat.reduceLeDiff, List.reduceReplicate, Int.reduceToNat]
  refine order2_K A m v l s n a b (by omega) hn ha hb hr _ fun a1 b1 s1 h1 h2 h3 h4 h5 => ?_
  simp only [hpS, List.map_cons, List.map_nil, joinW_eq, guard_tt, guard_tf, guard_ft, guard_ff, Int.reduceEq, Int.reduceLT, Int.reduceLE, decide_false, decide_true, Bool.not_false, Bool.not_true, Bool.not_not, not_true_eq_false, not_false_eq_true, true_implies, false_implies, implies_true, and_true, true_and, reduceCtorEq, Bool.and_self, Bool.or_self, Bool.and_true, Bool.true_and, Bool.false_eq_true, if_true, if_false, go_sem, Nat.reduceEqDiff, Nat.reduceLT, Nat.reduceAdd, Nat.reduceSub, Nat.reduceLeDiff, List.reduceReplicate, Int.reduceToNat]
  refine order2_K A m v l s1 n b1 d (by omega) hn h2 hd hr _ fun b2 d2 s2 g1 g2 g3 g4 g5 => ?_
  simp only [hpS, List.map_cons, List.map_nil, joinW_eq, guard_tt, guard_tf, guard_ft, guard_ff, Int.reduceEq, Int.reduceLT, Int.reduceLE, decide_false, decide_true, Bool.not_false, Bool.not_true, Bool.not_not, not_true_eq_false, not_false_eq_true, true_implies, false_implies, implies_true, and_true, true_and, reduceCtorEq, Bool.and_self, Bool.or_self, Bool.and_true, Bool.true_and, Bool.false_eq_true, if_true, if_false, go_sem, Nat.reduceEqDiff, Nat.reduceLT, Nat.reduceAdd, Nat.reduceSub, Nat.reduceLeDiff, List.reduceReplicate, Int.reduceToNat]
  refine order2_K A m v l s2 n a1 b2 (by omega) hn h1 g1 hr _ fun a3 b3 s3 k1 k2 k3 k4 k5 => ?_
  simp only [hpS, List.map_cons, List.map_nil, joinW_eq, guard_tt, guard_tf, guard_ft, guard_ff, Int.reduceEq, Int.reduceLT, Int.reduceLE, decide_false, decide_true, Bool.not_false, Bool.not_true, Bool.not_not, not_true_eq_false, not_false_eq_true, true_implies, false_implies, implies_true, and_true, true_and, reduceCtorEq, Bool.and_self, Bool.or_self, Bool.and_true, Bool.true_and, Bool.false_eq_true, if_true, if_false, go_sem, Nat.reduceEqDiff, Nat.reduceLT, Nat.reduceAdd, Nat.reduceSub, Nat.reduceLeDiff, List.reduceReplicate, Int.reduceToNat]
  exact hK b3 s3 (by omega) (by omega)
def slices_choosePivotCmpFunc_api_Rec.K : Con := fun args h K => match args with
  | [a0, a1, a2, a3] => slices_choosePivotCmpFunc_api_Rec.H (ctx [] [(141, slices_medianCmpFunc_api_Rec.K)] slices_choosePivotCmpFunc_api_Rec.loops) a0 a1 a2 a3 h K
  | _ => False
theorem slices_choosePivotCmpFunc_api_Rec.spec : SSpec Try.prog 117 slices_choosePivotCmpFunc_api_Rec.K := by
  refine SSpec.of (ctx_ok (F := []) (S := [(141, slices_medianCmpFunc_api_Rec.K)]) (by simp) (by simpa using slices_medianCmpFunc_api_Rec.spec) slices_choosePivotCmpFunc_api_Rec.loops) slices_choosePivotCmpFunc_api_Rec.at slices_choosePivotCmpFunc_api_Rec.nm slices_choosePivotCmpFunc_api_Rec.bd ?_
  intro args h K hC
  unfold slices_choosePivotCmpFunc_api_Rec.K at hC
  split at hC
  · rw [slices_choosePivotCmpFunc_api_Rec.eq]; exact hC
  · exact hC.elim
theorem choose_K (A : SkT) (m : Bytes → Bool) (v : Nat) (l : List RecT) (n a b : Nat) (hn : n = l.length) (hab : a < b) (hbn : b ≤ n) (h50 : b < a + 50) (hr : roomy n) (K : AOut → List AObj → Prop)
    (hK : ∀ (p : Nat) (e : Nat) (s : Int), a ≤ p → p < b → e ≤ 1 → K (.ret (.tup [.int .i64 p, .int .i64 e])) (hpS A m v l [s])) :
    slices_choosePivotCmpFunc_api_Rec.K [.sref false 2 v 0 n, .int .i64 a, .int .i64 b, hitF] (hpS A m v l []) K := by
  unfold slices_choosePivotCmpFunc_api_Rec.K slices_choosePivotCmpFunc_api_Rec.H
  simp only [hpS, List.map_cons, List.map_nil, joinW_eq, guard_tt, guard_tf, guard_ft, guard_ff, Int.reduceEq, Int.reduceLT, Int.reduceLE, decide_false, decide_true, Bool.not_false, Bool.not_true, Bool.not_not, not_true_eq_false, not_false_eq_true, true_implies, false_implies, implies_true, and_true, true_and, reduceCtorEq, Bool.and_self, Bool.or_self, Bool.and_true, Bool.true_and, Bool.false_eq_true, if_true, if_false, go_sem, Nat.reduceEqDiff, Nat.reduceLT, Nat.reduceAdd, Nat.reduceSub, Nat.reduceLeDiff, List.reduceReplicate, Int.reduceToNat]
  have hr' := hr
  unfold roomy at hr'
  have e0 : IntKind.i64.wrap ((b : Int) - a) = ((b - a : Nat) : Int) := by rw [w64 (by omega) (by omega)]; omega
  have e1 : ((b - a : Nat) : Int).tdiv 4 = (((b - a) / 4 : Nat) : Int) := by rw [Int.tdiv_eq_ediv_of_nonneg (by omega)]; omega
  obtain ⟨q, hq⟩ : ∃ q, (b - a) / 4 = q := ⟨_, rfl⟩
  have e2 : IntKind.i64.wrap (q : Int) = q := w64 (by omega) (by omega)
  have e3 : ∀ k : Nat, k ≤ 3 → IntKind.i64.wrap ((a : Int) + IntKind.i64.wrap ((q : Int) * k)) = ((a + q * k : Nat) : Int) := fun k hk => by
    have : q * k ≤ q * 3 := Nat.mul_le_mul_left q hk
    rw [w64 (n := (q : Int) * k) (by rw [← Int.natCast_mul]; omega) (by rw [← Int.natCast_mul]; omega), ← Int.natCast_mul, w64 (by omega) (by omega)]; omega
  have e31 := e3 1 (by decide)
  have e32 := e3 2 (by decide)
  have e33 := e3 3 (by decide)
  simp only [Int.natCast_one, Int.cast_ofNat_Int] at e31 e32 e33
  rw [e0, e1, hq, e2, e31, e32, e33]
  refine ⟨fun h8 => ⟨fun h => absurd h (by omega), fun _ => ?_⟩, fun h8 => ?_⟩
  · refine median_K A m v l 0 n _ _ _ (by decide) hn (by omega) (by omega) (by omega) hr _ fun p s hp hs => ?_
    simp only [hpS, List.map_cons, List.map_nil, joinW_eq, guard_tt, guard_tf, guard_ft, guard_ff, Int.reduceEq, Int.reduceLT, Int.reduceLE, decide_false, decide_true, Bool.not_false, Bool.not_true, Bool.not_not, not_true_eq_false, not_false_eq_true, true_implies, false_implies, implies_true, and_true, true_and, reduceCtorEq, Bool.and_self, Bool.or_self, Bool.and_true, Bool.true_and, Bool.false_eq_true, if_true, if_false, go_sem, Nat.reduceEqDiff, Nat.reduceLT, Nat.reduceAdd, Nat.reduceSub, Nat.reduceLeDiff, List.reduceReplicate, Int.reduceToNat]
    refine ⟨fun h => hK p 1 s (by omega) (by omega) (by decide), fun h => ⟨fun h2 => absurd h2 (by omega), fun _ => hK p 0 s (by omega) (by omega) (by decide)⟩⟩
  · exact hK (a + q * 2) 1 0 (by omega) (by omega) (by decide)
def slices_insertionSortCmpFunc_api_Rec.K : Con := fun args h K => match args with
  | [a0, a1, a2, a3] => slices_insertionSortCmpFunc_api_Rec.H (ctx [(68, seek_Hits_1.C)] [] slices_insertionSortCmpFunc_api_Rec.loops) a0 a1 a2 a3 h K
  | _ => False
theorem slices_insertionSortCmpFunc_api_Rec.spec : SSpec Try.prog 114 slices_insertionSortCmpFunc_api_Rec.K := by
  refine SSpec.of (ctx_ok (F := [(68, seek_Hits_1.C)]) (S := []) (by simpa using seek_Hits_1.spec) (by simp) slices_insertionSortCmpFunc_api_Rec.loops) slices_insertionSortCmpFunc_api_Rec.at slices_insertionSortCmpFunc_api_Rec.nm slices_insertionSortCmpFunc_api_Rec.bd ?_
  intro args h K hC
  unfold slices_insertionSortCmpFunc_api_Rec.K at hC
  split at hC
  · rw [slices_insertionSortCmpFunc_api_Rec.eq]; exact hC
  · exact hC.elim
theorem ins_K (A : SkT) (m : Bytes → Bool) (v : Nat) (l : List RecT) (tl : List Int) (n a b : Nat) (hn : n = l.length) (hab : a ≤ b) (hbn : b ≤ n) (hr : roomy n) (K : AOut → List AObj → Prop)
    (hK : ∀ l', SegP a b l l' → SegS a b l' → K (.ret (.tup [])) (hpS A m v l' tl)) :
    slices_insertionSortCmpFunc_api_Rec.K [.sref false 2 v 0 n, .int .i64 a, .int .i64 b, hitF] (hpS A m v l tl) K := by
  have hr' := hr
  unfold roomy at hr'
  obtain ⟨T, hT, hTn⟩ : ∃ T, tl.map (fun n => AObj.box (.int .i64 n)) = T ∧ ∀ k h, T.map (normO k h) = T := ⟨_, rfl, fun k h => by
    rw [List.map_map]; exact List.map_congr_left fun _ _ => rfl⟩
  have h2 : 2 < T.length + 1 + 1 + 1 := by omega
  unfold slices_insertionSortCmpFunc_api_Rec.K slices_insertionSortCmpFunc_api_Rec.H
  simp only [hpS, hT, hTn, SkT.norm, h2, joinW_eq, guard_tt, guard_tf, guard_ft, guard_ff, Int.reduceEq, Int.reduceLT, Int.reduceLE, decide_false, decide_true, Bool.not_false, Bool.not_true, Bool.not_not, not_true_eq_false, not_false_eq_true, true_implies, false_implies, implies_true, and_true, true_and, reduceCtorEq, Bool.and_self, Bool.or_self, Bool.and_true, Bool.true_and, Bool.false_eq_true, if_true, if_false, go_sem, Nat.reduceEqDiff, Nat.reduceLT, Nat.reduceAdd, Nat.reduceSub, Nat.reduceLeDiff, List.reduceReplicate, Int.reduceToNat] at hK ⊢
  rw [wnext (by omega)]
  unfold slices_insertionSortCmpFunc_api_Rec.L1
  refine loop1 (σ := List RecT × Nat) (fun s => .int .i64 s.2) (fun s => .box A.V :: .map (.sb m) :: .row .own v (.recs s.1) :: T) (fun s => n + 1 - s.2) (fun s => a + 1 ≤ s.2 ∧ (s.2 ≤ b ∨ s.2 = a + 1) ∧ SegP a b l s.1 ∧ SegS a s.2 s.1) (l, a + 1) rfl rfl ⟨by simp, by simp, SegP.refl, SegS.one (by simp)⟩ ?_
  rintro I back ⟨l1, i⟩ ⟨hi1, hi2, hp, hs⟩
  simp only at hi1 hi2 hp hs ⊢
  have hl1 := hp.len
  simp only [hTn, SkT.norm, h2, joinW_eq, joinW_eq, guard_tt, guard_tf, guard_ft, guard_ff, Int.reduceEq, Int.reduceLT, Int.reduceLE, decide_false, decide_true, Bool.not_false, Bool.not_true, Bool.not_not, not_true_eq_false, not_false_eq_true, true_implies, false_implies, implies_true, and_true, true_and, reduceCtorEq, Bool.and_self, Bool.or_self, Bool.and_true, Bool.true_and, Bool.false_eq_true, if_true, if_false, go_sem, Nat.reduceEqDiff, Nat.reduceLT, Nat.reduceAdd, Nat.reduceSub, Nat.reduceLeDiff, List.reduceReplicate, Int.reduceToNat]
  refine ⟨fun hlt => ?_, fun hge => hK l1 hp fun p q h1 h2 h3 => hs p q h1 h2 (by omega)⟩
  unfold slices_insertionSortCmpFunc_api_Rec.L2
  refine loop1 (σ := List RecT × Nat) (fun s => .int .i64 s.2) (fun s => .box A.V :: .map (.sb m) :: .row .own v (.recs s.1) :: T) (fun s => s.2) (fun s => a ≤ s.2 ∧ s.2 ≤ i ∧ SegP a b l s.1 ∧ InsS a s.2 (i + 1) s.1) (l1, i) rfl rfl ⟨by simp only; omega, by simp, hp, InsS.begin hs⟩ ?_
  rintro I2 back2 ⟨l2, j⟩ ⟨hj1, hj2, hp2, hs2⟩
  simp only at hj1 hj2 hp2 hs2 ⊢
  have hl2 := hp2.len
  have hnx : SegS a (i + 1) l2 → ∃ m1, m1 < n + 1 - i ∧ I m1 [.int .i64 (IntKind.i64.wrap ((i : Int) + 1))] (.box A.V :: .map (.sb m) :: .row .own v (.recs l2) :: T) := fun h => back (l2, i + 1) (by simp only; omega) (by simp only; rw [wnext (by omega)]) rfl ⟨by simp only; omega, .inl (by simp only; omega), hp2, h⟩
  by_cases hja : a < j
  · have e1 : IntKind.i64.wrap ((j : Int) - 1) = ((j - 1 : Nat) : Int) := by rw [w64 (by omega) (by omega)]; omega
    have d1 : decide ((a : Int) < (j : Int)) = true := decide_eq_true (by omega)
    simp only [hTn, SkT.norm, h2, joinW_eq, d1, e1, Int.toNat_natCast, seek_Hits_1.C, d0_def, kyL_def, cmpI_neg, rec_eta, swapL_def, List.length_set, joinW_eq, guard_tt, guard_tf, guard_ft, guard_ff, Int.reduceEq, Int.reduceLT, Int.reduceLE, decide_false, decide_true, Bool.not_false, Bool.not_true, Bool.not_not, not_true_eq_false, not_false_eq_true, true_implies, false_implies, implies_true, and_true, true_and, reduceCtorEq, Bool.and_self, Bool.or_self, Bool.and_true, Bool.true_and, Bool.false_eq_true, if_true, if_false, go_sem, Nat.reduceEqDiff, Nat.reduceLT, Nat.reduceAdd, Nat.reduceSub, Nat.reduceLeDiff, List.reduceReplicate, Int.reduceToNat]
    refine ⟨⟨by omega, by omega⟩, by omega, ⟨by omega, by omega⟩, by omega, fun h => ⟨⟨by omega, by omega⟩, by omega, ⟨by omega, by omega⟩, by omega, ⟨by omega, by omega⟩, by omega, ⟨by omega, by omega⟩, by omega, back2 (swapL l2 j (j - 1), j - 1) (by simp only; omega) rfl rfl ⟨by simp only; omega, by simp only; omega, hp2.trans (SegP.swap (by omega) (by omega) (by omega) (by omega) (by omega)), hs2.step hja (by omega) (by omega) h⟩⟩, fun h => hnx (hs2.done hj1 (by omega) (.inr (by unfold leB; simpa using h)))⟩
  · obtain rfl : j = a := by omega
    have d1 : decide ((j : Int) < (j : Int)) = false := decide_eq_false (by omega)
    simp only [hTn, SkT.norm, h2, joinW_eq, d1, joinW_eq, guard_tt, guard_tf, guard_ft, guard_ff, Int.reduceEq, Int.reduceLT, Int.reduceLE, decide_false, decide_true, Bool.not_false, Bool.not_true, Bool.not_not, not_true_eq_false, not_false_eq_true, true_implies, false_implies, implies_true, and_true, true_and, reduceCtorEq, Bool.and_self, Bool.or_self, Bool.and_true, Bool.true_and, Bool.false_eq_true, if_true, if_false, go_sem, Nat.reduceEqDiff, Nat.reduceLT, Nat.reduceAdd, Nat.reduceSub, Nat.reduceLeDiff, List.reduceReplicate, Int.reduceToNat]
    exact hnx (hs2.done (Nat.le_refl _) (by omega) (.inl rfl))
def slices_partialInsertionSortCmpFunc_api_Rec.K : Con := fun args h K => match args with
  | [a0, a1, a2, a3] => slices_partialInsertionSortCmpFunc_api_Rec.H (ctx [(68, seek_Hits_1.C)] [] slices_partialInsertionSortCmpFunc_api_Rec.loops) a0 a1 a2 a3 h K
  | _ => False
theorem slices_partialInsertionSortCmpFunc_api_Rec.spec : SSpec Try.prog 119 slices_partialInsertionSortCmpFunc_api_Rec.K := by
  refine SSpec.of (ctx_ok (F := [(68, seek_Hits_1.C)]) (S := []) (by simpa using seek_Hits_1.spec) (by simp) slices_partialInsertionSortCmpFunc_api_Rec.loops) slices_partialInsertionSortCmpFunc_api_Rec.at slices_partialInsertionSortCmpFunc_api_Rec.nm slices_partialInsertionSortCmpFunc_api_Rec.bd ?_
  intro args h K hC
  unfold slices_partialInsertionSortCmpFunc_api_Rec.K at hC
  split at hC
  · rw [slices_partialInsertionSortCmpFunc_api_Rec.eq]; exact hC
  · exact hC.elim
theorem part_K (A : SkT) (m : Bytes → Bool) (v : Nat) (l : List RecT) (tl : List Int) (n a b : Nat) (hn : n = l.length) (hab : a < b) (hbn : b ≤ n) (h50 : b < a + 50) (hr : roomy n) (K : AOut → List AObj → Prop)
    (hK1 : SegS a b l → K (.ret (.bool true)) (hpS A m v l tl)) (hK2 : K (.ret (.bool false)) (hpS A m v l tl)) :
    slices_partialInsertionSortCmpFunc_api_Rec.K [.sref false 2 v 0 n, .int .i64 a, .int .i64 b, hitF] (hpS A m v l tl) K := by
  have hr' := hr
  unfold roomy at hr'
  obtain ⟨T, hT, hTn⟩ : ∃ T, tl.map (fun n => AObj.box (.int .i64 n)) = T ∧ ∀ k h, T.map (normO k h) = T := ⟨_, rfl, fun k h => by
    rw [List.map_map]; exact List.map_congr_left fun _ _ => rfl⟩
  have h2 : 2 < T.length + 1 + 1 + 1 := by omega
  unfold slices_partialInsertionSortCmpFunc_api_Rec.K slices_partialInsertionSortCmpFunc_api_Rec.H
  simp only [hpS, hT, hTn, SkT.norm, h2, joinW_eq, guard_tt, guard_tf, guard_ft, guard_ff, Int.reduceEq, Int.reduceLT, Int.reduceLE, decide_false, decide_true, Bool.not_false, Bool.not_true, Bool.not_not, not_true_eq_false, not_false_eq_true, true_implies, false_implies, implies_true, and_true, true_and, reduceCtorEq, Bool.and_self, Bool.or_self, Bool.and_true, Bool.true_and, Bool.false_eq_true, if_true, if_false, go_sem, Nat.reduceEqDiff, Nat.reduceLT, Nat.reduceAdd, Nat.reduceSub, Nat.reduceLeDiff, List.reduceReplicate, Int.reduceToNat] at hK1 hK2 ⊢
  rw [wnext (by omega)]
  unfold slices_partialInsertionSortCmpFunc_api_Rec.L1
  refine loop2 (σ := Unit) (fun s => .int .i64 (a + 1 : Nat)) (fun s => .int .i64 0) (fun s => .box A.V :: .map (.sb m) :: .row .own v (.recs l) :: T) (fun s => 0) (fun s => True) () rfl rfl trivial ?_
  rintro I back _ _
  simp only [hTn, SkT.norm, h2, joinW_eq, joinW_eq, guard_tt, guard_tf, guard_ft, guard_ff, Int.reduceEq, Int.reduceLT, Int.reduceLE, decide_false, decide_true, Bool.not_false, Bool.not_true, Bool.not_not, not_true_eq_false, not_false_eq_true, true_implies, false_implies, implies_true, and_true, true_and, reduceCtorEq, Bool.and_self, Bool.or_self, Bool.and_true, Bool.true_and, Bool.false_eq_true, if_true, if_false, go_sem, Nat.reduceEqDiff, Nat.reduceLT, Nat.reduceAdd, Nat.reduceSub, Nat.reduceLeDiff, List.reduceReplicate, Int.reduceToNat]
  unfold slices_partialInsertionSortCmpFunc_api_Rec.L2
  refine loop1 (σ := Nat) (fun i => .int .i64 i) (fun s => .box A.V :: .map (.sb m) :: .row .own v (.recs l) :: T) (fun i => b - i) (fun i => a + 1 ≤ i ∧ i ≤ b ∧ SegS a i l) (a + 1) rfl rfl ⟨by omega, by omega, SegS.one (by omega)⟩ ?_
  rintro I2 back2 i ⟨hi1, hi2, hs⟩
  have e1 : IntKind.i64.wrap ((i : Int) - 1) = ((i - 1 : Nat) : Int) := by rw [w64 (by omega) (by omega)]; omega
  have e2 : IntKind.i64.wrap ((b : Int) - a) = ((b - a : Nat) : Int) := by rw [w64 (by omega) (by omega)]; omega
  by_cases hib : i < b
  · have d1 : decide ((i : Int) < (b : Int)) = true := decide_eq_true (by omega)
    simp only [hTn, SkT.norm, h2, joinW_eq, d1, e1, e2, Int.toNat_natCast, seek_Hits_1.C, d0_def, kyL_def, cmpI_neg, rec_eta, swapL_def, List.length_set, joinW_eq, guard_tt, guard_tf, guard_ft, guard_ff, Int.reduceEq, Int.reduceLT, Int.reduceLE, decide_false, decide_true, Bool.not_false, Bool.not_true, Bool.not_not, not_true_eq_false, not_false_eq_true, true_implies, false_implies, implies_true, and_true, true_and, reduceCtorEq, Bool.and_self, Bool.or_self, Bool.and_true, Bool.true_and, Bool.false_eq_true, if_true, if_false, go_sem, Nat.reduceEqDiff, Nat.reduceLT, Nat.reduceAdd, Nat.reduceSub, Nat.reduceLeDiff, List.reduceReplicate, Int.reduceToNat]
    refine ⟨⟨by omega, by omega⟩, by omega, ⟨by omega, by omega⟩, by omega, ?_⟩
    cases hlt : ltB (kyL l i) (kyL l (i - 1)) with
    | false =>
      simp only [joinW_eq, guard_tt, guard_tf, guard_ft, guard_ff, Int.reduceEq, Int.reduceLT, Int.reduceLE, decide_false, decide_true, Bool.not_false, Bool.not_true, Bool.not_not, not_true_eq_false, not_false_eq_true, true_implies, false_implies, implies_true, and_true, true_and, reduceCtorEq, Bool.and_self, Bool.or_self, Bool.and_true, Bool.true_and, Bool.false_eq_true, if_true, if_false, go_sem, Nat.reduceEqDiff, Nat.reduceLT, Nat.reduceAdd, Nat.reduceSub, Nat.reduceLeDiff, List.reduceReplicate, Int.reduceToNat]
      refine back2 (i + 1) (by omega) (by rw [wnext (by omega)]) rfl ⟨by omega, by omega, ?_⟩
      intro p q h1 h2 h3
      by_cases hq : q = i
      · subst hq
        by_cases hp : p = q - 1
        · subst hp; exact hlt
        · exact leB_trans (hs p (q - 1) h1 (by omega) (by omega)) hlt
      · exact hs p q h1 h2 (by omega)
    | true =>
      simp only [joinW_eq, guard_tt, guard_tf, guard_ft, guard_ff, Int.reduceEq, Int.reduceLT, Int.reduceLE, decide_false, decide_true, Bool.not_false, Bool.not_true, Bool.not_not, not_true_eq_false, not_false_eq_true, true_implies, false_implies, implies_true, and_true, true_and, reduceCtorEq, Bool.and_self, Bool.or_self, Bool.and_true, Bool.true_and, Bool.false_eq_true, if_true, if_false, go_sem, Nat.reduceEqDiff, Nat.reduceLT, Nat.reduceAdd, Nat.reduceSub, Nat.reduceLeDiff, List.reduceReplicate, Int.reduceToNat]
      exact ⟨fun h => absurd h (by omega), fun _ => ⟨fun _ => hK2, fun h => absurd h (by omega)⟩⟩
  · obtain rfl : i = b := by omega
    have d1 : decide ((i : Int) < (i : Int)) = false := decide_eq_false (by omega)
    simp only [hTn, SkT.norm, h2, joinW_eq, d1, decide_true, joinW_eq, guard_tt, guard_tf, guard_ft, guard_ff, Int.reduceEq, Int.reduceLT, Int.reduceLE, decide_false, decide_true, Bool.not_false, Bool.not_true, Bool.not_not, not_true_eq_false, not_false_eq_true, true_implies, false_implies, implies_true, and_true, true_and, reduceCtorEq, Bool.and_self, Bool.or_self, Bool.and_true, Bool.true_and, Bool.false_eq_true, if_true, if_false, go_sem, Nat.reduceEqDiff, Nat.reduceLT, Nat.reduceAdd, Nat.reduceSub, Nat.reduceLeDiff, List.reduceReplicate, Int.reduceToNat]
    exact hK1 hs
def slices_partitionCmpFunc_api_Rec.K : Con := fun args h K => match args with
  | [a0, a1, a2, a3, a4] => slices_partitionCmpFunc_api_Rec.H (ctx [(68, seek_Hits_1.C)] [] slices_partitionCmpFunc_api_Rec.loops) a0 a1 a2 a3 a4 h K
  | _ => False
theorem slices_partitionCmpFunc_api_Rec.spec : SSpec Try.prog 121 slices_partitionCmpFunc_api_Rec.K := by
  refine SSpec.of (ctx_ok (F := [(68, seek_Hits_1.C)]) (S := []) (by simpa using seek_Hits_1.spec) (by simp) slices_partitionCmpFunc_api_Rec.loops) slices_partitionCmpFunc_api_Rec.at slices_partitionCmpFunc_api_Rec.nm slices_partitionCmpFunc_api_Rec.bd ?_
  intro args h K hC
  unfold slices_partitionCmpFunc_api_Rec.K at hC
  split at hC
  · rw [slices_partitionCmpFunc_api_Rec.eq]; exact hC
  · exact hC.elim
/-- how far a partition has come -/
def PartS (a b i j : Nat) (l : List RecT) : Prop := a + 1 ≤ i ∧ i ≤ j + 1 ∧ j < b ∧ a ≤ j ∧ (∀ k, a < k → k < i → leB (kyL l k) (kyL l a)) ∧ ∀ k, j < k → k < b → leB (kyL l a) (kyL l k)
theorem PartS.swap {a b i j : Nat} {l : List RecT} (h : PartS a b i j l) (hij : i < j) (hb : b ≤ l.length) (h1 : leB (kyL l a) (kyL l i)) (h2 : leB (kyL l j) (kyL l a)) : PartS a b (i + 1) (j - 1) (swapL l i j) := by
  obtain ⟨q1, q2, q3, q4, q5, q6⟩ := h
  have hil : i < l.length := by omega
  have hjl : j < l.length := by omega
  have ea : kyL (swapL l i j) a = kyL l a := by rw [kyL_swap hil hjl, if_neg (by omega), if_neg (by omega)]
  refine ⟨by omega, by omega, by omega, by omega, fun k k1 k2 => ?_, fun k k1 k2 => ?_⟩
  · rw [ea, kyL_swap hil hjl, if_neg (by omega)]
    by_cases e : k = i
    · rw [if_pos e]; exact h2
    · rw [if_neg e]; exact q5 k k1 (by omega)
  · rw [ea, kyL_swap hil hjl]
    by_cases e : k = j
    · rw [if_pos e]; exact h1
    · rw [if_neg e, if_neg (by omega)]; exact q6 k (by omega) k2
theorem PartS.fin {a b i j : Nat} {l : List RecT} (h : PartS a b i j l) (hij : j < i) (hb : b ≤ l.length) : Parted a j b (swapL l a j) := by
  obtain ⟨q1, q2, q3, q4, q5, q6⟩ := h
  have hal : a < l.length := by omega
  have hjl : j < l.length := by omega
  have ej : kyL (swapL l a j) j = kyL l a := by rw [kyL_swap hal hjl, if_pos rfl]
  refine ⟨fun k k1 k2 => ?_, fun k k1 k2 => ?_⟩
  · rw [ej, kyL_swap hal hjl, if_neg (by omega)]
    by_cases e : k = a
    · rw [if_pos e]; exact q5 j (by omega) (by omega)
    · rw [if_neg e]; exact q5 k (by omega) (by omega)
  · rw [ej, kyL_swap hal hjl, if_neg (by omega), if_neg (by omega)]; exact q6 k k1 k2
theorem swapL_comm {l : List RecT} {i j : Nat} (hi : i < l.length) (hj : j < l.length) : swapL l i j = swapL l j i := by
  refine List.ext_getElem? fun k => ?_
  have h : ∀ k, (swapL l i j).getD k d0 = (swapL l j i).getD k d0 := fun k => by
    rw [swapL_get hi hj, swapL_get hj hi]
    by_cases e1 : k = j
    · by_cases e2 : k = i
      · rw [if_pos e1, if_pos e2, ← e1, ← e2]
      · rw [if_pos e1, if_neg e2, if_pos e1]
    · rw [if_neg e1, if_neg e1]
  rcases Nat.lt_or_ge k l.length with hk | hk
  · have := h k
    rw [List.getD_eq_getElem?_getD, List.getD_eq_getElem?_getD, List.getElem?_eq_getElem (by rw [swapL_len]; exact hk), List.getElem?_eq_getElem (by rw [swapL_len]; exact hk)] at this
    rw [List.getElem?_eq_getElem (by rw [swapL_len]; exact hk), List.getElem?_eq_getElem (by rw [swapL_len]; exact hk)]
    exact congrArg some this
  · rw [List.getElem?_eq_none (by rw [swapL_len]; exact hk), List.getElem?_eq_none (by rw [swapL_len]; exact hk)]
theorem partition_L4 : slices_partitionCmpFunc_api_Rec.L4 = slices_partitionCmpFunc_api_Rec.L1 := rfl
theorem partition_L5 : slices_partitionCmpFunc_api_Rec.L5 = slices_partitionCmpFunc_api_Rec.L2 := rfl
theorem partition_up (c : Ctx) (hd : c.drawn = false) (hf : c.envF 68 = seek_Hits_1.C) (A : SkT) (m : Bytes → Bool) (v : Nat) (l : List RecT) (T : List AObj) (n a j i0 : Nat) (hTn : ∀ k h, T.map (normO k h) = T) (hn : n = l.length) (ha : a < i0) (hj : j < n) (hij : i0 ≤ j + 1) (hr : roomy n)
    (J : AV → AV → AV → AV → AV → List AObj → Prop) (K : AOut → List AObj → Prop)
    (hJ : ∀ i : Nat, i0 ≤ i → i ≤ j + 1 → (∀ k, i0 ≤ k → k < i → leB (kyL l k) (kyL l a)) → (i ≤ j → leB (kyL l a) (kyL l i)) → J (.sref false 2 v 0 n) (.int .i64 a) hitF (.int .i64 i) (.int .i64 j) (.box A.V :: .map (.sb m) :: .row .own v (.recs l) :: T)) :
    slices_partitionCmpFunc_api_Rec.L1 c J K [.int .i64 i0] (.box A.V :: .map (.sb m) :: .row .own v (.recs l) :: T) (T.length + 1 + 1 + 1) (.sref false 2 v 0 n) (.int .i64 a) hitF (.int .i64 j) := by
  have hr' := hr
  unfold roomy at hr'
  have h2 : 2 < T.length + 1 + 1 + 1 := by omega
  unfold slices_partitionCmpFunc_api_Rec.L1
  refine loop1 (σ := Nat) (fun i => .int .i64 i) (fun s => .box A.V :: .map (.sb m) :: .row .own v (.recs l) :: T) (fun i => j + 1 - i) (fun i => i0 ≤ i ∧ i ≤ j + 1 ∧ ∀ k, i0 ≤ k → k < i → leB (kyL l k) (kyL l a)) i0 rfl rfl ⟨Nat.le_refl _, hij, fun k h1 h2 => by omega⟩ ?_
  rintro I back i ⟨hi1, hi2, hall⟩
  by_cases hle : i ≤ j
  · have d1 : decide ((i : Int) ≤ (j : Int)) = true := decide_eq_true (by omega)
    simp only [hTn, SkT.norm, h2, joinW_eq, d1, hd, hf, Int.toNat_natCast, seek_Hits_1.C, d0_def, kyL_def, cmpI_neg, joinW_eq, guard_tt, guard_tf, guard_ft, guard_ff, Int.reduceEq, Int.reduceLT, Int.reduceLE, decide_false, decide_true, Bool.not_false, Bool.not_true, Bool.not_not, not_true_eq_false, not_false_eq_true, true_implies, false_implies, implies_true, and_true, true_and, reduceCtorEq, Bool.and_self, Bool.or_self, Bool.and_true, Bool.true_and, Bool.false_eq_true, if_true, if_false, go_sem, Nat.reduceEqDiff, Nat.reduceLT, Nat.reduceAdd, Nat.reduceSub, Nat.reduceLeDiff, List.reduceReplicate, Int.reduceToNat]
    refine ⟨⟨by omega, by omega⟩, by omega, ⟨by omega, by omega⟩, by omega, fun h => ?_, fun h => hJ i hi1 hi2 hall fun _ => by unfold leB; simpa using h⟩
    refine back (i + 1) (by omega) (by rw [wnext (by omega)]) rfl ⟨by omega, by omega, fun k k1 k2 => ?_⟩
    by_cases e : k = i
    · subst e; exact leB_of_lt h
    · exact hall k k1 (by omega)
  · have d1 : decide ((i : Int) ≤ (j : Int)) = false := decide_eq_false (by omega)
    simp only [hTn, SkT.norm, h2, joinW_eq, d1, joinW_eq, guard_tt, guard_tf, guard_ft, guard_ff, Int.reduceEq, Int.reduceLT, Int.reduceLE, decide_false, decide_true, Bool.not_false, Bool.not_true, Bool.not_not, not_true_eq_false, not_false_eq_true, true_implies, false_implies, implies_true, and_true, true_and, reduceCtorEq, Bool.and_self, Bool.or_self, Bool.and_true, Bool.true_and, Bool.false_eq_true, if_true, if_false, go_sem, Nat.reduceEqDiff, Nat.reduceLT, Nat.reduceAdd, Nat.reduceSub, Nat.reduceLeDiff, List.reduceReplicate, Int.reduceToNat]
    exact hJ i hi1 hi2 hall fun h => absurd h hle
theorem partition_down (c : Ctx) (hd : c.drawn = false) (hf : c.envF 68 = seek_Hits_1.C) (A : SkT) (m : Bytes → Bool) (v : Nat) (l : List RecT) (T : List AObj) (n a i j0 : Nat) (hTn : ∀ k h, T.map (normO k h) = T) (hn : n = l.length) (ha : a < i) (hj : j0 < n) (hij : i ≤ j0 + 1) (hr : roomy n)
    (J : AV → AV → AV → AV → AV → List AObj → Prop) (K : AOut → List AObj → Prop)
    (hJ : ∀ j : Nat, j ≤ j0 → i ≤ j + 1 → (∀ k, j < k → k ≤ j0 → leB (kyL l a) (kyL l k)) → (i ≤ j → ltB (kyL l j) (kyL l a) = true) → J (.sref false 2 v 0 n) (.int .i64 a) hitF (.int .i64 i) (.int .i64 j) (.box A.V :: .map (.sb m) :: .row .own v (.recs l) :: T)) :
    slices_partitionCmpFunc_api_Rec.L2 c J K [.int .i64 j0] (.box A.V :: .map (.sb m) :: .row .own v (.recs l) :: T) (T.length + 1 + 1 + 1) (.sref false 2 v 0 n) (.int .i64 a) hitF (.int .i64 i) := by
  have hr' := hr
  unfold roomy at hr'
  have h2 : 2 < T.length + 1 + 1 + 1 := by omega
  unfold slices_partitionCmpFunc_api_Rec.L2
  refine loop1 (σ := Nat) (fun i => .int .i64 i) (fun s => .box A.V :: .map (.sb m) :: .row .own v (.recs l) :: T) (fun j => j) (fun j => j ≤ j0 ∧ i ≤ j + 1 ∧ ∀ k, j < k → k ≤ j0 → leB (kyL l a) (kyL l k)) j0 rfl rfl ⟨Nat.le_refl _, hij, fun k h1 h2 => by omega⟩ ?_
  rintro I back j ⟨hj1, hj2, hall⟩
  by_cases hle : i ≤ j
  · have d1 : decide ((i : Int) ≤ (j : Int)) = true := decide_eq_true (by omega)
    have e1 : IntKind.i64.wrap ((j : Int) - 1) = ((j - 1 : Nat) : Int) := by rw [w64 (by omega) (by omega)]; omega
    simp only [hTn, SkT.norm, h2, joinW_eq, d1, e1, hd, hf, Int.toNat_natCast, seek_Hits_1.C, d0_def, kyL_def, cmpI_neg, joinW_eq, guard_tt, guard_tf, guard_ft, guard_ff, Int.reduceEq, Int.reduceLT, Int.reduceLE, decide_false, decide_true, Bool.not_false, Bool.not_true, Bool.not_not, not_true_eq_false, not_false_eq_true, true_implies, false_implies, implies_true, and_true, true_and, reduceCtorEq, Bool.and_self, Bool.or_self, Bool.and_true, Bool.true_and, Bool.false_eq_true, if_true, if_false, go_sem, Nat.reduceEqDiff, Nat.reduceLT, Nat.reduceAdd, Nat.reduceSub, Nat.reduceLeDiff, List.reduceReplicate, Int.reduceToNat]
    refine ⟨⟨by omega, by omega⟩, by omega, ⟨by omega, by omega⟩, by omega, ?_⟩
    cases hlt : ltB (kyL l j) (kyL l a) with
    | false =>
      simp only [joinW_eq, guard_tt, guard_tf, guard_ft, guard_ff, Int.reduceEq, Int.reduceLT, Int.reduceLE, decide_false, decide_true, Bool.not_false, Bool.not_true, Bool.not_not, not_true_eq_false, not_false_eq_true, true_implies, false_implies, implies_true, and_true, true_and, reduceCtorEq, Bool.and_self, Bool.or_self, Bool.and_true, Bool.true_and, Bool.false_eq_true, if_true, if_false, go_sem, Nat.reduceEqDiff, Nat.reduceLT, Nat.reduceAdd, Nat.reduceSub, Nat.reduceLeDiff, List.reduceReplicate, Int.reduceToNat]
      refine back (j - 1) (by omega) rfl rfl ⟨by omega, by omega, fun k k1 k2 => ?_⟩
      by_cases e : k = j
      · subst e; exact hlt
      · exact hall k (by omega) k2
    | true =>
      simp only [joinW_eq, guard_tt, guard_tf, guard_ft, guard_ff, Int.reduceEq, Int.reduceLT, Int.reduceLE, decide_false, decide_true, Bool.not_false, Bool.not_true, Bool.not_not, not_true_eq_false, not_false_eq_true, true_implies, false_implies, implies_true, and_true, true_and, reduceCtorEq, Bool.and_self, Bool.or_self, Bool.and_true, Bool.true_and, Bool.false_eq_true, if_true, if_false, go_sem, Nat.reduceEqDiff, Nat.reduceLT, Nat.reduceAdd, Nat.reduceSub, Nat.reduceLeDiff, List.reduceReplicate, Int.reduceToNat]
      exact hJ j hj1 hj2 hall fun _ => hlt
  · have d1 : decide ((i : Int) ≤ (j : Int)) = false := decide_eq_false (by omega)
    simp only [hTn, SkT.norm, h2, joinW_eq, d1, joinW_eq, guard_tt, guard_tf, guard_ft, guard_ff, Int.reduceEq, Int.reduceLT, Int.reduceLE, decide_false, decide_true, Bool.not_false, Bool.not_true, Bool.not_not, not_true_eq_false, not_false_eq_true, true_implies, false_implies, implies_true, and_true, true_and, reduceCtorEq, Bool.and_self, Bool.or_self, Bool.and_true, Bool.true_and, Bool.false_eq_true, if_true, if_false, go_sem, Nat.reduceEqDiff, Nat.reduceLT, Nat.reduceAdd, Nat.reduceSub, Nat.reduceLeDiff, List.reduceReplicate, Int.reduceToNat]
    exact hJ j hj1 hj2 hall fun h => absurd h hle
theorem partition_K (A : SkT) (m : Bytes → Bool) (v : Nat) (l : List RecT) (tl : List Int) (n a b p : Nat) (hn : n = l.length) (hab : a + 1 < b) (hbn : b ≤ n) (hp : a ≤ p) (hpb : p < b) (hr : roomy n) (K : AOut → List AObj → Prop)
    (hK : ∀ l' q al, SegP a b l l' → a ≤ q → q < b → Parted a q b l' → K (.ret (.tup [.int .i64 q, .bool al])) (hpS A m v l' tl)) :
    slices_partitionCmpFunc_api_Rec.K [.sref false 2 v 0 n, .int .i64 a, .int .i64 b, .int .i64 p, hitF] (hpS A m v l tl) K := by
  have hr' := hr
  unfold roomy at hr'
  obtain ⟨T, hT, hTn⟩ : ∃ T, tl.map (fun n => AObj.box (.int .i64 n)) = T ∧ ∀ k h, T.map (normO k h) = T := ⟨_, rfl, fun k h => by
    rw [List.map_map]; exact List.map_congr_left fun _ _ => rfl⟩
  have h2 : 2 < T.length + 1 + 1 + 1 := by omega
  have e1 : IntKind.i64.wrap ((b : Int) - 1) = ((b - 1 : Nat) : Int) := by rw [w64 (by omega) (by omega)]; omega
  unfold slices_partitionCmpFunc_api_Rec.K slices_partitionCmpFunc_api_Rec.H
  simp only [hpS, hT, hTn, SkT.norm, h2, e1, wnext (show a < 4611686018427387904 by omega), joinW_eq, Int.toNat_natCast, d0_def, kyL_def, rec_eta, swapL_def, List.length_set, joinW_eq, guard_tt, guard_tf, guard_ft, guard_ff, Int.reduceEq, Int.reduceLT, Int.reduceLE, decide_false, decide_true, Bool.not_false, Bool.not_true, Bool.not_not, not_true_eq_false, not_false_eq_true, true_implies, false_implies, implies_true, and_true, true_and, reduceCtorEq, Bool.and_self, Bool.or_self, Bool.and_true, Bool.true_and, Bool.false_eq_true, if_true, if_false, go_sem, Nat.reduceEqDiff, Nat.reduceLT, Nat.reduceAdd, Nat.reduceSub, Nat.reduceLeDiff, List.reduceReplicate, Int.reduceToNat] at hK ⊢
  refine ⟨⟨by omega, by omega⟩, by omega, ⟨by omega, by omega⟩, by omega, ⟨by omega, by omega⟩, by omega, ⟨by omega, by omega⟩, by omega, ?_⟩
  have hp1 : SegP a b l (swapL l a p) := SegP.swap (by omega) (by omega) (by omega) (by omega) (by omega)
  generalize swapL l a p = l1 at *
  have hl1 := hp1.len
  refine partition_up _ rfl rfl A m v l1 T n a (b - 1) (a + 1) hTn (by omega) (by omega) (by omega) (by omega) hr _ _ fun i hi1 hi2 hi3 hi4 => ?_
  simp only [hTn, SkT.norm, h2, joinW_eq, guard_tt, guard_tf, guard_ft, guard_ff, Int.reduceEq, Int.reduceLT, Int.reduceLE, decide_false, decide_true, Bool.not_false, Bool.not_true, Bool.not_not, not_true_eq_false, not_false_eq_true, true_implies, false_implies, implies_true, and_true, true_and, reduceCtorEq, Bool.and_self, Bool.or_self, Bool.and_true, Bool.true_and, Bool.false_eq_true, if_true, if_false, go_sem, Nat.reduceEqDiff, Nat.reduceLT, Nat.reduceAdd, Nat.reduceSub, Nat.reduceLeDiff, List.reduceReplicate, Int.reduceToNat]
  refine partition_down _ rfl rfl A m v l1 T n a i (b - 1) hTn (by omega) (by omega) (by omega) (by omega) hr _ _ fun j hj1 hj2 hj3 hj4 => ?_
  have hS : PartS a b i j l1 := ⟨hi1, hj2, by omega, by omega, fun k k1 k2 => hi3 k (by omega) k2, fun k k1 k2 => hj3 k k1 (by omega)⟩
  have e2 : j ≠ 0 → IntKind.i64.wrap ((j : Int) - 1) = ((j - 1 : Nat) : Int) := fun h => by rw [w64 (by omega) (by omega)]; omega
  simp only [hTn, SkT.norm, h2, wnext (show i < 4611686018427387904 by omega), joinW_eq, Int.toNat_natCast, d0_def, kyL_def, rec_eta, swapL_def, List.length_set, joinW_eq, guard_tt, guard_tf, guard_ft, guard_ff, Int.reduceEq, Int.reduceLT, Int.reduceLE, decide_false, decide_true, Bool.not_false, Bool.not_true, Bool.not_not, not_true_eq_false, not_false_eq_true, true_implies, false_implies, implies_true, and_true, true_and, reduceCtorEq, Bool.and_self, Bool.or_self, Bool.and_true, Bool.true_and, Bool.false_eq_true, if_true, if_false, go_sem, Nat.reduceEqDiff, Nat.reduceLT, Nat.reduceAdd, Nat.reduceSub, Nat.reduceLeDiff, List.reduceReplicate, Int.reduceToNat]
  refine ⟨fun hgt => ⟨⟨by omega, by omega⟩, by omega, ⟨by omega, by omega⟩, by omega, ⟨by omega, by omega⟩, by omega, ⟨by omega, by omega⟩, by omega, ?_⟩, fun hle => ⟨⟨by omega, by omega⟩, by omega, ⟨by omega, by omega⟩, by omega, ⟨by omega, by omega⟩, by omega, ⟨by omega, by omega⟩, by omega, ?_⟩⟩
  · rw [swapL_comm (by omega) (by omega)]
    exact hK _ j true (hp1.trans (SegP.swap (by omega) (by omega) (by omega) (by omega) (by omega))) (by omega) (by omega) (hS.fin (by omega) (by omega))
  have hij : i < j := by
    rcases Nat.lt_or_ge i j with h | h
    · exact h
    · exfalso
      obtain rfl : i = j := by omega
      have := hj4 (Nat.le_refl _)
      have h' := hi4 (by omega)
      unfold leB at h'
      rw [this] at h'; cases h'
  have hS2 := hS.swap hij (by omega) (hi4 (by omega)) (leB_of_lt (hj4 (by omega)))
  have hp2 : SegP a b l (swapL l1 i j) := hp1.trans (SegP.swap (by omega) (by omega) (by omega) (by omega) (by omega))
  generalize swapL l1 i j = l2 at *
  rw [e2 (by omega)]
  unfold slices_partitionCmpFunc_api_Rec.L3
  refine loop2 (σ := List RecT × Nat × Nat) (fun s => .int .i64 s.2.1) (fun s => .int .i64 s.2.2) (fun s => .box A.V :: .map (.sb m) :: .row .own v (.recs s.1) :: T) (fun s => s.2.2) (fun s => SegP a b l s.1 ∧ PartS a b s.2.1 s.2.2 s.1) (l2, i + 1, j - 1) rfl rfl ⟨hp2, hS2⟩ ?_
  rintro I back ⟨l3, i3, j3⟩ ⟨hp3, q1, q2, q3, q4, q5, q6⟩
  simp only at hp3 q1 q2 q3 q4 q5 q6 ⊢
  have hl3 := hp3.len
  simp only [hTn, SkT.norm, h2, joinW_eq, partition_L4, partition_L5, joinW_eq, guard_tt, guard_tf, guard_ft, guard_ff, Int.reduceEq, Int.reduceLT, Int.reduceLE, decide_false, decide_true, Bool.not_false, Bool.not_true, Bool.not_not, not_true_eq_false, not_false_eq_true, true_implies, false_implies, implies_true, and_true, true_and, reduceCtorEq, Bool.and_self, Bool.or_self, Bool.and_true, Bool.true_and, Bool.false_eq_true, if_true, if_false, go_sem, Nat.reduceEqDiff, Nat.reduceLT, Nat.reduceAdd, Nat.reduceSub, Nat.reduceLeDiff, List.reduceReplicate, Int.reduceToNat]
  refine partition_up _ rfl rfl A m v l3 T n a j3 i3 hTn (by omega) (by omega) (by omega) (by omega) hr _ _ fun i4 g1 g2 g3 g4 => ?_
  simp only [hTn, SkT.norm, h2, joinW_eq, guard_tt, guard_tf, guard_ft, guard_ff, Int.reduceEq, Int.reduceLT, Int.reduceLE, decide_false, decide_true, Bool.not_false, Bool.not_true, Bool.not_not, not_true_eq_false, not_false_eq_true, true_implies, false_implies, implies_true, and_true, true_and, reduceCtorEq, Bool.and_self, Bool.or_self, Bool.and_true, Bool.true_and, Bool.false_eq_true, if_true, if_false, go_sem, Nat.reduceEqDiff, Nat.reduceLT, Nat.reduceAdd, Nat.reduceSub, Nat.reduceLeDiff, List.reduceReplicate, Int.reduceToNat]
  refine partition_down _ rfl rfl A m v l3 T n a i4 j3 hTn (by omega) (by omega) (by omega) (by omega) hr _ _ fun j4 k1 k2 k3 k4 => ?_
  have hS4 : PartS a b i4 j4 l3 := ⟨by omega, k2, by omega, by omega, fun k z1 z2 => by
    by_cases e : k < i3
    · exact q5 k z1 e
    · exact g3 k (by omega) z2, fun k z1 z2 => by
    by_cases e : j3 < k
    · exact q6 k e z2
    · exact k3 k z1 (by omega)⟩
  have e4 : j4 ≠ 0 → IntKind.i64.wrap ((j4 : Int) - 1) = ((j4 - 1 : Nat) : Int) := fun h => by rw [w64 (by omega) (by omega)]; omega
  simp only [hTn, SkT.norm, h2, wnext (show i4 < 4611686018427387904 by omega), joinW_eq, Int.toNat_natCast, d0_def, kyL_def, rec_eta, swapL_def, List.length_set, joinW_eq, guard_tt, guard_tf, guard_ft, guard_ff, Int.reduceEq, Int.reduceLT, Int.reduceLE, decide_false, decide_true, Bool.not_false, Bool.not_true, Bool.not_not, not_true_eq_false, not_false_eq_true, true_implies, false_implies, implies_true, and_true, true_and, reduceCtorEq, Bool.and_self, Bool.or_self, Bool.and_true, Bool.true_and, Bool.false_eq_true, if_true, if_false, go_sem, Nat.reduceEqDiff, Nat.reduceLT, Nat.reduceAdd, Nat.reduceSub, Nat.reduceLeDiff, List.reduceReplicate, Int.reduceToNat]
  refine ⟨fun hgt => ⟨⟨by omega, by omega⟩, by omega, ⟨by omega, by omega⟩, by omega, ⟨by omega, by omega⟩, by omega, ⟨by omega, by omega⟩, by omega, ?_⟩, fun hle => ⟨⟨by omega, by omega⟩, by omega, ⟨by omega, by omega⟩, by omega, ⟨by omega, by omega⟩, by omega, ⟨by omega, by omega⟩, by omega, ?_⟩⟩
  · rw [swapL_comm (by omega) (by omega)]
    exact hK _ j4 false (hp3.trans (SegP.swap (by omega) (by omega) (by omega) (by omega) (by omega))) (by omega) (by omega) (hS4.fin (by omega) (by omega))
  · have hij4 : i4 < j4 := by
      rcases Nat.lt_or_ge i4 j4 with h | h
      · exact h
      · exfalso
        obtain rfl : i4 = j4 := by omega
        have := k4 (Nat.le_refl _)
        have h' := g4 (by omega)
        unfold leB at h'
        rw [this] at h'; cases h'
    rw [e4 (by omega)]
    exact back (swapL l3 i4 j4, i4 + 1, j4 - 1) (by simp only; omega) rfl rfl ⟨hp3.trans (SegP.swap (by omega) (by omega) (by omega) (by omega) (by omega)), hS4.swap hij4 (by omega) (g4 (by omega)) (leB_of_lt (k4 (by omega)))⟩
end Lam
namespace Lam
set_option maxRecDepth 20000
open Go Go.Proofs
set_option linter.unusedVariables false
set_option linter.unnecessarySimpa false
set_option linter.unusedSimpArgs false
def slices_pdqsortCmpFunc_api_Rec.K : Con := fun args h K => match args with
  | [a0, a1, a2, a3, a4] => slices_pdqsortCmpFunc_api_Rec.H (ctx [(68, seek_Hits_1.C)] [(114, slices_insertionSortCmpFunc_api_Rec.K)] slices_pdqsortCmpFunc_api_Rec.loops) a0 a1 a2 a3 a4 h K
  | _ => False
theorem slices_pdqsortCmpFunc_api_Rec.spec : SSpec Try.prog 92 slices_pdqsortCmpFunc_api_Rec.K := by
  refine SSpec.of (ctx_ok (F := [(68, seek_Hits_1.C)]) (S := [(114, slices_insertionSortCmpFunc_api_Rec.K)]) (by simpa using seek_Hits_1.spec) (by simpa using slices_insertionSortCmpFunc_api_Rec.spec) slices_pdqsortCmpFunc_api_Rec.loops) slices_pdqsortCmpFunc_api_Rec.at slices_pdqsortCmpFunc_api_Rec.nm slices_pdqsortCmpFunc_api_Rec.bd ?_
  intro args h K hC
  unfold slices_pdqsortCmpFunc_api_Rec.K at hC
  split at hC
  · rw [slices_pdqsortCmpFunc_api_Rec.eq]; exact hC
  · exact hC.elim
theorem pdq0_K (A : SkT) (m : Bytes → Bool) (v : Nat) (l : List RecT) (tl : List Int) (n a b : Nat) (lim : Int) (hn : n = l.length) (hab : a ≤ b) (hbn : b ≤ n) (h12 : b ≤ a + 12) (hr : roomy n) (K : AOut → List AObj → Prop)
    (hK : ∀ l', SegP a b l l' → SegS a b l' → K (.ret (.tup [])) (hpS A m v l' tl)) :
    slices_pdqsortCmpFunc_api_Rec.K [.sref false 2 v 0 n, .int .i64 a, .int .i64 b, .int .i64 lim, hitF] (hpS A m v l tl) K := by
  have hr' := hr
  unfold roomy at hr'
  obtain ⟨T, hT, hTn⟩ : ∃ T, tl.map (fun n => AObj.box (.int .i64 n)) = T ∧ ∀ k h, T.map (normO k h) = T := ⟨_, rfl, fun k h => by
    rw [List.map_map]; exact List.map_congr_left fun _ _ => rfl⟩
  have h2 : 2 < T.length + 1 + 1 + 1 := by omega
  unfold slices_pdqsortCmpFunc_api_Rec.K slices_pdqsortCmpFunc_api_Rec.H
  simp only [hpS, hT, hTn, SkT.norm, h2, joinW_eq, joinW_eq, guard_tt, guard_tf, guard_ft, guard_ff, Int.reduceEq, Int.reduceLT, Int.reduceLE, decide_false, decide_true, Bool.not_false, Bool.not_true, Bool.not_not, not_true_eq_false, not_false_eq_true, true_implies, false_implies, implies_true, and_true, true_and, reduceCtorEq, Bool.and_self, Bool.or_self, Bool.and_true, Bool.true_and, Bool.false_eq_true, if_true, if_false, go_sem, Nat.reduceEqDiff, Nat.reduceLT, Nat.reduceAdd, Nat.reduceSub, Nat.reduceLeDiff, List.reduceReplicate, Int.reduceToNat]
  unfold slices_pdqsortCmpFunc_api_Rec.L1
  refine loop5 (σ := Unit) (fun s => .int .i64 a) (fun s => .int .i64 b) (fun s => .int .i64 lim) (fun s => .bool true) (fun s => .bool true) (fun s => .box A.V :: .map (.sb m) :: .row .own v (.recs l) :: T) (fun s => 0) (fun s => True) () rfl rfl trivial ?_
  rintro I back _ _
  have e2 : IntKind.i64.wrap ((b : Int) - a) = ((b - a : Nat) : Int) := by rw [w64 (by omega) (by omega)]; omega
  have d1 : decide (((b - a : Nat) : Int) ≤ 12) = true := decide_eq_true (by omega)
  simp only [hTn, SkT.norm, h2, e2, d1, joinW_eq, joinW_eq, guard_tt, guard_tf, guard_ft, guard_ff, Int.reduceEq, Int.reduceLT, Int.reduceLE, decide_false, decide_true, Bool.not_false, Bool.not_true, Bool.not_not, not_true_eq_false, not_false_eq_true, true_implies, false_implies, implies_true, and_true, true_and, reduceCtorEq, Bool.and_self, Bool.or_self, Bool.and_true, Bool.true_and, Bool.false_eq_true, if_true, if_false, go_sem, Nat.reduceEqDiff, Nat.reduceLT, Nat.reduceAdd, Nat.reduceSub, Nat.reduceLeDiff, List.reduceReplicate, Int.reduceToNat]
  subst hT
  exact ins_K A m v l tl n a b hn hab hbn hr _ fun l' p s => hK l' p s
abbrev pdq1_ctx : Ctx := ctx [(68, seek_Hits_1.C)] [(114, slices_insertionSortCmpFunc_api_Rec.K), (117, slices_choosePivotCmpFunc_api_Rec.K), (119, slices_partialInsertionSortCmpFunc_api_Rec.K), (121, slices_partitionCmpFunc_api_Rec.K), (92, slices_pdqsortCmpFunc_api_Rec.K)] slices_pdqsortCmpFunc_api_Rec.loops
def pdq1.K : Con := fun args h K => match args with
  | [a0, a1, a2, a3, a4] => slices_pdqsortCmpFunc_api_Rec.H pdq1_ctx a0 a1 a2 a3 a4 h K
  | _ => False
theorem pdq1.spec : SSpec Try.prog 92 pdq1.K := by
  refine SSpec.of (c := pdq1_ctx) (ctx_ok (by simpa using seek_Hits_1.spec) (by simpa using ⟨slices_insertionSortCmpFunc_api_Rec.spec, slices_choosePivotCmpFunc_api_Rec.spec, slices_partialInsertionSortCmpFunc_api_Rec.spec, slices_partitionCmpFunc_api_Rec.spec, slices_pdqsortCmpFunc_api_Rec.spec⟩) slices_pdqsortCmpFunc_api_Rec.loops) slices_pdqsortCmpFunc_api_Rec.at slices_pdqsortCmpFunc_api_Rec.nm slices_pdqsortCmpFunc_api_Rec.bd ?_
  intro args h K hC
  unfold pdq1.K at hC
  split at hC
  · rw [slices_pdqsortCmpFunc_api_Rec.eq]; exact hC
  · exact hC.elim
theorem pdq1_K (A : SkT) (m : Bytes → Bool) (v : Nat) (l : List RecT) (n : Nat) (lim : Int) (hl : 12 < n → lim ≠ 0) (hn : n = l.length) (h13 : n ≤ 13) (K : AOut → List AObj → Prop)
    (hK : ∀ l' tl, SegP 0 n l l' → SegS 0 n l' → K (.ret (.tup [])) (hpS A m v l' tl)) :
    pdq1.K [.sref false 2 v 0 n, .int .i64 0, .int .i64 n, .int .i64 lim, hitF] (hpS A m v l []) K := by
  have hr : roomy n := by unfold roomy; omega
  unfold pdq1.K slices_pdqsortCmpFunc_api_Rec.H
  simp only [hpS, List.map_nil, SkT.norm, joinW_eq, joinW_eq, guard_tt, guard_tf, guard_ft, guard_ff, Int.reduceEq, Int.reduceLT, Int.reduceLE, decide_false, decide_true, Bool.not_false, Bool.not_true, Bool.not_not, not_true_eq_false, not_false_eq_true, true_implies, false_implies, implies_true, and_true, true_and, reduceCtorEq, Bool.and_self, Bool.or_self, Bool.and_true, Bool.true_and, Bool.false_eq_true, if_true, if_false, go_sem, Nat.reduceEqDiff, Nat.reduceLT, Nat.reduceAdd, Nat.reduceSub, Nat.reduceLeDiff, List.reduceReplicate, Int.reduceToNat]
  unfold slices_pdqsortCmpFunc_api_Rec.L1
  refine loop5 (σ := List RecT × Nat × Nat × Bool × Bool) (fun s => .int .i64 s.2.1) (fun s => .int .i64 s.2.2.1) (fun s => .int .i64 lim) (fun s => .bool s.2.2.2.1) (fun s => .bool s.2.2.2.2) (fun s => .box A.V :: .map (.sb m) :: [.row .own v (.recs s.1)]) (fun s => s.2.2.1 - s.2.1)
    (fun s => (n = 13 ∧ s.1 = l ∧ s.2.1 = 0 ∧ s.2.2.1 = n ∧ s.2.2.2.1 = true ∧ s.2.2.2.2 = true) ∨ (s.2.2.1 ≤ s.2.1 + 12 ∧ s.2.1 ≤ s.2.2.1 ∧ s.2.2.1 ≤ n ∧ SegP 0 n l s.1 ∧ ∀ l', SegP s.2.1 s.2.2.1 s.1 l' → SegS s.2.1 s.2.2.1 l' → SegS 0 n l')) (l, 0, n, true, true) rfl rfl ?_ ?_
  · by_cases h : 12 < n
    · exact .inl ⟨by omega, rfl, rfl, rfl, rfl, rfl⟩
    · exact .inr ⟨by simp only; omega, Nat.zero_le _, Nat.le_refl _, SegP.refl, fun l' _ h => h⟩
  rintro I back ⟨l1, a, b, t10, t11⟩ hq
  simp only at hq ⊢
  rcases hq with ⟨rfl, rfl, rfl, rfl, rfl, rfl⟩ | ⟨g1, g2, g3, g4, g5⟩
  rotate_left
  · have e2 : IntKind.i64.wrap ((b : Int) - a) = ((b - a : Nat) : Int) := by rw [w64 (by omega) (by omega)]; omega
    have d1 : decide (((b - a : Nat) : Int) ≤ 12) = true := decide_eq_true (by omega)
    simp only [SkT.norm, e2, d1, joinW_eq, joinW_eq, guard_tt, guard_tf, guard_ft, guard_ff, Int.reduceEq, Int.reduceLT, Int.reduceLE, decide_false, decide_true, Bool.not_false, Bool.not_true, Bool.not_not, not_true_eq_false, not_false_eq_true, true_implies, false_implies, implies_true, and_true, true_and, reduceCtorEq, Bool.and_self, Bool.or_self, Bool.and_true, Bool.true_and, Bool.false_eq_true, if_true, if_false, go_sem, Nat.reduceEqDiff, Nat.reduceLT, Nat.reduceAdd, Nat.reduceSub, Nat.reduceLeDiff, List.reduceReplicate, Int.reduceToNat]
    refine ins_K A m v l1 [] n a b (by rw [g4.len]; exact hn) g2 g3 hr _ fun l' p s => ?_
    exact hK l' [] (g4.trans (p.mono (Nat.zero_le _) g3)) (g5 l' p s)
  · have e2 : IntKind.i64.wrap ((13 : Int) - 0) = 13 := by decide +kernel
    have d1 : decide ((13 : Int) ≤ 12) = false := by decide
    have d2 : decide (lim = 0) = false := decide_eq_false (hl (by decide))
    simp only [SkT.norm, e2, d1, d2, joinW_eq, joinW_eq, guard_tt, guard_tf, guard_ft, guard_ff, Int.reduceEq, Int.reduceLT, Int.reduceLE, decide_false, decide_true, Bool.not_false, Bool.not_true, Bool.not_not, not_true_eq_false, not_false_eq_true, true_implies, false_implies, implies_true, and_true, true_and, reduceCtorEq, Bool.and_self, Bool.or_self, Bool.and_true, Bool.true_and, Bool.false_eq_true, if_true, if_false, go_sem, Nat.reduceEqDiff, Nat.reduceLT, Nat.reduceAdd, Nat.reduceSub, Nat.reduceLeDiff, List.reduceReplicate, Int.reduceToNat]
    refine choose_K A m v l1 13 0 13 hn (by decide) (by decide) (by decide) hr _ fun p e s hp0 hp hee => ?_
    have hmain : ∀ (pv : Nat) (K2 : AOut → List AObj → Prop), pv < 13 → (∀ (l' : List RecT) (q : Nat) (al : Bool), SegP 0 13 l1 l' → q < 13 → Parted 0 q 13 l' → K2 (.ret (.tup [.int .i64 q, .bool al])) (hpS A m v l' [s])) → slices_partitionCmpFunc_api_Rec.K [.sref false 2 v 0 13, .int .i64 0, .int .i64 13, .int .i64 pv, hitF] (hpS A m v l1 [s]) K2 := fun pv K2 hpv h2 =>
      partition_K A m v l1 [s] 13 0 13 pv hn (by decide) (by decide) (Nat.zero_le _) hpv hr _ fun l' q al h3 _ h4 h5 => h2 l' q al h3 h4 h5
    have he2 : ¬ (e : Int) = 2 := by omega
    simp only [hpS, List.map_cons, List.map_nil, he2, decide_false, joinW_eq, joinW_eq, guard_tt, guard_tf, guard_ft, guard_ff, Int.reduceEq, Int.reduceLT, Int.reduceLE, decide_false, decide_true, Bool.not_false, Bool.not_true, Bool.not_not, not_true_eq_false, not_false_eq_true, true_implies, false_implies, implies_true, and_true, true_and, reduceCtorEq, Bool.and_self, Bool.or_self, Bool.and_true, Bool.true_and, Bool.false_eq_true, if_true, if_false, go_sem, Nat.reduceEqDiff, Nat.reduceLT, Nat.reduceAdd, Nat.reduceSub, Nat.reduceLeDiff, List.reduceReplicate, Int.reduceToNat]
    refine ⟨fun _ => part_K A m v l1 [s] 13 0 13 hn (by decide) (by decide) (by decide) hr _ (fun hs => ?_) ?_, fun _ => ?_⟩
    · simp only [hpS, List.map_cons, List.map_nil, joinW_eq, guard_tt, guard_tf, guard_ft, guard_ff, Int.reduceEq, Int.reduceLT, Int.reduceLE, decide_false, decide_true, Bool.not_false, Bool.not_true, Bool.not_not, not_true_eq_false, not_false_eq_true, true_implies, false_implies, implies_true, and_true, true_and, reduceCtorEq, Bool.and_self, Bool.or_self, Bool.and_true, Bool.true_and, Bool.false_eq_true, if_true, if_false, go_sem, Nat.reduceEqDiff, Nat.reduceLT, Nat.reduceAdd, Nat.reduceSub, Nat.reduceLeDiff, List.reduceReplicate, Int.reduceToNat]
      exact hK l1 [s] SegP.refl hs
    all_goals
      try simp only [hpS, List.map_cons, List.map_nil, joinW_eq, guard_tt, guard_tf, guard_ft, guard_ff, Int.reduceEq, Int.reduceLT, Int.reduceLE, decide_false, decide_true, Bool.not_false, Bool.not_true, Bool.not_not, not_true_eq_false, not_false_eq_true, true_implies, false_implies, implies_true, and_true, true_and, reduceCtorEq, Bool.and_self, Bool.or_self, Bool.and_true, Bool.true_and, Bool.false_eq_true, if_true, if_false, go_sem, Nat.reduceEqDiff, Nat.reduceLT, Nat.reduceAdd, Nat.reduceSub, Nat.reduceLeDiff, List.reduceReplicate, Int.reduceToNat]
      refine hmain p _ hp fun l' q al h3 h4 h5 => ?_
      have f1 : IntKind.i64.wrap ((q : Int) - 0) = q := by rw [Int.sub_zero]; exact w64 (by omega) (by omega)
      have f2 : IntKind.i64.wrap ((13 : Int) - q) = ((13 - q : Nat) : Int) := by rw [w64 (by omega) (by omega)]; omega
      simp only [hpS, List.map_cons, List.map_nil, SkT.norm, f1, f2, wnext (show q < 4611686018427387904 by omega), joinW_eq, guard_tt, guard_tf, guard_ft, guard_ff, Int.reduceEq, Int.reduceLT, Int.reduceLE, decide_false, decide_true, Bool.not_false, Bool.not_true, Bool.not_not, not_true_eq_false, not_false_eq_true, true_implies, false_implies, implies_true, and_true, true_and, reduceCtorEq, Bool.and_self, Bool.or_self, Bool.and_true, Bool.true_and, Bool.false_eq_true, if_true, if_false, go_sem, Nat.reduceEqDiff, Nat.reduceLT, Nat.reduceAdd, Nat.reduceSub, Nat.reduceLeDiff, List.reduceReplicate, Int.reduceToNat]
      refine ⟨fun hlt => ?_, fun hge => ?_⟩
      · refine pdq0_K A m v l' [s] 13 0 q lim (by rw [h3.len]; exact hn) (by omega) (by omega) (by omega) hr _ fun l2 s1 s2 => ?_
        simp only [hpS, List.map_cons, List.map_nil, SkT.norm, wnext (show q < 4611686018427387904 by omega), joinW_eq, guard_tt, guard_tf, guard_ft, guard_ff, Int.reduceEq, Int.reduceLT, Int.reduceLE, decide_false, decide_true, Bool.not_false, Bool.not_true, Bool.not_not, not_true_eq_false, not_false_eq_true, true_implies, false_implies, implies_true, and_true, true_and, reduceCtorEq, Bool.and_self, Bool.or_self, Bool.and_true, Bool.true_and, Bool.false_eq_true, if_true, if_false, go_sem, Nat.reduceEqDiff, Nat.reduceLT, Nat.reduceAdd, Nat.reduceSub, Nat.reduceLeDiff, List.reduceReplicate, Int.reduceToNat]
        have hl2 := h5.left s1
        refine back (l2, q + 1, 13, _, _) (by simp only; omega) rfl rfl (.inr ⟨by simp only; omega, by simp only; omega, by simp only; omega, h3.trans (s1.mono (by omega) (by omega)), fun l3 t1 t2 => ?_⟩)
        exact (hl2.right t1).sorted (s2.keep t1 (.inl (by simp only; omega))) t2
      · refine pdq0_K A m v l' [s] 13 (q + 1) 13 lim (by rw [h3.len]; exact hn) (by omega) (by omega) (by omega) hr _ fun l2 s1 s2 => ?_
        simp only [hpS, List.map_cons, List.map_nil, SkT.norm, wnext (show q < 4611686018427387904 by omega), joinW_eq, guard_tt, guard_tf, guard_ft, guard_ff, Int.reduceEq, Int.reduceLT, Int.reduceLE, decide_false, decide_true, Bool.not_false, Bool.not_true, Bool.not_not, not_true_eq_false, not_false_eq_true, true_implies, false_implies, implies_true, and_true, true_and, reduceCtorEq, Bool.and_self, Bool.or_self, Bool.and_true, Bool.true_and, Bool.false_eq_true, if_true, if_false, go_sem, Nat.reduceEqDiff, Nat.reduceLT, Nat.reduceAdd, Nat.reduceSub, Nat.reduceLeDiff, List.reduceReplicate, Int.reduceToNat]
        have hl2 := h5.right s1
        refine back (l2, 0, q, _, _) (by simp only; omega) rfl rfl (.inr ⟨by simp only; omega, by simp only; omega, by simp only; omega, h3.trans (s1.mono (by omega) (by omega)), fun l3 t1 t2 => ?_⟩)
        exact (hl2.left t1).sorted t2 (s2.keep t1 (.inr (by simp only; omega)))
end Lam
namespace Lam
set_option maxRecDepth 20000
open Go Go.Proofs
set_option linter.unusedVariables false
set_option linter.unnecessarySimpa false
set_option linter.unusedSimpArgs false
def lenN (n : Nat) : Nat := if n = 0 then 0 else if n < 2 then 1 else if n < 4 then 2 else if n < 8 then 3 else 4
def math_bits_Len64.C : Contract
  | [.int .u64 n] => some (false, pD (0 ≤ n ∧ n < 16) (.int .i64 (lenN n.toNat)))
  | _ => none
set_option maxRecDepth 20000 in
theorem math_bits_Len64.spec : FSpec Try.prog 123 math_bits_Len64.C := by
  refine FSpec.of (ctx_ok (F := []) (S := []) (by simp) (by simp) math_bits_Len64.loops) math_bits_Len64.at math_bits_Len64.nm math_bits_Len64.bd ?_
  intro vs b S v news e hS
  unfold math_bits_Len64.C at e
  split at e
  rotate_left
  · cases e
  cases e
  rw [math_bits_Len64.eq]
  unfold math_bits_Len64.H
  simp (maxSteps := 4000000) only [go_sem, Nat.reduceEqDiff, Nat.reduceLT, Nat.reduceAdd, Nat.reduceSub, Nat.reduceLeDiff, List.reduceReplicate, Int.reduceToNat]
  rename_i n
  have d1 : decide ((4294967296 : Int) ≤ n) = false := decide_eq_false (by omega)
  have d2 : decide ((65536 : Int) ≤ n) = false := decide_eq_false (by omega)
  have d3 : decide ((256 : Int) ≤ n) = false := decide_eq_false (by omega)
  have g1 : ¬ (4294967296 : Int) ≤ n := by omega
  simp only [g1, d1, d2, d3, joinW_eq, joinW_eq, guard_tt, guard_tf, guard_ft, guard_ff, Int.reduceEq, Int.reduceLT, Int.reduceLE, decide_false, decide_true, Bool.not_false, Bool.not_true, Bool.not_not, not_true_eq_false, not_false_eq_true, true_implies, false_implies, implies_true, and_true, true_and, reduceCtorEq, Bool.and_self, Bool.or_self, Bool.and_true, Bool.true_and, Bool.false_eq_true, if_true, if_false, go_sem, Nat.reduceEqDiff, Nat.reduceLT, Nat.reduceAdd, Nat.reduceSub, Nat.reduceLeDiff, List.reduceReplicate, Int.reduceToNat]
  have hc : n = 0 ∨ n = 1 ∨ n = 2 ∨ n = 3 ∨ n = 4 ∨ n = 5 ∨ n = 6 ∨ n = 7 ∨ n = 8 ∨ n = 9 ∨ n = 10 ∨ n = 11 ∨ n = 12 ∨ n = 13 ∨ n = 14 ∨ n = 15 := by omega
  rcases hc with rfl | rfl | rfl | rfl | rfl | rfl | rfl | rfl | rfl | rfl | rfl | rfl | rfl | rfl | rfl | rfl <;> exact ⟨by decide, post_val rfl rfl⟩
def math_bits_Len.C : Contract
  | [.int .u64 n] => some (false, pD (0 ≤ n ∧ n < 16) (.int .i64 (lenN n.toNat)))
  | _ => none
set_option maxRecDepth 20000 in
theorem math_bits_Len.spec : FSpec Try.prog 93 math_bits_Len.C := by
  refine FSpec.of (ctx_ok (F := [(123, math_bits_Len64.C)]) (S := []) (by simpa using math_bits_Len64.spec) (by simp) math_bits_Len.loops) math_bits_Len.at math_bits_Len.nm math_bits_Len.bd ?_
  intro vs b S v news e hS
  unfold math_bits_Len.C at e
  split at e
  rotate_left
  · cases e
  cases e
  rw [math_bits_Len.eq]
  unfold math_bits_Len.H
  simp (maxSteps := 4000000) only [go_sem, Nat.reduceEqDiff, Nat.reduceLT, Nat.reduceAdd, Nat.reduceSub, Nat.reduceLeDiff, List.reduceReplicate, Int.reduceToNat, math_bits_Len64.C]
  rename_i n
  exact ⟨hS, post_val rfl rfl⟩
def slices_SortFunc_sl_api_Rec_api_Rec.K : Con := fun args h K => match args with
  | [a0, a1] => slices_SortFunc_sl_api_Rec_api_Rec.H (ctx [(93, math_bits_Len.C)] [(92, pdq1.K)] slices_SortFunc_sl_api_Rec_api_Rec.loops) a0 a1 h K
  | _ => False
theorem slices_SortFunc_sl_api_Rec_api_Rec.spec : SSpec Try.prog 67 slices_SortFunc_sl_api_Rec_api_Rec.K := by
  refine SSpec.of (c := ctx [(93, math_bits_Len.C)] [(92, pdq1.K)] slices_SortFunc_sl_api_Rec_api_Rec.loops) (ctx_ok (by simpa using math_bits_Len.spec) (by simpa using pdq1.spec) slices_SortFunc_sl_api_Rec_api_Rec.loops) slices_SortFunc_sl_api_Rec_api_Rec.at slices_SortFunc_sl_api_Rec_api_Rec.nm slices_SortFunc_sl_api_Rec_api_Rec.bd ?_
  intro args h K hC
  unfold slices_SortFunc_sl_api_Rec_api_Rec.K at hC
  split at hC
  · rw [slices_SortFunc_sl_api_Rec_api_Rec.eq]; exact hC
  · exact hC.elim
theorem sort_K (A : SkT) (m : Bytes → Bool) (v : Nat) (l : List RecT) (n : Nat) (hn : n = l.length) (h13 : n ≤ 13) (K : AOut → List AObj → Prop)
    (hK : ∀ l' tl, l'.Perm l → SegS 0 n l' → K (.ret (.tup [])) (hpS A m v l' tl)) :
    slices_SortFunc_sl_api_Rec_api_Rec.K [.sref false 2 v 0 n, hitF] (hpS A m v l []) K := by
  have hr : roomy n := by unfold roomy; omega
  have e1 : IntKind.u64.wrap (n : Int) = n := by simp [IntKind.wrap, IntKind.bits, IntKind.signed]; omega
  unfold slices_SortFunc_sl_api_Rec_api_Rec.K slices_SortFunc_sl_api_Rec_api_Rec.H
  simp only [hpS, List.map_nil, math_bits_Len.C, e1, Int.toNat_natCast, joinW_eq, guard_tt, guard_tf, guard_ft, guard_ff, Int.reduceEq, Int.reduceLT, Int.reduceLE, decide_false, decide_true, Bool.not_false, Bool.not_true, Bool.not_not, not_true_eq_false, not_false_eq_true, true_implies, false_implies, implies_true, and_true, true_and, reduceCtorEq, Bool.and_self, Bool.or_self, Bool.and_true, Bool.true_and, Bool.false_eq_true, if_true, if_false, go_sem, Nat.reduceEqDiff, Nat.reduceLT, Nat.reduceAdd, Nat.reduceSub, Nat.reduceLeDiff, List.reduceReplicate, Int.reduceToNat]
  refine ⟨⟨by omega, by omega⟩, pdq1_K A m v l n _ (fun h => ?_) hn h13 _ fun l' tl s1 s2 => hK l' tl s1.1 s2⟩
  unfold lenN
  rw [if_neg (by omega), if_neg (by omega), if_neg (by omega), if_neg (by omega)]; decide
end Lam
namespace Lam
open Go Go.Proofs
set_option linter.unusedVariables false
def slices_Equal_sl_int_int.loops : Nat → LInfo
  | 4 => ⟨[13], [false], [0, 1, 12], [], [], []⟩
  | _ => ⟨[], [], [], [], [], []⟩
def slices_Equal_sl_int_int.L1 (c : Ctx) (J1 : List AObj → Prop) (K : AOut → List AObj → Prop) (lv : List AV) (h0 : List AObj) (n0 : Nat) (c0 : AV) (c1 : AV) (c12 : AV) : Prop :=
  ∃ I : Nat → List AV → List AObj → Prop, (∃ n, I n lv h0) ∧ ∀ n h, ∀ t13, I n [t13] h →
    runD (binD T_int .lss t13 c12) h fun t14 h =>
    condW t14
    (runD (indexAddrD T_sl_int h c0 t13) h fun t18 h =>
    runD (fitD T_int (loadD h t18)) h fun t19 h =>
    runD (indexAddrD T_sl_int h c1 t13) h fun t22 h =>
    runD (fitD T_int (loadD h t22)) h fun t23 h =>
    runD (binD T_int .neq t19 t23) h fun t24 h =>
    condW t24
    (K (.ret (.bool false)) h)
    (runD (binD T_int .add t13 (.int .i64 1)) h fun t25 h =>
    (∃ m, m < n ∧ I m (AV.norms n0 h [t25]) (normH n0 h)) ∧ AV.norms n0 h [c0, c1, c12] = [c0, c1, c12]))
    (J1 h)
def slices_Equal_sl_int_int.H (c : Ctx) (t0 : AV) (t1 : AV) (h : List AObj) (K : AOut → List AObj → Prop) : Prop :=
  runD (lenD T_sl_int h t0) h fun t7 h =>
  runD (lenD T_sl_int h t1) h fun t9 h =>
  runD (binD T_int .neq t7 t9) h fun t10 h =>
  condW t10
  (K (.ret (.bool false)) h)
  (runD (lenD T_sl_int h t0) h fun t12 h =>
  joinW (fun (J1 : List AObj → Prop) =>
  promV [false] [(.int .i64 0)] h fun lv h => slices_Equal_sl_int_int.L1 c J1 K (AV.norms h.length h lv) (normH h.length h) h.length (AV.norm h.length h t0) (AV.norm h.length h t1) (AV.norm h.length h t12))
  (fun h => K (.ret (.bool true)) h))
def slices_Clone_sl_int_int.loops : Nat → LInfo
  | _ => ⟨[], [], [], [], [], []⟩
def slices_Clone_sl_int_int.H (c : Ctx) (t0 : AV) (h : List AObj) (K : AOut → List AObj → Prop) : Prop :=
  nilEqO (AV.len T_sl_int h t0) h fun t4 h =>
  condW t4
  (K (.ret (.sl true (.ints .i64 []))) h)
  (runD (buildSliceD T_sl_int 0 [] h.length) h fun t5 h =>
  runDM (appendD T_sl_int h t5 t0 h.length) (appendH T_sl_int h t5 t0) h fun t7 h =>
  K (.ret t7) h)
def slices_IndexFunc_sl_int_int.loops : Nat → LInfo
  | 2 => ⟨[8], [false], [0, 1, 7], [], [], []⟩
  | _ => ⟨[], [], [], [], [], []⟩
def slices_IndexFunc_sl_int_int.L1 (c : Ctx) (J1 : List AObj → Prop) (K : AOut → List AObj → Prop) (lv : List AV) (h0 : List AObj) (n0 : Nat) (c0 : AV) (c1 : AV) (c7 : AV) : Prop :=
  ∃ I : Nat → List AV → List AObj → Prop, (∃ n, I n lv h0) ∧ ∀ n h, ∀ t8, I n [t8] h →
    runD (binD T_int .lss t8 c7) h fun t9 h =>
    condW t9
    (runD (indexAddrD T_sl_int h c0 t8) h fun t14 h =>
    runD (fitD T_int (loadD h t14)) h fun t15 h =>
    callW false c c1 [t15] h (fun t16 h =>
    condW t16
    (K (.ret t8) h)
    (runD (binD T_int .add t8 (.int .i64 1)) h fun t18 h =>
    (∃ m, m < n ∧ I m (AV.norms n0 h [t18]) (normH n0 h)) ∧ AV.norms n0 h [c0, c1, c7] = [c0, c1, c7]))
    (fun v h => K (.pan v) h))
    (J1 h)
def slices_IndexFunc_sl_int_int.H (c : Ctx) (t0 : AV) (t1 : AV) (h : List AObj) (K : AOut → List AObj → Prop) : Prop :=
  runD (lenD T_sl_int h t0) h fun t7 h =>
  joinW (fun (J1 : List AObj → Prop) =>
  promV [false] [(.int .i64 0)] h fun lv h => slices_IndexFunc_sl_int_int.L1 c J1 K (AV.norms h.length h lv) (normH h.length h) h.length (AV.norm h.length h t0) (AV.norm h.length h t1) (AV.norm h.length h t7))
  (fun h => K (.ret (.int .i64 (-1))) h)
def slices_ContainsFunc_sl_int_int.loops : Nat → LInfo
  | _ => ⟨[], [], [], [], [], []⟩
def slices_ContainsFunc_sl_int_int.H (c : Ctx) (t0 : AV) (t1 : AV) (h : List AObj) (K : AOut → List AObj → Prop) : Prop :=
  callW false c (.fn (.func 89) [] []) [t0, t1] h (fun t7 h =>
  runD (binD T_int .geq t7 (.int .i64 0)) h fun t8 h =>
  K (.ret t8) h)
  (fun v h => K (.pan v) h)
def slices_ContainsFunc_sl_api_Micro_api_Micro.loops : Nat → LInfo
  | _ => ⟨[], [], [], [], [], []⟩
def slices_ContainsFunc_sl_api_Micro_api_Micro.H (c : Ctx) (t0 : AV) (t1 : AV) (h : List AObj) (K : AOut → List AObj → Prop) : Prop :=
  callW false c (.fn (.func 146) [] []) [t0, t1] h (fun t7 h =>
  runD (binD T_int .geq t7 (.int .i64 0)) h fun t8 h =>
  K (.ret t8) h)
  (fun v h => K (.pan v) h)
def slices_IndexFunc_sl_api_Micro_api_Micro.loops : Nat → LInfo
  | 2 => ⟨[8], [false], [0, 1, 7], [], [], []⟩
  | _ => ⟨[], [], [], [], [], []⟩
def slices_IndexFunc_sl_api_Micro_api_Micro.L1 (c : Ctx) (J1 : List AObj → Prop) (K : AOut → List AObj → Prop) (lv : List AV) (h0 : List AObj) (n0 : Nat) (c0 : AV) (c1 : AV) (c7 : AV) : Prop :=
  ∃ I : Nat → List AV → List AObj → Prop, (∃ n, I n lv h0) ∧ ∀ n h, ∀ t8, I n [t8] h →
    runD (binD T_int .lss t8 c7) h fun t9 h =>
    condW t9
    (runD (indexAddrD T_sl_api_Micro h c0 t8) h fun t14 h =>
    runD (fitD T_api_Micro (loadD h t14)) h fun t15 h =>
    callW false c c1 [t15] h (fun t16 h =>
    condW t16
    (K (.ret t8) h)
    (runD (binD T_int .add t8 (.int .i64 1)) h fun t18 h =>
    (∃ m, m < n ∧ I m (AV.norms n0 h [t18]) (normH n0 h)) ∧ AV.norms n0 h [c0, c1, c7] = [c0, c1, c7]))
    (fun v h => K (.pan v) h))
    (J1 h)
def slices_IndexFunc_sl_api_Micro_api_Micro.H (c : Ctx) (t0 : AV) (t1 : AV) (h : List AObj) (K : AOut → List AObj → Prop) : Prop :=
  runD (lenD T_sl_api_Micro h t0) h fun t7 h =>
  joinW (fun (J1 : List AObj → Prop) =>
  promV [false] [(.int .i64 0)] h fun lv h => slices_IndexFunc_sl_api_Micro_api_Micro.L1 c J1 K (AV.norms h.length h lv) (normH h.length h) h.length (AV.norm h.length h t0) (AV.norm h.length h t1) (AV.norm h.length h t7))
  (fun h => K (.ret (.int .i64 (-1))) h)
def slices_Clip_sl_api_Pending_api_Pending.loops : Nat → LInfo
  | _ => ⟨[], [], [], [], [], []⟩
def slices_Clip_sl_api_Pending_api_Pending.H (c : Ctx) (t0 : AV) (h : List AObj) (K : AOut → List AObj → Prop) : Prop :=
  runD (lenD T_sl_api_Pending h t0) h fun t5 h =>
  runD (lenD T_sl_api_Pending h t0) h fun t7 h =>
  runD (sliceD T_sl_api_Pending h t0 none (some t5) (some t7)) h fun t8 h =>
  K (.ret t8) h
def slices_Clone_sl_api_Pending_api_Pending.loops : Nat → LInfo
  | _ => ⟨[], [], [], [], [], []⟩
def slices_Clone_sl_api_Pending_api_Pending.H (c : Ctx) (t0 : AV) (h : List AObj) (K : AOut → List AObj → Prop) : Prop :=
  nilEqO (AV.len T_sl_api_Pending h t0) h fun t4 h =>
  condW t4
  (K (.ret (.sl true (.pends []))) h)
  (runD (buildSliceD T_sl_api_Pending 0 [] h.length) h fun t5 h =>
  runDM (appendD T_sl_api_Pending h t5 t0 h.length) (appendH T_sl_api_Pending h t5 t0) h fun t7 h =>
  K (.ret t7) h)
theorem slices_Equal_sl_int_int.eq (F : List (FuncId × Contract)) (S : List (FuncId × Con)) (t0 t1 : AV) (h : List AObj) (K : AOut → List AObj → Prop) : funW (ctx F S slices_Equal_sl_int_int.loops) Try.f59 [t0, t1] h K = slices_Equal_sl_int_int.H (ctx F S slices_Equal_sl_int_int.loops) t0 t1 h K := by kernel_rfl
theorem slices_Clone_sl_int_int.eq (F : List (FuncId × Contract)) (S : List (FuncId × Con)) (t0 : AV) (h : List AObj) (K : AOut → List AObj → Prop) : funW (ctx F S slices_Clone_sl_int_int.loops) Try.f64 [t0] h K = slices_Clone_sl_int_int.H (ctx F S slices_Clone_sl_int_int.loops) t0 h K := by kernel_rfl
theorem slices_IndexFunc_sl_int_int.eq (F : List (FuncId × Contract)) (S : List (FuncId × Con)) (t0 t1 : AV) (h : List AObj) (K : AOut → List AObj → Prop) : funW (ctx F S slices_IndexFunc_sl_int_int.loops) Try.f89 [t0, t1] h K = slices_IndexFunc_sl_int_int.H (ctx F S slices_IndexFunc_sl_int_int.loops) t0 t1 h K := by kernel_rfl
theorem slices_ContainsFunc_sl_int_int.eq (F : List (FuncId × Contract)) (S : List (FuncId × Con)) (t0 t1 : AV) (h : List AObj) (K : AOut → List AObj → Prop) : funW (ctx F S slices_ContainsFunc_sl_int_int.loops) Try.f99 [t0, t1] h K = slices_ContainsFunc_sl_int_int.H (ctx F S slices_ContainsFunc_sl_int_int.loops) t0 t1 h K := by kernel_rfl
theorem slices_ContainsFunc_sl_api_Micro_api_Micro.eq (F : List (FuncId × Contract)) (S : List (FuncId × Con)) (t0 t1 : AV) (h : List AObj) (K : AOut → List AObj → Prop) : funW (ctx F S slices_ContainsFunc_sl_api_Micro_api_Micro.loops) Try.f129 [t0, t1] h K = slices_ContainsFunc_sl_api_Micro_api_Micro.H (ctx F S slices_ContainsFunc_sl_api_Micro_api_Micro.loops) t0 t1 h K := by kernel_rfl
theorem slices_IndexFunc_sl_api_Micro_api_Micro.eq (F : List (FuncId × Contract)) (S : List (FuncId × Con)) (t0 t1 : AV) (h : List AObj) (K : AOut → List AObj → Prop) : funW (ctx F S slices_IndexFunc_sl_api_Micro_api_Micro.loops) Try.f146 [t0, t1] h K = slices_IndexFunc_sl_api_Micro_api_Micro.H (ctx F S slices_IndexFunc_sl_api_Micro_api_Micro.loops) t0 t1 h K := by kernel_rfl
theorem slices_Clip_sl_api_Pending_api_Pending.eq (F : List (FuncId × Contract)) (S : List (FuncId × Con)) (t0 : AV) (h : List AObj) (K : AOut → List AObj → Prop) : funW (ctx F S slices_Clip_sl_api_Pending_api_Pending.loops) Try.f160 [t0] h K = slices_Clip_sl_api_Pending_api_Pending.H (ctx F S slices_Clip_sl_api_Pending_api_Pending.loops) t0 h K := by kernel_rfl
theorem slices_Clone_sl_api_Pending_api_Pending.eq (F : List (FuncId × Contract)) (S : List (FuncId × Con)) (t0 : AV) (h : List AObj) (K : AOut → List AObj → Prop) : funW (ctx F S slices_Clone_sl_api_Pending_api_Pending.loops) Try.f162 [t0] h K = slices_Clone_sl_api_Pending_api_Pending.H (ctx F S slices_Clone_sl_api_Pending_api_Pending.loops) t0 h K := by kernel_rfl
theorem slices_Equal_sl_int_int.at : Try.prog.funcs[59]? = some Try.f59 := by kernel_rfl
theorem slices_Equal_sl_int_int.nm : (Try.f59.name == "runtime.NumGoroutine") = false := by kernel_rfl
theorem slices_Equal_sl_int_int.bd : Try.f59.body.isNone = false := by kernel_rfl
theorem slices_Clone_sl_int_int.at : Try.prog.funcs[64]? = some Try.f64 := by kernel_rfl
theorem slices_Clone_sl_int_int.nm : (Try.f64.name == "runtime.NumGoroutine") = false := by kernel_rfl
theorem slices_Clone_sl_int_int.bd : Try.f64.body.isNone = false := by kernel_rfl
theorem slices_IndexFunc_sl_int_int.at : Try.prog.funcs[89]? = some Try.f89 := by kernel_rfl
theorem slices_IndexFunc_sl_int_int.nm : (Try.f89.name == "runtime.NumGoroutine") = false := by kernel_rfl
theorem slices_IndexFunc_sl_int_int.bd : Try.f89.body.isNone = false := by kernel_rfl
theorem slices_ContainsFunc_sl_int_int.at : Try.prog.funcs[99]? = some Try.f99 := by kernel_rfl
theorem slices_ContainsFunc_sl_int_int.nm : (Try.f99.name == "runtime.NumGoroutine") = false := by kernel_rfl
theorem slices_ContainsFunc_sl_int_int.bd : Try.f99.body.isNone = false := by kernel_rfl
theorem slices_ContainsFunc_sl_api_Micro_api_Micro.at : Try.prog.funcs[129]? = some Try.f129 := by kernel_rfl
theorem slices_ContainsFunc_sl_api_Micro_api_Micro.nm : (Try.f129.name == "runtime.NumGoroutine") = false := by kernel_rfl
theorem slices_ContainsFunc_sl_api_Micro_api_Micro.bd : Try.f129.body.isNone = false := by kernel_rfl
theorem slices_IndexFunc_sl_api_Micro_api_Micro.at : Try.prog.funcs[146]? = some Try.f146 := by kernel_rfl
theorem slices_IndexFunc_sl_api_Micro_api_Micro.nm : (Try.f146.name == "runtime.NumGoroutine") = false := by kernel_rfl
theorem slices_IndexFunc_sl_api_Micro_api_Micro.bd : Try.f146.body.isNone = false := by kernel_rfl
theorem slices_Clip_sl_api_Pending_api_Pending.at : Try.prog.funcs[160]? = some Try.f160 := by kernel_rfl
theorem slices_Clip_sl_api_Pending_api_Pending.nm : (Try.f160.name == "runtime.NumGoroutine") = false := by kernel_rfl
theorem slices_Clip_sl_api_Pending_api_Pending.bd : Try.f160.body.isNone = false := by kernel_rfl
theorem slices_Clone_sl_api_Pending_api_Pending.at : Try.prog.funcs[162]? = some Try.f162 := by kernel_rfl
theorem slices_Clone_sl_api_Pending_api_Pending.nm : (Try.f162.name == "runtime.NumGoroutine") = false := by kernel_rfl
theorem slices_Clone_sl_api_Pending_api_Pending.bd : Try.f162.body.isNone = false := by kernel_rfl
end Lam
namespace Lam
open Go Go.Proofs
set_option linter.unusedVariables false
def fast_Cut.loops : Nat → LInfo
  | 1 => ⟨[], [], [], [(5, none), (2, some [14, 16]), (2, none), (4, some [18, 22])], [], []⟩
  | 5 => ⟨[8, 28], [true, false], [0, 1, 27], [], [], []⟩
  | _ => ⟨[], [], [], [], [], []⟩
def fast_Cut.L1 (c : Ctx) (J3 : AV → AV → List AObj → Prop) (K : AOut → List AObj → Prop) (lv : List AV) (h0 : List AObj) (n0 : Nat) (c0 : AV) (c1 : AV) (c27 : AV) : Prop :=
  ∃ I : Nat → List AV → List AObj → Prop, (∃ n, I n lv h0) ∧ ∀ n h, ∀ t8, ∀ t28, I n [t8, t28] h →
    runD (binD T_int .lss t28 c27) h fun t29 h =>
    condW t29
    (runD (lenD T_sl_int h c1) h fun t33 h =>
    runD (binD T_int .sub t33 (.int .i64 1)) h fun t34 h =>
    runD (binD T_int .sub t34 t28) h fun t36 h =>
    runD (buildD T_fast_slot [(0, t36), (1, (.int .i64 0))]) h fun t37 h =>
    runD (buildSliceD T_sl_fast_slot 1 [(0, t37)] h.length) h fun t38 h =>
    runDM (appendD T_sl_fast_slot h t8 t38 h.length) (appendH T_sl_fast_slot h t8 t38) h fun t39 h =>
    runD (binD T_int .add t28 (.int .i64 1)) h fun t40 h =>
    (∃ m, m < n ∧ I m (AV.norms n0 h [t39, t40]) (normH n0 h)) ∧ AV.norms n0 h [c0, c1, c27] = [c0, c1, c27])
    (J3 c0 t8 h)
def fast_Cut.H (c : Ctx) (t0 : AV) (t1 : AV) (t2 : AV) (h : List AObj) (K : AOut → List AObj → Prop) : Prop :=
  callW false c (.fn (.func 76) [] []) [t0, t1] h (fun t12 h =>
  runD (unD .not t12) h fun t13 h =>
  joinW (fun (J1 : AV → AV → List AObj → Prop) =>
  guardW t13 false
  (runD (binD T_int .lss t2 (.int .i64 0)) h fun t16 h =>
    J1 (.bool false) t16 h)
  (J1 (.bool true) .und h))
  (fun t14 t16 h => runD (pickD t14 (.bool true) t16) h fun t17 h =>
  joinW (fun (J2 : AV → AV → List AObj → Prop) =>
  guardW t17 false
  (runD (lenD T_sl_int h t1) h fun t21 h =>
    runD (binD T_int .gtr t2 t21) h fun t22 h =>
    J2 (.bool false) t22 h)
  (J2 (.bool true) .und h))
  (fun t18 t22 h => runD (pickD t18 (.bool true) t22) h fun t23 h =>
  condW t23
  (K (.ret (.tup [(.sl true (.mics [])), (.int .i64 1)])) h)
  (runD (lenD T_sl_int h t1) h fun t25 h =>
  runD (binD T_int .sub t25 t2) h fun t27 h =>
  joinW (fun (J3 : AV → AV → List AObj → Prop) =>
  promV [true, false] [(.sl true (.slots [])), (.int .i64 0)] h fun lv h => fast_Cut.L1 c J3 K (AV.norms h.length h lv) (normH h.length h) h.length (AV.norm h.length h t0) (AV.norm h.length h t1) (AV.norm h.length h t27))
  (fun t0 t8 h => callW false c (.fn (.func 77) [] []) [t0, t8] h (fun t43 h =>
  K (.ret (.tup [t43, (.int .i64 0)])) h)
  (fun v h => K (.pan v) h))))))
  (fun v h => K (.pan v) h)
def fast_Swap.loops : Nat → LInfo
  | 1 => ⟨[], [], [], [(5, none), (2, some [14, 16]), (2, none), (2, some [18, 20]), (2, none), (4, some [22, 26])], [], []⟩
  | _ => ⟨[], [], [], [], [], []⟩
def fast_Swap.H (c : Ctx) (t0 : AV) (t1 : AV) (t2 : AV) (t3 : AV) (h : List AObj) (K : AOut → List AObj → Prop) : Prop :=
  callW false c (.fn (.func 76) [] []) [t0, t1] h (fun t12 h =>
  runD (unD .not t12) h fun t13 h =>
  joinW (fun (J1 : AV → AV → List AObj → Prop) =>
  guardW t13 false
  (runD (binD T_int .lss t3 (.int .i64 1)) h fun t16 h =>
    J1 (.bool false) t16 h)
  (J1 (.bool true) .und h))
  (fun t14 t16 h => runD (pickD t14 (.bool true) t16) h fun t17 h =>
  joinW (fun (J2 : AV → AV → List AObj → Prop) =>
  guardW t17 false
  (runD (binD T_int .lss t2 (.int .i64 0)) h fun t20 h =>
    J2 (.bool false) t20 h)
  (J2 (.bool true) .und h))
  (fun t18 t20 h => runD (pickD t18 (.bool true) t20) h fun t21 h =>
  joinW (fun (J3 : AV → AV → List AObj → Prop) =>
  guardW t21 false
  (runD (lenD T_sl_int h t1) h fun t25 h =>
    runD (binD T_int .geq t2 t25) h fun t26 h =>
    J3 (.bool false) t26 h)
  (J3 (.bool true) .und h))
  (fun t22 t26 h => runD (pickD t22 (.bool true) t26) h fun t27 h =>
  condW t27
  (K (.ret (.tup [(.sl true (.mics [])), (.int .i64 1)])) h)
  (runD (buildD T_fast_slot [(0, t2), (1, t3)]) h fun t31 h =>
  runD (buildSliceD T_sl_fast_slot 1 [(0, t31)] h.length) h fun t32 h =>
  callW false c (.fn (.func 77) [] []) [t0, t32] h (fun t33 h =>
  K (.ret (.tup [t33, (.int .i64 0)])) h)
  (fun v h => K (.pan v) h))))))
  (fun v h => K (.pan v) h)
def fast_Slots.loops : Nat → LInfo
  | 1 => ⟨[], [], [], [(4, none), (5, some [10, 15])], [], []⟩
  | _ => ⟨[], [], [], [], [], []⟩
def fast_Slots.H (c : Ctx) (t0 : AV) (t1 : AV) (h : List AObj) (K : AOut → List AObj → Prop) : Prop :=
  callW false c (.fn (.func 88) [] []) [t1] h (fun t8 h =>
  runD (unD .not t8) h fun t9 h =>
  joinW (fun (J1 : AV → AV → List AObj → Prop) =>
  guardW t9 false
  (runD (binD T_int .add t1 (.int .i64 16)) h fun t12 h =>
    runD (lenD T_sl_int h t0) h fun t14 h =>
    runD (binD T_int .gtr t12 t14) h fun t15 h =>
    J1 (.bool false) t15 h)
  (J1 (.bool true) .und h))
  (fun t10 t15 h => runD (pickD t10 (.bool true) t15) h fun t16 h =>
  condW t16
  (K (.ret (.sl true (.ints .i64 []))) h)
  (runD (binD T_int .add t1 (.int .i64 3)) h fun t19 h =>
  runD (binD T_int .add t1 (.int .i64 16)) h fun t21 h =>
  runD (binD T_int .add t1 (.int .i64 16)) h fun t23 h =>
  runD (sliceD T_sl_int h t0 (some t19) (some t21) (some t23)) h fun t24 h =>
  callW false c (.fn (.func 89) [] []) [t24, (.fn (.func 90) [] [])] h (fun t26 h =>
  runD (binD T_int .lss t26 (.int .i64 0)) h fun t28 h =>
  joinW (fun (J2 : AV → List AObj → Prop) =>
  condW t28
  (runD (lenD T_sl_int h t24) h fun t30 h =>
    J2 t30 h)
  (J2 t26 h))
  (fun t6 h => runD (sliceD T_sl_int h t24 none (some t6) none) h fun t33 h =>
  callW false c (.fn (.func 64) [] []) [t33] h (fun t34 h =>
  K (.ret t34) h)
  (fun v h => K (.pan v) h)))
  (fun v h => K (.pan v) h))))
  (fun v h => K (.pan v) h)
def fast_Place.loops : Nat → LInfo
  | 1 => ⟨[], [], [], [(4, none), (2, some [8, 10]), (2, none), (2, some [12, 14])], [], []⟩
  | _ => ⟨[], [], [], [], [], []⟩
def fast_Place.H (c : Ctx) (t0 : AV) (t1 : AV) (h : List AObj) (K : AOut → List AObj → Prop) : Prop :=
  callW false c (.fn (.func 88) [] []) [t0] h (fun t6 h =>
  runD (unD .not t6) h fun t7 h =>
  joinW (fun (J1 : AV → AV → List AObj → Prop) =>
  guardW t7 false
  (runD (binD T_int .lss t1 (.int .i64 0)) h fun t10 h =>
    J1 (.bool false) t10 h)
  (J1 (.bool true) .und h))
  (fun t8 t10 h => runD (pickD t8 (.bool true) t10) h fun t11 h =>
  joinW (fun (J2 : AV → AV → List AObj → Prop) =>
  guardW t11 false
  (runD (binD T_int .geq t1 (.int .i64 13)) h fun t14 h =>
    J2 (.bool false) t14 h)
  (J2 (.bool true) .und h))
  (fun t12 t14 h => runD (pickD t12 (.bool true) t14) h fun t15 h =>
  condW t15
  (K (.ret (.int .i64 (-1))) h)
  (runD (binD T_int .add t0 (.int .i64 3)) h fun t17 h =>
  runD (binD T_int .add t17 t1) h fun t19 h =>
  K (.ret t19) h))))
  (fun v h => K (.pan v) h)
def fast_may.loops : Nat → LInfo
  | 1 => ⟨[], [], [], [(3, none), (3, some [7, 10]), (2, none), (3, some [12, 15])], [], []⟩
  | _ => ⟨[], [], [], [], [], []⟩
def fast_may.H (c : Ctx) (t0 : AV) (t1 : AV) (h : List AObj) (K : AOut → List AObj → Prop) : Prop :=
  callW false c (.fn (.func 88) [] []) [t0] h (fun t6 h =>
  joinW (fun (J1 : AV → AV → List AObj → Prop) =>
  guardW t6 true
  (runD (lenD T_sl_int h t1) h fun t9 h =>
    runD (binD T_int .leq t9 (.int .i64 13)) h fun t10 h =>
    J1 (.bool true) t10 h)
  (J1 (.bool false) .und h))
  (fun t7 t10 h => runD (pickD t7 t10 (.bool false)) h fun t11 h =>
  joinW (fun (J2 : AV → AV → List AObj → Prop) =>
  guardW t11 true
  (callW false c (.fn (.func 99) [] []) [t1, (.fn (.func 106) [] [])] h (fun t14 h =>
    runD (unD .not t14) h fun t15 h =>
    J2 (.bool true) t15 h)
    (fun v h => K (.pan v) h))
  (J2 (.bool false) .und h))
  (fun t12 t15 h => runD (pickD t12 t15 (.bool false)) h fun t16 h =>
  K (.ret t16) h)))
  (fun v h => K (.pan v) h)
def fast_stored.loops : Nat → LInfo
  | 2 => ⟨[4, 10], [true, false], [0, 1, 8, 9], [], [], []⟩
  | 6 => ⟨[], [], [], [(6, none), (12, some [31, 43])], [], []⟩
  | _ => ⟨[], [], [], [], [], []⟩
def fast_stored.L1 (c : Ctx) (J1 : AV → List AObj → Prop) (K : AOut → List AObj → Prop) (lv : List AV) (h0 : List AObj) (n0 : Nat) (c0 : AV) (c1 : AV) (c8 : AV) (c9 : AV) : Prop :=
  ∃ I : Nat → List AV → List AObj → Prop, (∃ n, I n lv h0) ∧ ∀ n h, ∀ t4, ∀ t10, I n [t4, t10] h →
    runD (binD T_int .lss t10 c9) h fun t11 h =>
    condW t11
    (runD (indexAddrD T_sl_fast_slot h c8 t10) h fun t13 h =>
    runD (fitD T_fast_slot (loadD h t13)) h fun t14 h =>
    allocW T_fast_slot h fun t6 h =>
    runH (storeH T_fast_slot h t6 t14) h fun _ h =>
    runD (fieldAddrD T_fast_slot t6 0) h fun t16 h =>
    runD (fitD T_int (loadD h t16)) h fun t17 h =>
    callW false c (.fn (.func 63) [] []) [c0, t17] h (fun t18 h =>
    runD (fieldAddrD T_fast_slot t6 1) h fun t21 h =>
    runD (fitD T_int (loadD h t21)) h fun t22 h =>
    runD (buildD T_api_Micro [(0, (.int .i64 1)), (1, t18), (2, t22)]) h fun t23 h =>
    runD (buildSliceD T_sl_api_Micro 1 [(0, t23)] h.length) h fun t24 h =>
    runDM (appendD T_sl_api_Micro h t4 t24 h.length) (appendH T_sl_api_Micro h t4 t24) h fun t25 h =>
    runD (binD T_int .add t10 (.int .i64 1)) h fun t27 h =>
    runD (lenD T_sl_fast_slot h c1) h fun t29 h =>
    runD (binD T_int .eql t27 t29) h fun t30 h =>
    joinW (fun (J2 : AV → AV → List AObj → Prop) =>
    guardW t30 false
    (runD (binD T_int .add t10 (.int .i64 1)) h fun t35 h =>
      runD (indexAddrD T_sl_fast_slot h c1 t35) h fun t36 h =>
      runD (fieldAddrD T_fast_slot t36 0) h fun t37 h =>
      runD (fitD T_int (loadD h t37)) h fun t38 h =>
      callW false c (.fn (.func 63) [] []) [c0, t38] h (fun t39 h =>
      runD (binD T_int .quo t39 (.int .i64 8)) h fun t40 h =>
      runD (binD T_int .quo t18 (.int .i64 8)) h fun t42 h =>
      runD (binD T_int .neq t40 t42) h fun t43 h =>
      J2 (.bool false) t43 h)
      (fun v h => K (.pan v) h))
    (J2 (.bool true) .und h))
    (fun t31 t43 h => runD (pickD t31 (.bool true) t43) h fun t44 h =>
    joinW (fun (J3 : AV → List AObj → Prop) =>
    condW t44
    (runD (binD T_int .quo t18 (.int .i64 8)) h fun t47 h =>
      runD (buildD T_api_Micro [(0, (.int .i64 2)), (1, t47)]) h fun t48 h =>
      runD (buildSliceD T_sl_api_Micro 1 [(0, t48)] h.length) h fun t49 h =>
      runDM (appendD T_sl_api_Micro h t25 t49 h.length) (appendH T_sl_api_Micro h t25 t49) h fun t50 h =>
      J3 t50 h)
    (J3 t25 h))
    (fun t4 h => runD (binD T_int .add t10 (.int .i64 1)) h fun t51 h =>
    (∃ m, m < n ∧ I m (AV.norms n0 h [t4, t51]) (normH n0 h)) ∧ AV.norms n0 h [c0, c1, c8, c9] = [c0, c1, c8, c9])))
    (fun v h => K (.pan v) h))
    (J1 t4 h)
def fast_stored.H (c : Ctx) (t0 : AV) (t1 : AV) (h : List AObj) (K : AOut → List AObj → Prop) : Prop :=
  runD (lenD T_sl_fast_slot h t1) h fun t9 h =>
  joinW (fun (J1 : AV → List AObj → Prop) =>
  promV [true, false] [(.sl true (.mics [])), (.int .i64 0)] h fun lv h => fast_stored.L1 c J1 K (AV.norms h.length h lv) (normH h.length h) h.length (AV.norm h.length h t0) (AV.norm h.length h t1) (AV.norm h.length h t1) (AV.norm h.length h t9))
  (fun t4 h => callW false c (.fn (.func 107) [] []) [t4, (.int .i64 4096)] h (fun t53 h =>
  runD (unD .not t53) h fun t54 h =>
  condW t54
  (K (.ret (.sl true (.mics []))) h)
  (K (.ret t4) h))
  (fun v h => K (.pan v) h))
def fast_node.loops : Nat → LInfo
  | 1 => ⟨[], [], [], [(3, none), (3, some [5, 8]), (2, none), (3, some [10, 13])], [], []⟩
  | _ => ⟨[], [], [], [], [], []⟩
def fast_node.H (c : Ctx) (t0 : AV) (h : List AObj) (K : AOut → List AObj → Prop) : Prop :=
  runD (binD T_int .geq t0 (.int .i64 0)) h fun t4 h =>
  joinW (fun (J1 : AV → AV → List AObj → Prop) =>
  guardW t4 true
  (runD (binD T_int .add t0 (.int .i64 16)) h fun t7 h =>
    runD (binD T_int .leq t7 (.int .i64 4096)) h fun t8 h =>
    J1 (.bool true) t8 h)
  (J1 (.bool false) .und h))
  (fun t5 t8 h => runD (pickD t5 t8 (.bool false)) h fun t9 h =>
  joinW (fun (J2 : AV → AV → List AObj → Prop) =>
  guardW t9 true
  (runD (binD T_int .rem t0 (.int .i64 16)) h fun t12 h =>
    runD (binD T_int .eql t12 (.int .i64 0)) h fun t13 h =>
    J2 (.bool true) t13 h)
  (J2 (.bool false) .und h))
  (fun t10 t13 h => runD (pickD t10 t13 (.bool false)) h fun t14 h =>
  K (.ret t14) h))
def fast_Slots_1.loops : Nat → LInfo
  | _ => ⟨[], [], [], [], [], []⟩
def fast_Slots_1.H (c : Ctx) (t0 : AV) (h : List AObj) (K : AOut → List AObj → Prop) : Prop :=
  runD (binD T_int .lss t0 (.int .i64 1)) h fun t4 h =>
  K (.ret t4) h
def fast_may_1.loops : Nat → LInfo
  | _ => ⟨[], [], [], [], [], []⟩
def fast_may_1.H (c : Ctx) (t0 : AV) (h : List AObj) (K : AOut → List AObj → Prop) : Prop :=
  runD (binD T_int .lss t0 (.int .i64 1)) h fun t4 h =>
  K (.ret t4) h
theorem fast_Cut.eq (F : List (FuncId × Contract)) (S : List (FuncId × Con)) (t0 t1 t2 : AV) (h : List AObj) (K : AOut → List AObj → Prop) : funW (ctx F S fast_Cut.loops) Try.f46 [t0, t1, t2] h K = fast_Cut.H (ctx F S fast_Cut.loops) t0 t1 t2 h K := by kernel_rfl
theorem fast_Swap.eq (F : List (FuncId × Contract)) (S : List (FuncId × Con)) (t0 t1 t2 t3 : AV) (h : List AObj) (K : AOut → List AObj → Prop) : funW (ctx F S fast_Swap.loops) Try.f47 [t0, t1, t2, t3] h K = fast_Swap.H (ctx F S fast_Swap.loops) t0 t1 t2 t3 h K := by kernel_rfl
theorem fast_Slots.eq (F : List (FuncId × Contract)) (S : List (FuncId × Con)) (t0 t1 : AV) (h : List AObj) (K : AOut → List AObj → Prop) : funW (ctx F S fast_Slots.loops) Try.f58 [t0, t1] h K = fast_Slots.H (ctx F S fast_Slots.loops) t0 t1 h K := by kernel_rfl
theorem fast_Place.eq (F : List (FuncId × Contract)) (S : List (FuncId × Con)) (t0 t1 : AV) (h : List AObj) (K : AOut → List AObj → Prop) : funW (ctx F S fast_Place.loops) Try.f63 [t0, t1] h K = fast_Place.H (ctx F S fast_Place.loops) t0 t1 h K := by kernel_rfl
theorem fast_may.eq (F : List (FuncId × Contract)) (S : List (FuncId × Con)) (t0 t1 : AV) (h : List AObj) (K : AOut → List AObj → Prop) : funW (ctx F S fast_may.loops) Try.f76 [t0, t1] h K = fast_may.H (ctx F S fast_may.loops) t0 t1 h K := by kernel_rfl
theorem fast_stored.eq (F : List (FuncId × Contract)) (S : List (FuncId × Con)) (t0 t1 : AV) (h : List AObj) (K : AOut → List AObj → Prop) : funW (ctx F S fast_stored.loops) Try.f77 [t0, t1] h K = fast_stored.H (ctx F S fast_stored.loops) t0 t1 h K := by kernel_rfl
theorem fast_node.eq (F : List (FuncId × Contract)) (S : List (FuncId × Con)) (t0 : AV) (h : List AObj) (K : AOut → List AObj → Prop) : funW (ctx F S fast_node.loops) Try.f88 [t0] h K = fast_node.H (ctx F S fast_node.loops) t0 h K := by kernel_rfl
theorem fast_Slots_1.eq (F : List (FuncId × Contract)) (S : List (FuncId × Con)) (t0 : AV) (h : List AObj) (K : AOut → List AObj → Prop) : funW (ctx F S fast_Slots_1.loops) Try.f90 [t0] h K = fast_Slots_1.H (ctx F S fast_Slots_1.loops) t0 h K := by kernel_rfl
theorem fast_may_1.eq (F : List (FuncId × Contract)) (S : List (FuncId × Con)) (t0 : AV) (h : List AObj) (K : AOut → List AObj → Prop) : funW (ctx F S fast_may_1.loops) Try.f106 [t0] h K = fast_may_1.H (ctx F S fast_may_1.loops) t0 h K := by kernel_rfl
theorem fast_Cut.at : Try.prog.funcs[46]? = some Try.f46 := by kernel_rfl
theorem fast_Cut.nm : (Try.f46.name == "runtime.NumGoroutine") = false := by kernel_rfl
theorem fast_Cut.bd : Try.f46.body.isNone = false := by kernel_rfl
theorem fast_Swap.at : Try.prog.funcs[47]? = some Try.f47 := by kernel_rfl
theorem fast_Swap.nm : (Try.f47.name == "runtime.NumGoroutine") = false := by kernel_rfl
theorem fast_Swap.bd : Try.f47.body.isNone = false := by kernel_rfl
theorem fast_Slots.at : Try.prog.funcs[58]? = some Try.f58 := by kernel_rfl
theorem fast_Slots.nm : (Try.f58.name == "runtime.NumGoroutine") = false := by kernel_rfl
theorem fast_Slots.bd : Try.f58.body.isNone = false := by kernel_rfl
theorem fast_Place.at : Try.prog.funcs[63]? = some Try.f63 := by kernel_rfl
theorem fast_Place.nm : (Try.f63.name == "runtime.NumGoroutine") = false := by kernel_rfl
theorem fast_Place.bd : Try.f63.body.isNone = false := by kernel_rfl
theorem fast_may.at : Try.prog.funcs[76]? = some Try.f76 := by kernel_rfl
theorem fast_may.nm : (Try.f76.name == "runtime.NumGoroutine") = false := by kernel_rfl
theorem fast_may.bd : Try.f76.body.isNone = false := by kernel_rfl
theorem fast_stored.at : Try.prog.funcs[77]? = some Try.f77 := by kernel_rfl
theorem fast_stored.nm : (Try.f77.name == "runtime.NumGoroutine") = false := by kernel_rfl
theorem fast_stored.bd : Try.f77.body.isNone = false := by kernel_rfl
theorem fast_node.at : Try.prog.funcs[88]? = some Try.f88 := by kernel_rfl
theorem fast_node.nm : (Try.f88.name == "runtime.NumGoroutine") = false := by kernel_rfl
theorem fast_node.bd : Try.f88.body.isNone = false := by kernel_rfl
theorem fast_Slots_1.at : Try.prog.funcs[90]? = some Try.f90 := by kernel_rfl
theorem fast_Slots_1.nm : (Try.f90.name == "runtime.NumGoroutine") = false := by kernel_rfl
theorem fast_Slots_1.bd : Try.f90.body.isNone = false := by kernel_rfl
theorem fast_may_1.at : Try.prog.funcs[106]? = some Try.f106 := by kernel_rfl
theorem fast_may_1.nm : (Try.f106.name == "runtime.NumGoroutine") = false := by kernel_rfl
theorem fast_may_1.bd : Try.f106.body.isNone = false := by kernel_rfl
end Lam
namespace Lam
open Go Go.Proofs
set_option linter.unusedVariables false
def node_Read.loops : Nat → LInfo
  | 1 => ⟨[], [], [], [(3, none), (5, some [12, 17])], [], []⟩
  | 6 => ⟨[], [], [], [(3, none), (4, some [52, 56])], [], []⟩
  | _ => ⟨[], [], [], [], [], []⟩
def node_Read.H (c : Ctx) (t0 : AV) (t1 : AV) (h : List AObj) (K : AOut → List AObj → Prop) : Prop :=
  allocW T_api_Node h fun t4 h =>
  runD (binD T_int .lss t1 (.int .i64 0)) h fun t11 h =>
  joinW (fun (J1 : AV → AV → List AObj → Prop) =>
  guardW t11 false
  (runD (lenD T_sl_int h t0) h fun t15 h =>
    runD (binD T_int .quo t15 (.int .i64 16)) h fun t16 h =>
    runD (binD T_int .geq t1 t16) h fun t17 h =>
    J1 (.bool false) t17 h)
  (J1 (.bool true) .und h))
  (fun t12 t17 h => runD (pickD t12 (.bool true) t17) h fun t18 h =>
  condW t18
  (runD (buildD T_api_Node []) h fun t19 h =>
    runH (storeH T_api_Node h t4 t19) h fun _ h =>
    loadRes (fitD T_api_Node (loadD h t4)) fun r0 => K (.ret (.tup [r0, (.int .i64 1)])) h)
  (runD (binD T_int .mul (.int .i64 16) t1) h fun t22 h =>
  runD (binD T_int .add t1 (.int .i64 1)) h fun t24 h =>
  runD (binD T_int .mul (.int .i64 16) t24) h fun t25 h =>
  runD (sliceD T_sl_int h t0 (some t22) (some t25) none) h fun t26 h =>
  runD (indexAddrD T_sl_int h t26 (.int .i64 0)) h fun t28 h =>
  runD (fitD T_int (loadD h t28)) h fun t29 h =>
  runD (binD T_int .and t29 (.int .i64 15)) h fun t30 h =>
  runD (indexAddrD T_sl_int h t26 (.int .i64 0)) h fun t32 h =>
  runD (fitD T_int (loadD h t32)) h fun t33 h =>
  runD (binD T_int .andNot t33 (.int .i64 1152921504606846976)) h fun t34 h =>
  runD (binD T_int .shr t34 (.int .u64 4)) h fun t35 h =>
  runD (indexAddrD T_sl_int h t26 (.int .i64 1)) h fun t37 h =>
  runD (fitD T_int (loadD h t37)) h fun t38 h =>
  runD (indexAddrD T_sl_int h t26 (.int .i64 2)) h fun t40 h =>
  runD (fitD T_int (loadD h t40)) h fun t41 h =>
  callW false c.noS (.fn (.func 58) [] []) [t26, (.int .i64 0)] h (fun t43 h =>
  runD (buildD T_api_Node [(0, t30), (1, t35), (2, t38), (3, t41), (4, t43)]) h fun t44 h =>
  allocW T_api_Node h fun t7 h =>
  runH (storeH T_api_Node h t7 t44) h fun _ h =>
  runD (fitD T_api_Node (loadD h t7)) h fun t46 h =>
  callW false c (.fn (.func 35) [] []) [t46] h (fun t47 h =>
  runD (extractD t47 0) h fun t48 h =>
  runD (extractD t47 1) h fun t49 h =>
  runD (binD T_api_Errno .neq t49 (.int .i64 0)) h fun t51 h =>
  joinW (fun (J2 : AV → AV → List AObj → Prop) =>
  guardW t51 false
  (callW false c (.fn (.func 59) [] []) [t48, t26] h (fun t55 h =>
    runD (unD .not t55) h fun t56 h =>
    J2 (.bool false) t56 h)
    (fun v h => K (.pan v) h))
  (J2 (.bool true) .und h))
  (fun t52 t56 h => runD (pickD t52 (.bool true) t56) h fun t57 h =>
  condW t57
  (runD (buildD T_api_Node []) h fun t58 h =>
    runH (storeH T_api_Node h t4 t58) h fun _ h =>
    loadRes (fitD T_api_Node (loadD h t4)) fun r0 => K (.ret (.tup [r0, (.int .i64 90)])) h)
  (runD (fitD T_api_Node (loadD h t7)) h fun t59 h =>
  runH (storeH T_api_Node h t4 t59) h fun _ h =>
  loadRes (fitD T_api_Node (loadD h t4)) fun r0 => K (.ret (.tup [r0, (.int .i64 0)])) h)))
  (fun v h => K (.pan v) h))
  (fun _ _ => False)))
def node_Words.loops : Nat → LInfo
  | _ => ⟨[], [], [], [], [], []⟩
def node_Words.H (c : Ctx) (t0 : AV) (h : List AObj) (K : AOut → List AObj → Prop) : Prop :=
  boxW T_api_Node t0 h fun t1 h =>
  runD (fitD T_api_Node (loadD h t1)) h fun t5 h =>
  callW false c (.fn (.func 71) [] []) [t5] h (fun t6 h =>
  runD (unD .not t6) h fun t7 h =>
  condW t7
  (K (.ret (.tup [(.sl true (.ints .i64 [])), (.int .i64 90)])) h)
  (runD (makeSliceD T_sl_int (.int .i64 16) (.int .i64 16) h.length) h fun t8 h =>
  runD (fitD T_api_Node (loadD h t1)) h fun t12 h =>
  callW false c.noS (.fn (.func 72) [] []) [t12] h (fun t13 h =>
  runD (fieldAddrD T_api_Node t1 2) h fun t14 h =>
  runD (fitD T_int (loadD h t14)) h fun t15 h =>
  runD (fieldAddrD T_api_Node t1 3) h fun t16 h =>
  runD (fitD T_int (loadD h t16)) h fun t17 h =>
  runD (indexAddrD T_sl_int h t8 (.int .i64 0)) h fun t18 h =>
  runH (storeH T_int h t18 t13) h fun _ h =>
  runD (indexAddrD T_sl_int h t8 (.int .i64 1)) h fun t19 h =>
  runH (storeH T_int h t19 t15) h fun _ h =>
  runD (indexAddrD T_sl_int h t8 (.int .i64 2)) h fun t20 h =>
  runH (storeH T_int h t20 t17) h fun _ h =>
  sepB t18 [t14] = true ∧ sepB t18 [t16] = true ∧ sepB t19 [t16] = true ∧ runD (sliceD T_sl_int h t8 (some (.int .i64 3)) none none) h fun t22 h =>
  runD (fieldAddrD T_api_Node t1 4) h fun t23 h =>
  runD (fitD T_sl_int (loadD h t23)) h fun t24 h =>
  runM (copyH T_sl_int h t22 t24) h fun t25 h =>
  K (.ret (.tup [t8, (.int .i64 0)])) h)
  (fun _ _ => False)))
  (fun v h => K (.pan v) h)
def node_Check.loops : Nat → LInfo
  | 10 => ⟨[], [], [], [(2, none), (4, some [32, 36])], [], []⟩
  | _ => ⟨[], [], [], [], [], []⟩
def node_Check.H (c : Ctx) (t0 : AV) (h : List AObj) (K : AOut → List AObj → Prop) : Prop :=
  boxW T_api_Node t0 h fun t1 h =>
  joinW (fun (J1 : AV → List AObj → Prop) =>
  joinW (fun (J2 : List AObj → Prop) =>
  joinW (fun (J3 : List AObj → Prop) =>
  runD (fieldAddrD T_api_Node t1 0) h fun t5 h =>
  runD (fitD T_int (loadD h t5)) h fun t6 h =>
  runD (binD T_int .lss t6 (.int .i64 0)) h fun t7 h =>
  joinW (fun (J4 : AV → List AObj → Prop) =>
  condW t7
  (J4 t7 h)
  (runD (fieldAddrD T_api_Node t1 0) h fun t8 h =>
    runD (fitD T_int (loadD h t8)) h fun t9 h =>
    runD (binD T_int .gtr t9 (.int .i64 9)) h fun t10 h =>
    J4 t10 h))
  (fun t4 h => condW t4
  (J3 h)
  (runD (fieldAddrD T_api_Node t1 1) h fun t12 h =>
  runD (fitD T_int (loadD h t12)) h fun t13 h =>
  runD (binD T_int .lss t13 (.int .i64 0)) h fun t14 h =>
  joinW (fun (J5 : AV → List AObj → Prop) =>
  condW t14
  (J5 t14 h)
  (runD (fieldAddrD T_api_Node t1 1) h fun t15 h =>
    runD (fitD T_int (loadD h t15)) h fun t16 h =>
    runD (binD T_int .gtr t16 (.int .i64 1099511627776)) h fun t17 h =>
    J5 t17 h))
  (fun t11 h => condW t11
  (J3 h)
  (runD (fieldAddrD T_api_Node t1 2) h fun t19 h =>
  runD (fitD T_int (loadD h t19)) h fun t20 h =>
  callW false c (.fn (.func 98) [] []) [t20] h (fun t21 h =>
  runD (unD .not t21) h fun t22 h =>
  joinW (fun (J6 : AV → List AObj → Prop) =>
  condW t22
  (J6 t22 h)
  (runD (fieldAddrD T_api_Node t1 3) h fun t23 h =>
    runD (fitD T_int (loadD h t23)) h fun t24 h =>
    callW false c (.fn (.func 98) [] []) [t24] h (fun t25 h =>
    runD (unD .not t25) h fun t26 h =>
    joinW (fun (J7 : AV → List AObj → Prop) =>
    condW t26
    (J7 t26 h)
    (runD (fieldAddrD T_api_Node t1 4) h fun t27 h =>
      runD (fitD T_sl_int (loadD h t27)) h fun t28 h =>
      runD (lenD T_sl_int h t28) h fun t29 h =>
      runD (binD T_int .gtr t29 (.int .i64 13)) h fun t30 h =>
      J7 t30 h))
    (fun t18 h => J6 t18 h))
    (fun v h => K (.pan v) h)))
  (fun t18 h => condW t18
  (J2 h)
  (J1 (.bool true) h)))
  (fun v h => K (.pan v) h))))))
  (fun h => J2 h))
  (fun h => J1 (.bool false) h))
  (fun t3 h => joinW (fun (J8 : AV → AV → List AObj → Prop) =>
  guardW t3 true
  (runD (fieldAddrD T_api_Node t1 4) h fun t33 h =>
    runD (fitD T_sl_int (loadD h t33)) h fun t34 h =>
    callW false c (.fn (.func 99) [] []) [t34, (.fn (.func 100) [] [])] h (fun t35 h =>
    runD (unD .not t35) h fun t36 h =>
    J8 (.bool true) t36 h)
    (fun v h => K (.pan v) h))
  (J8 (.bool false) .und h))
  (fun t32 t36 h => runD (pickD t32 t36 (.bool false)) h fun t37 h =>
  K (.ret t37) h))
def node_first.loops : Nat → LInfo
  | _ => ⟨[], [], [], [], [], []⟩
def node_first.H (c : Ctx) (t0 : AV) (h : List AObj) (K : AOut → List AObj → Prop) : Prop :=
  boxW T_api_Node t0 h fun t1 h =>
  runD (fieldAddrD T_api_Node t1 1) h fun t3 h =>
  runD (fitD T_int (loadD h t3)) h fun t4 h =>
  runD (binD T_int .shl t4 (.int .u64 4)) h fun t5 h =>
  runD (binD T_int .or (.int .i64 1152921504606846976) t5) h fun t6 h =>
  runD (fieldAddrD T_api_Node t1 0) h fun t7 h =>
  runD (fitD T_int (loadD h t7)) h fun t8 h =>
  runD (binD T_int .or t6 t8) h fun t9 h =>
  K (.ret t9) h
def node_block.loops : Nat → LInfo
  | 1 => ⟨[], [], [], [(3, none), (2, some [5, 7])], [], []⟩
  | _ => ⟨[], [], [], [], [], []⟩
def node_block.H (c : Ctx) (t0 : AV) (h : List AObj) (K : AOut → List AObj → Prop) : Prop :=
  runD (binD T_int .geq t0 (.int .i64 0)) h fun t4 h =>
  joinW (fun (J1 : AV → AV → List AObj → Prop) =>
  guardW t4 true
  (runD (binD T_int .lss t0 (.int .i64 256)) h fun t7 h =>
    J1 (.bool true) t7 h)
  (J1 (.bool false) .und h))
  (fun t5 t7 h => runD (pickD t5 t7 (.bool false)) h fun t8 h =>
  K (.ret t8) h)
def node_Check_1.loops : Nat → LInfo
  | 1 => ⟨[], [], [], [(3, none), (3, some [5, 8])], [], []⟩
  | _ => ⟨[], [], [], [], [], []⟩
def node_Check_1.H (c : Ctx) (t0 : AV) (h : List AObj) (K : AOut → List AObj → Prop) : Prop :=
  runD (binD T_int .eql t0 (.int .i64 0)) h fun t4 h =>
  joinW (fun (J1 : AV → AV → List AObj → Prop) =>
  guardW t4 false
  (callW false c (.fn (.func 98) [] []) [t0] h (fun t7 h =>
    runD (unD .not t7) h fun t8 h =>
    J1 (.bool false) t8 h)
    (fun v h => K (.pan v) h))
  (J1 (.bool true) .und h))
  (fun t5 t8 h => runD (pickD t5 (.bool true) t8) h fun t9 h =>
  K (.ret t9) h)
theorem node_Read.eq (F : List (FuncId × Contract)) (S : List (FuncId × Con)) (t0 t1 : AV) (h : List AObj) (K : AOut → List AObj → Prop) : funW (ctx F S node_Read.loops) Try.f23 [t0, t1] h K = node_Read.H (ctx F S node_Read.loops) t0 t1 h K := by kernel_rfl
theorem node_Words.eq (F : List (FuncId × Contract)) (S : List (FuncId × Con)) (t0 : AV) (h : List AObj) (K : AOut → List AObj → Prop) : funW (ctx F S node_Words.loops) Try.f35 [t0] h K = node_Words.H (ctx F S node_Words.loops) t0 h K := by kernel_rfl
theorem node_Check.eq (F : List (FuncId × Contract)) (S : List (FuncId × Con)) (t0 : AV) (h : List AObj) (K : AOut → List AObj → Prop) : funW (ctx F S node_Check.loops) Try.f71 [t0] h K = node_Check.H (ctx F S node_Check.loops) t0 h K := by kernel_rfl
theorem node_first.eq (F : List (FuncId × Contract)) (S : List (FuncId × Con)) (t0 : AV) (h : List AObj) (K : AOut → List AObj → Prop) : funW (ctx F S node_first.loops) Try.f72 [t0] h K = node_first.H (ctx F S node_first.loops) t0 h K := by kernel_rfl
theorem node_block.eq (F : List (FuncId × Contract)) (S : List (FuncId × Con)) (t0 : AV) (h : List AObj) (K : AOut → List AObj → Prop) : funW (ctx F S node_block.loops) Try.f98 [t0] h K = node_block.H (ctx F S node_block.loops) t0 h K := by kernel_rfl
theorem node_Check_1.eq (F : List (FuncId × Contract)) (S : List (FuncId × Con)) (t0 : AV) (h : List AObj) (K : AOut → List AObj → Prop) : funW (ctx F S node_Check_1.loops) Try.f100 [t0] h K = node_Check_1.H (ctx F S node_Check_1.loops) t0 h K := by kernel_rfl
theorem node_Read.at : Try.prog.funcs[23]? = some Try.f23 := by kernel_rfl
theorem node_Read.nm : (Try.f23.name == "runtime.NumGoroutine") = false := by kernel_rfl
theorem node_Read.bd : Try.f23.body.isNone = false := by kernel_rfl
theorem node_Words.at : Try.prog.funcs[35]? = some Try.f35 := by kernel_rfl
theorem node_Words.nm : (Try.f35.name == "runtime.NumGoroutine") = false := by kernel_rfl
theorem node_Words.bd : Try.f35.body.isNone = false := by kernel_rfl
theorem node_Check.at : Try.prog.funcs[71]? = some Try.f71 := by kernel_rfl
theorem node_Check.nm : (Try.f71.name == "runtime.NumGoroutine") = false := by kernel_rfl
theorem node_Check.bd : Try.f71.body.isNone = false := by kernel_rfl
theorem node_first.at : Try.prog.funcs[72]? = some Try.f72 := by kernel_rfl
theorem node_first.nm : (Try.f72.name == "runtime.NumGoroutine") = false := by kernel_rfl
theorem node_first.bd : Try.f72.body.isNone = false := by kernel_rfl
theorem node_block.at : Try.prog.funcs[98]? = some Try.f98 := by kernel_rfl
theorem node_block.nm : (Try.f98.name == "runtime.NumGoroutine") = false := by kernel_rfl
theorem node_block.bd : Try.f98.body.isNone = false := by kernel_rfl
theorem node_Check_1.at : Try.prog.funcs[100]? = some Try.f100 := by kernel_rfl
theorem node_Check_1.nm : (Try.f100.name == "runtime.NumGoroutine") = false := by kernel_rfl
theorem node_Check_1.bd : Try.f100.body.isNone = false := by kernel_rfl
end Lam
namespace Lam
open Go Go.Proofs
set_option linter.unusedVariables false
def pmem_New.loops : Nat → LInfo
  | _ => ⟨[], [], [], [], [], []⟩
def pmem_New.H (c : Ctx) (t0 : AV) (h : List AObj) (K : AOut → List AObj → Prop) : Prop :=
  allocW T_api_Mem h fun t2 h =>
  runD (lenD T_sl_int h t0) h fun t5 h =>
  callW false c (.fn (.func 78) [] []) [t5] h (fun t6 h =>
  runD (unD .not t6) h fun t7 h =>
  condW t7
  (runD (buildD T_api_Mem []) h fun t8 h =>
    runH (storeH T_api_Mem h t2 t8) h fun _ h =>
    loadRes (fitD T_api_Mem (loadD h t2)) fun r0 => K (.ret (.tup [r0, (.int .i64 40)])) h)
  (callW false c (.fn (.func 64) [] []) [t0] h (fun t10 h =>
  callW false c (.fn (.func 64) [] []) [t0] h (fun t12 h =>
  runD (buildD T_api_Mem [(0, t10), (1, t12)]) h fun t13 h =>
  runH (storeH T_api_Mem h t2 t13) h fun _ h =>
  loadRes (fitD T_api_Mem (loadD h t2)) fun r0 => K (.ret (.tup [r0, (.int .i64 0)])) h)
  (fun v h => K (.pan v) h))
  (fun v h => K (.pan v) h)))
  (fun v h => K (.pan v) h)
def pmem_sized.loops : Nat → LInfo
  | 1 => ⟨[], [], [], [(3, none), (3, some [5, 8])], [], []⟩
  | _ => ⟨[], [], [], [], [], []⟩
def pmem_sized.H (c : Ctx) (t0 : AV) (h : List AObj) (K : AOut → List AObj → Prop) : Prop :=
  runD (binD T_int .leq t0 (.int .i64 4096)) h fun t4 h =>
  joinW (fun (J1 : AV → AV → List AObj → Prop) =>
  guardW t4 true
  (runD (binD T_int .rem t0 (.int .i64 8)) h fun t7 h =>
    runD (binD T_int .eql t7 (.int .i64 0)) h fun t8 h =>
    J1 (.bool true) t8 h)
  (J1 (.bool false) .und h))
  (fun t5 t8 h => runD (pickD t5 t8 (.bool false)) h fun t9 h =>
  K (.ret t9) h)
def pmem_Check.loops : Nat → LInfo
  | 1 => ⟨[], [], [], [(8, none), (5, some [14, 19])], [], []⟩
  | 6 => ⟨[28], [false], [1, 3, 4, 26, 27], [], [], []⟩
  | 8 => ⟨[], [], [], [(4, none), (5, some [35, 40]), (2, none), (9, some [42, 51])], [], []⟩
  | 10 => ⟨[], [], [], [(10, none), (3, some [62, 65])], [], []⟩
  | _ => ⟨[], [], [], [], [], []⟩
def pmem_Check.L1 (c : Ctx) (J2 : AV → AV → List AObj → Prop) (K : AOut → List AObj → Prop) (lv : List AV) (h0 : List AObj) (n0 : Nat) (c1 : AV) (c3 : AV) (c4 : AV) (c26 : AV) (c27 : AV) : Prop :=
  ∃ I : Nat → List AV → List AObj → Prop, (∃ n, I n lv h0) ∧ ∀ n h, ∀ t28, I n [t28] h →
    runD (binD T_int .lss t28 c27) h fun t29 h =>
    condW t29
    (runD (indexAddrD T_sl_api_Pending h c26 t28) h fun t30 h =>
    runD (fitD T_api_Pending (loadD h t30)) h fun t31 h =>
    allocW T_api_Pending h fun t6 h =>
    runH (storeH T_api_Pending h t6 t31) h fun _ h =>
    runD (fieldAddrD T_api_Pending t6 0) h fun t32 h =>
    runD (fitD T_int (loadD h t32)) h fun t33 h =>
    runD (binD T_int .lss t33 (.int .i64 0)) h fun t34 h =>
    joinW (fun (J3 : AV → AV → List AObj → Prop) =>
    guardW t34 false
    (runD (fieldAddrD T_api_Pending t6 0) h fun t36 h =>
      runD (fitD T_int (loadD h t36)) h fun t37 h =>
      runD (lenD T_sl_int h c3) h fun t39 h =>
      runD (binD T_int .geq t37 t39) h fun t40 h =>
      J3 (.bool false) t40 h)
    (J3 (.bool true) .und h))
    (fun t35 t40 h => runD (pickD t35 (.bool true) t40) h fun t41 h =>
    joinW (fun (J4 : AV → AV → List AObj → Prop) =>
    guardW t41 false
    (runD (fieldAddrD T_api_Pending t6 2) h fun t43 h =>
      runD (fitD T_bool (loadD h t43)) h fun t44 h =>
      joinW (fun (J5 : AV → AV → List AObj → Prop) =>
      guardW t44 true
      (runD (fieldAddrD T_api_Pending t6 0) h fun t47 h =>
        runD (fitD T_int (loadD h t47)) h fun t48 h =>
        runD (binD T_int .quo t48 (.int .i64 8)) h fun t49 h =>
        runD (lookupD T_map_int_bool h c4 t49) h fun t50 h =>
        J5 (.bool true) t50 h)
      (J5 (.bool false) .und h))
      (fun t45 t50 h => runD (pickD t45 t50 (.bool false)) h fun t51 h =>
      J4 (.bool false) t51 h))
    (J4 (.bool true) .und h))
    (fun t42 t51 h => runD (pickD t42 (.bool true) t51) h fun t52 h =>
    condW t52
    (K (.ret (.bool false)) h)
    (runD (fieldAddrD T_api_Pending t6 0) h fun t54 h =>
    runD (fitD T_int (loadD h t54)) h fun t55 h =>
    runD (binD T_int .quo t55 (.int .i64 8)) h fun t56 h =>
    runD (fieldAddrD T_api_Pending t6 0) h fun t58 h =>
    runD (fitD T_int (loadD h t58)) h fun t59 h =>
    runD (binD T_int .quo t59 (.int .i64 8)) h fun t60 h =>
    runD (lookupD T_map_int_bool h c4 t60) h fun t61 h =>
    joinW (fun (J6 : AV → AV → List AObj → Prop) =>
    guardW t61 false
    (runD (fieldAddrD T_api_Pending t6 2) h fun t63 h =>
      runD (fitD T_bool (loadD h t63)) h fun t64 h =>
      runD (unD .not t64) h fun t65 h =>
      J6 (.bool false) t65 h)
    (J6 (.bool true) .und h))
    (fun t62 t65 h => runD (pickD t62 (.bool true) t65) h fun t66 h =>
    runH (mapSetH T_map_int_bool h c4 t56 t66) h fun _ h =>
    runD (fieldAddrD T_api_Pending t6 0) h fun t68 h =>
    runD (fitD T_int (loadD h t68)) h fun t69 h =>
    runD (fieldAddrD T_api_Pending t6 1) h fun t70 h =>
    runD (fitD T_int (loadD h t70)) h fun t71 h =>
    runD (indexAddrD T_sl_int h c3 t69) h fun t72 h =>
    runH (storeH T_int h t72 t71) h fun _ h =>
    runD (binD T_int .add t28 (.int .i64 1)) h fun t73 h =>
    (∃ m, m < n ∧ I m (AV.norms n0 h [t73]) (normH n0 h)) ∧ AV.norms n0 h [c1, c3, c4, c26, c27] = [c1, c3, c4, c26, c27])))))
    (J2 c1 c3 h)
def pmem_Check.H (c : Ctx) (t0 : AV) (h : List AObj) (K : AOut → List AObj → Prop) : Prop :=
  boxW T_api_Mem t0 h fun t1 h =>
  runD (fieldAddrD T_api_Mem t1 0) h fun t7 h =>
  runD (fitD T_sl_int (loadD h t7)) h fun t8 h =>
  runD (lenD T_sl_int h t8) h fun t9 h =>
  runD (fieldAddrD T_api_Mem t1 1) h fun t10 h =>
  runD (fitD T_sl_int (loadD h t10)) h fun t11 h =>
  runD (lenD T_sl_int h t11) h fun t12 h =>
  runD (binD T_int .neq t9 t12) h fun t13 h =>
  joinW (fun (J1 : AV → AV → List AObj → Prop) =>
  guardW t13 false
  (runD (fieldAddrD T_api_Mem t1 0) h fun t15 h =>
    runD (fitD T_sl_int (loadD h t15)) h fun t16 h =>
    runD (lenD T_sl_int h t16) h fun t17 h =>
    callW false c (.fn (.func 78) [] []) [t17] h (fun t18 h =>
    runD (unD .not t18) h fun t19 h =>
    J1 (.bool false) t19 h)
    (fun v h => K (.pan v) h))
  (J1 (.bool true) .und h))
  (fun t14 t19 h => runD (pickD t14 (.bool true) t19) h fun t20 h =>
  condW t20
  (K (.ret (.bool false)) h)
  (runD (fieldAddrD T_api_Mem t1 1) h fun t21 h =>
  runD (fitD T_sl_int (loadD h t21)) h fun t22 h =>
  callW false c (.fn (.func 64) [] []) [t22] h (fun t23 h =>
  runD (makeMapD T_map_int_bool h.length) h fun t24 h =>
  runD (fieldAddrD T_api_Mem t1 2) h fun t25 h =>
  runD (fitD T_sl_api_Pending (loadD h t25)) h fun t26 h =>
  runD (lenD T_sl_api_Pending h t26) h fun t27 h =>
  joinW (fun (J2 : AV → AV → List AObj → Prop) =>
  promV [false] [(.int .i64 0)] h fun lv h => pmem_Check.L1 c J2 K (AV.norms h.length h lv) (normH h.length h) h.length (AV.norm h.length h t1) (AV.norm h.length h t23) (AV.norm h.length h t24) (AV.norm h.length h t26) (AV.norm h.length h t27))
  (fun t1 t3 h => runD (fieldAddrD T_api_Mem t1 0) h fun t75 h =>
  runD (fitD T_sl_int (loadD h t75)) h fun t76 h =>
  callW false c (.fn (.func 59) [] []) [t3, t76] h (fun t77 h =>
  K (.ret t77) h)
  (fun v h => K (.pan v) h)))
  (fun v h => K (.pan v) h)))
def pmem_Put.loops : Nat → LInfo
  | _ => ⟨[], [], [], [], [], []⟩
def pmem_Put.H (c : Ctx) (t0 : AV) (t1 : AV) (t2 : AV) (h : List AObj) (K : AOut → List AObj → Prop) : Prop :=
  boxW T_api_Mem t0 h fun t3 h =>
  allocW T_api_Mem h fun t6 h =>
  runD (fitD T_api_Mem (loadD h t3)) h fun t9 h =>
  callW false c (.fn (.func 159) [] []) [t9, t1] h (fun t11 h =>
  runD (unD .not t11) h fun t12 h =>
  condW t12
  (runD (fitD T_api_Mem (loadD h t3)) h fun t13 h =>
    runH (storeH T_api_Mem h t6 t13) h fun _ h =>
    loadRes (fitD T_api_Mem (loadD h t6)) fun r0 => K (.ret (.tup [r0, (.int .i64 40)])) h)
  (runD (fieldAddrD T_api_Mem t3 0) h fun t14 h =>
  runD (fitD T_sl_int (loadD h t14)) h fun t15 h =>
  runD (lenD T_sl_int h t15) h fun t16 h =>
  runD (makeSliceD T_sl_int t16 t16 h.length) h fun t17 h =>
  runD (fieldAddrD T_api_Mem t3 0) h fun t19 h =>
  runD (fitD T_sl_int (loadD h t19)) h fun t20 h =>
  runM (copyH T_sl_int h t17 t20) h fun t21 h =>
  runD (indexAddrD T_sl_int h t17 t1) h fun t25 h =>
  runH (storeH T_int h t25 t2) h fun _ h =>
  runD (fieldAddrD T_api_Mem t3 1) h fun t27 h =>
  runD (fitD T_sl_int (loadD h t27)) h fun t28 h =>
  runD (fieldAddrD T_api_Mem t3 2) h fun t29 h =>
  runD (fitD T_sl_api_Pending (loadD h t29)) h fun t30 h =>
  callW false c.noS (.fn (.func 160) [] []) [t30] h (fun t31 h =>
  runD (buildD T_api_Pending [(0, t1), (1, t2)]) h fun t34 h =>
  runD (buildSliceD T_sl_api_Pending 1 [(0, t34)] h.length) h fun t35 h =>
  runDM (appendD T_sl_api_Pending h t31 t35 h.length) (appendH T_sl_api_Pending h t31 t35) h fun t36 h =>
  runD (buildD T_api_Mem [(0, t17), (1, t28), (2, t36)]) h fun t37 h =>
  runH (storeH T_api_Mem h t6 t37) h fun _ h =>
  sepB t31 [t27] = true ∧ loadRes (fitD T_api_Mem (loadD h t6)) fun r0 => K (.ret (.tup [r0, (.int .i64 0)])) h)
  (fun _ _ => False)))
  (fun v h => K (.pan v) h)
def pmem_Flush.loops : Nat → LInfo
  | _ => ⟨[], [], [], [], [], []⟩
def pmem_Flush.H (c : Ctx) (t0 : AV) (t1 : AV) (h : List AObj) (K : AOut → List AObj → Prop) : Prop :=
  boxW T_api_Mem t0 h fun t2 h =>
  allocW T_api_Mem h fun t4 h =>
  runD (fitD T_api_Mem (loadD h t2)) h fun t8 h =>
  runD (fitD T_api_Mem (loadD h t2)) h fun t9 h =>
  callW false c.noS (.fn (.func 161) [] []) [t9, t1] h (fun t11 h =>
  callW false c.noS (.fn (.func 159) [] []) [t8, t11] h (fun t12 h =>
  runD (unD .not t12) h fun t13 h =>
  condW t13
  (runD (fitD T_api_Mem (loadD h t2)) h fun t14 h =>
    runH (storeH T_api_Mem h t4 t14) h fun _ h =>
    loadRes (fitD T_api_Mem (loadD h t4)) fun r0 => K (.ret (.tup [r0, (.int .i64 40)])) h)
  (runD (fieldAddrD T_api_Mem t2 2) h fun t15 h =>
  runD (fitD T_sl_api_Pending (loadD h t15)) h fun t16 h =>
  callW false c (.fn (.func 162) [] []) [t16] h (fun t17 h =>
  allocW T_sl_api_Pending h fun t6 h =>
  runH (storeH T_sl_api_Pending h t6 t17) h fun _ h =>
  runD (fitD T_api_Mem (loadD h t2)) h fun t18 h =>
  callW false c (.fn (.func 163) [] []) [t18, t1] h (fun t20 h =>
  joinW (fun (J1 : AV → AV → AV → List AObj → Prop) =>
  rangeX c.iterS t20 h
  (fun id r args h K => lpIs h id .ready r ∧ argX1 args fun t21 =>
  lpIs h id .ready r ∧
  runD (fitD T_sl_api_Pending (loadD (List.set h id (.lp .busy none r)) t6)) (List.set h id (.lp .busy none r)) fun t22 h =>
  runD (indexAddrD T_sl_api_Pending h t22 t21) h fun t24 h =>
  runD (fieldAddrD T_api_Pending t24 2) h fun t25 h =>
  runH (storeH T_bool h t25 (.bool true)) h fun _ h =>
  lpIs h id .busy r ∧ K (.ret (.bool true)) (List.set h id (.lp .ready none r)))
  (fun id r ao h => endX id r ao h
  (fun h => J1 t2 t4 t6 h)
  (fun h => loadRes (fitD T_api_Mem (loadD h t4)) fun r0 => K (.ret (.tup [r0, (.int .i64 0)])) h)
  (fun i h => exitW i 0 (J1 t2 t4 t6 h) (False))
  (fun l h => False)
  (fun v h => K (.pan v) h)))
  (fun t2 t4 t6 h => runD (fitD T_sl_api_Pending (loadD h t6)) h fun t26 h =>
  runD (fieldAddrD T_api_Mem t2 2) h fun t27 h =>
  runH (storeH T_sl_api_Pending h t27 t26) h fun _ h =>
  runD (fitD T_api_Mem (loadD h t2)) h fun t28 h =>
  runH (storeH T_api_Mem h t4 t28) h fun _ h =>
  loadRes (fitD T_api_Mem (loadD h t4)) fun r0 => K (.ret (.tup [r0, (.int .i64 0)])) h))
  (fun v h => K (.pan v) h))
  (fun v h => K (.pan v) h)))
  (fun _ _ => False))
  (fun _ _ => False)
def pmem_Fence.loops : Nat → LInfo
  | _ => ⟨[], [], [], [], [], []⟩
def pmem_Fence.H (c : Ctx) (t0 : AV) (h : List AObj) (K : AOut → List AObj → Prop) : Prop :=
  boxW T_api_Mem t0 h fun t1 h =>
  allocW T_api_Mem h fun t2 h =>
  runD (fitD T_api_Mem (loadD h t1)) h fun t4 h =>
  callW false c (.fn (.func 147) [] []) [t4] h (fun t5 h =>
  runD (unD .not t5) h fun t6 h =>
  condW t6
  (runD (fitD T_api_Mem (loadD h t1)) h fun t7 h =>
    runH (storeH T_api_Mem h t2 t7) h fun _ h =>
    loadRes (fitD T_api_Mem (loadD h t2)) fun r0 => K (.ret (.tup [r0, (.int .i64 40)])) h)
  (runD (fitD T_api_Mem (loadD h t1)) h fun t8 h =>
  callW false c (.fn (.func 164) [] []) [t8, (.fn (.func 165) [] [])] h (fun t9 h =>
  runH (storeH T_api_Mem h t2 t9) h fun _ h =>
  loadRes (fitD T_api_Mem (loadD h t2)) fun r0 => K (.ret (.tup [r0, (.int .i64 0)])) h)
  (fun v h => K (.pan v) h)))
  (fun v h => K (.pan v) h)
def pmem_place.loops : Nat → LInfo
  | 1 => ⟨[], [], [], [(3, none), (5, some [7, 12]), (2, none), (2, some [14, 16])], [], []⟩
  | _ => ⟨[], [], [], [], [], []⟩
def pmem_place.H (c : Ctx) (t0 : AV) (t1 : AV) (h : List AObj) (K : AOut → List AObj → Prop) : Prop :=
  boxW T_api_Mem t0 h fun t2 h =>
  runD (binD T_int .geq t1 (.int .i64 0)) h fun t6 h =>
  joinW (fun (J1 : AV → AV → List AObj → Prop) =>
  guardW t6 true
  (runD (fieldAddrD T_api_Mem t2 0) h fun t9 h =>
    runD (fitD T_sl_int (loadD h t9)) h fun t10 h =>
    runD (lenD T_sl_int h t10) h fun t11 h =>
    runD (binD T_int .lss t1 t11) h fun t12 h =>
    J1 (.bool true) t12 h)
  (J1 (.bool false) .und h))
  (fun t7 t12 h => runD (pickD t7 t12 (.bool false)) h fun t13 h =>
  joinW (fun (J2 : AV → AV → List AObj → Prop) =>
  guardW t13 true
  (runD (fitD T_api_Mem (loadD h t2)) h fun t15 h =>
    callW false c (.fn (.func 147) [] []) [t15] h (fun t16 h =>
    J2 (.bool true) t16 h)
    (fun v h => K (.pan v) h))
  (J2 (.bool false) .und h))
  (fun t14 t16 h => runD (pickD t14 t16 (.bool false)) h fun t17 h =>
  K (.ret t17) h))
def pmem_first.loops : Nat → LInfo
  | 1 => ⟨[], [], [], [(3, none), (6, some [7, 13])], [], []⟩
  | _ => ⟨[], [], [], [], [], []⟩
def pmem_first.H (c : Ctx) (t0 : AV) (t1 : AV) (h : List AObj) (K : AOut → List AObj → Prop) : Prop :=
  boxW T_api_Mem t0 h fun t2 h =>
  runD (binD T_int .lss t1 (.int .i64 0)) h fun t6 h =>
  joinW (fun (J1 : AV → AV → List AObj → Prop) =>
  guardW t6 false
  (runD (fieldAddrD T_api_Mem t2 0) h fun t9 h =>
    runD (fitD T_sl_int (loadD h t9)) h fun t10 h =>
    runD (lenD T_sl_int h t10) h fun t11 h =>
    runD (binD T_int .quo t11 (.int .i64 8)) h fun t12 h =>
    runD (binD T_int .geq t1 t12) h fun t13 h =>
    J1 (.bool false) t13 h)
  (J1 (.bool true) .und h))
  (fun t7 t13 h => runD (pickD t7 (.bool true) t13) h fun t14 h =>
  condW t14
  (K (.ret (.int .i64 (-1))) h)
  (runD (binD T_int .mul t1 (.int .i64 8)) h fun t16 h =>
  K (.ret t16) h))
def pmem_of.loops : Nat → LInfo
  | _ => ⟨[], [], [], [], [], []⟩
def pmem_of.H (c : Ctx) (t0 : AV) (t1 : AV) (h : List AObj) (K : AOut → List AObj → Prop) : Prop :=
  boxW T_api_Mem t0 h fun t2 h =>
  boxW T_int t1 h fun t3 h =>
  K (.ret (.fn (.func 166) [] [t2, t3])) h
def pmem_keep.loops : Nat → LInfo
  | 3 => ⟨[17], [false], [1, 4, 5, 15, 16], [], [5], []⟩
  | _ => ⟨[], [], [], [], [], []⟩
def pmem_keep.L1 (c : Ctx) (J1 : AV → AV → List AObj → Prop) (K : AOut → List AObj → Prop) (lv : List AV) (h0 : List AObj) (n0 : Nat) (c1 : AV) (c4 : AV) (c5 : AV) (c15 : AV) (c16 : AV) : Prop :=
  ∃ I : Nat → List AV → List AObj → Prop, (∃ n, I n lv h0) ∧ ∀ n h, ∀ t17, I n [t17] h →
    runD (binD T_int .lss t17 c16) h fun t18 h =>
    condW t18
    (joinW (fun (J2 : List AObj → Prop) =>
    runD (indexAddrD T_sl_api_Pending h c15 t17) h fun t19 h =>
    runD (fitD T_api_Pending (loadD h t19)) h fun t20 h =>
    allocW T_api_Pending h fun t7 h =>
    runH (storeH T_api_Pending h t7 t20) h fun _ h =>
    runD (fitD T_api_Pending (loadD h t7)) h fun t22 h =>
    callW false c c1 [t22] h (fun t23 h =>
    condW t23
    (runD (fieldAddrD T_api_Mem c5 1) h fun t24 h =>
      runD (fitD T_sl_int (loadD h t24)) h fun t25 h =>
      runD (fieldAddrD T_api_Pending t7 0) h fun t26 h =>
      runD (fitD T_int (loadD h t26)) h fun t27 h =>
      runD (fieldAddrD T_api_Pending t7 1) h fun t28 h =>
      runD (fitD T_int (loadD h t28)) h fun t29 h =>
      runD (indexAddrD T_sl_int h t25 t27) h fun t30 h =>
      runH (storeH T_int h t30 t29) h fun _ h =>
      J2 h)
    (runD (fieldAddrD T_api_Mem c5 2) h fun t31 h =>
    runD (fitD T_sl_api_Pending (loadD h t31)) h fun t32 h =>
    runD (fitD T_api_Pending (loadD h t7)) h fun t33 h =>
    runD (buildSliceD T_sl_api_Pending 1 [(0, t33)] h.length) h fun t34 h =>
    runDM (appendD T_sl_api_Pending h t32 t34 h.length) (appendH T_sl_api_Pending h t32 t34) h fun t35 h =>
    runD (fieldAddrD T_api_Mem c5 2) h fun t36 h =>
    runH (storeH T_sl_api_Pending h t36 t35) h fun _ h =>
    J2 h))
    (fun v h => K (.pan v) h))
    (fun h => runD (binD T_int .add t17 (.int .i64 1)) h fun t37 h =>
    (∃ m, m < n ∧ I m (AV.norms n0 h [t37]) (normH n0 h)) ∧ AV.norms n0 h [c1, c4, c5, c15, c16] = [c1, c4, c5, c15, c16]))
    (J1 c4 c5 h)
def pmem_keep.H (c : Ctx) (t0 : AV) (t1 : AV) (h : List AObj) (K : AOut → List AObj → Prop) : Prop :=
  boxW T_api_Mem t0 h fun t2 h =>
  allocW T_api_Mem h fun t4 h =>
  runD (fieldAddrD T_api_Mem t2 0) h fun t8 h =>
  runD (fitD T_sl_int (loadD h t8)) h fun t9 h =>
  runD (fieldAddrD T_api_Mem t2 1) h fun t10 h =>
  runD (fitD T_sl_int (loadD h t10)) h fun t11 h =>
  callW false c.noS (.fn (.func 64) [] []) [t11] h (fun t12 h =>
  runD (buildD T_api_Mem [(0, t9), (1, t12)]) h fun t13 h =>
  allocW T_api_Mem h fun t5 h =>
  runH (storeH T_api_Mem h t5 t13) h fun _ h =>
  runD (fieldAddrD T_api_Mem t2 2) h fun t14 h =>
  runD (fitD T_sl_api_Pending (loadD h t14)) h fun t15 h =>
  runD (lenD T_sl_api_Pending h t15) h fun t16 h =>
  joinW (fun (J1 : AV → AV → List AObj → Prop) =>
  promV [false] [(.int .i64 0)] (boxH [t5] h) fun lv h => pmem_keep.L1 c J1 K (AV.norms h.length h lv) (normH h.length h) h.length (AV.norm h.length h t1) (AV.norm h.length h t4) (AV.norm h.length h t5) (AV.norm h.length h t15) (AV.norm h.length h t16))
  (fun t4 t5 h => runD (fitD T_api_Mem (loadD h t5)) h fun t38 h =>
  runH (storeH T_api_Mem h t4 t38) h fun _ h =>
  loadRes (fitD T_api_Mem (loadD h t4)) fun r0 => K (.ret r0) h))
  (fun _ _ => False)
def pmem_Fence_1.loops : Nat → LInfo
  | _ => ⟨[], [], [], [], [], []⟩
def pmem_Fence_1.H (c : Ctx) (t0 : AV) (h : List AObj) (K : AOut → List AObj → Prop) : Prop :=
  boxW T_api_Pending t0 h fun t1 h =>
  runD (fieldAddrD T_api_Pending t1 2) h fun t3 h =>
  runD (fitD T_bool (loadD h t3)) h fun t4 h =>
  K (.ret t4) h
def pmem_of_1.loops : Nat → LInfo
  | 1 => ⟨[9], [false], [0, 2, 7, 8], [], [], []⟩
  | 3 => ⟨[], [], [], [(6, none), (4, some [19, 23])], [], []⟩
  | _ => ⟨[], [], [], [], [], []⟩
def pmem_of_1.L1 (c : Ctx) (J1 : List AObj → Prop) (K : AOut → List AObj → Prop) (lv : List AV) (h0 : List AObj) (n0 : Nat) (c0 : AV) (c2 : AV) (c7 : AV) (c8 : AV) : Prop :=
  ∃ I : Nat → List AV → List AObj → Prop, (∃ n, I n lv h0) ∧ ∀ n h, ∀ t9, I n [t9] h →
    runD (binD T_int .lss t9 c8) h fun t10 h =>
    condW t10
    (runD (indexAddrD T_sl_api_Pending h c7 t9) h fun t12 h =>
    runD (fitD T_api_Pending (loadD h t12)) h fun t13 h =>
    allocW T_api_Pending h fun t5 h =>
    runH (storeH T_api_Pending h t5 t13) h fun _ h =>
    runD (fieldAddrD T_api_Pending t5 0) h fun t14 h =>
    runD (fitD T_int (loadD h t14)) h fun t15 h =>
    runD (binD T_int .quo t15 (.int .i64 8)) h fun t16 h =>
    runD (fitD T_int (loadD h c2)) h fun t17 h =>
    runD (binD T_int .eql t16 t17) h fun t18 h =>
    joinW (fun (J2 : AV → AV → List AObj → Prop) =>
    guardW t18 true
    (callW false c c0 [t9] h (fun t22 h =>
      runD (unD .not t22) h fun t23 h =>
      J2 (.bool true) t23 h)
      (fun v h => K (.pan v) h))
    (J2 (.bool false) .und h))
    (fun t19 t23 h => runD (pickD t19 t23 (.bool false)) h fun t24 h =>
    condW t24
    (K (.ret (.tup [])) h)
    (runD (binD T_int .add t9 (.int .i64 1)) h fun t25 h =>
    (∃ m, m < n ∧ I m (AV.norms n0 h [t25]) (normH n0 h)) ∧ AV.norms n0 h [c0, c2, c7, c8] = [c0, c2, c7, c8])))
    (J1 h)
def pmem_of_1.H (c : Ctx) (t0 : AV) (t1 : AV) (t2 : AV) (h : List AObj) (K : AOut → List AObj → Prop) : Prop :=
  runD (fieldAddrD T_api_Mem t1 2) h fun t6 h =>
  runD (fitD T_sl_api_Pending (loadD h t6)) h fun t7 h =>
  runD (lenD T_sl_api_Pending h t7) h fun t8 h =>
  joinW (fun (J1 : List AObj → Prop) =>
  promV [false] [(.int .i64 0)] h fun lv h => pmem_of_1.L1 c J1 K (AV.norms h.length h lv) (normH h.length h) h.length (AV.norm h.length h t0) (AV.norm h.length h t2) (AV.norm h.length h t7) (AV.norm h.length h t8))
  (fun h => K (.ret (.tup [])) h)
theorem pmem_New.eq (F : List (FuncId × Contract)) (S : List (FuncId × Con)) (t0 : AV) (h : List AObj) (K : AOut → List AObj → Prop) : funW (ctx F S pmem_New.loops) Try.f40 [t0] h K = pmem_New.H (ctx F S pmem_New.loops) t0 h K := by kernel_rfl
theorem pmem_sized.eq (F : List (FuncId × Contract)) (S : List (FuncId × Con)) (t0 : AV) (h : List AObj) (K : AOut → List AObj → Prop) : funW (ctx F S pmem_sized.loops) Try.f78 [t0] h K = pmem_sized.H (ctx F S pmem_sized.loops) t0 h K := by kernel_rfl
theorem pmem_Check.eq (F : List (FuncId × Contract)) (S : List (FuncId × Con)) (t0 : AV) (h : List AObj) (K : AOut → List AObj → Prop) : funW (ctx F S pmem_Check.loops) Try.f147 [t0] h K = pmem_Check.H (ctx F S pmem_Check.loops) t0 h K := by kernel_rfl
theorem pmem_Put.eq (F : List (FuncId × Contract)) (S : List (FuncId × Con)) (t0 t1 t2 : AV) (h : List AObj) (K : AOut → List AObj → Prop) : funW (ctx F S pmem_Put.loops) Try.f156 [t0, t1, t2] h K = pmem_Put.H (ctx F S pmem_Put.loops) t0 t1 t2 h K := by kernel_rfl
theorem pmem_Flush.eq (F : List (FuncId × Contract)) (S : List (FuncId × Con)) (Is : List (FuncId × (Con → Con))) (t0 t1 : AV) (h : List AObj) (K : AOut → List AObj → Prop) : funW (ctxI F S Is pmem_Flush.loops) Try.f157 [t0, t1] h K = pmem_Flush.H (ctxI F S Is pmem_Flush.loops) t0 t1 h K := by kernel_rfl
theorem pmem_Fence.eq (F : List (FuncId × Contract)) (S : List (FuncId × Con)) (t0 : AV) (h : List AObj) (K : AOut → List AObj → Prop) : funW (ctx F S pmem_Fence.loops) Try.f158 [t0] h K = pmem_Fence.H (ctx F S pmem_Fence.loops) t0 h K := by kernel_rfl
theorem pmem_place.eq (F : List (FuncId × Contract)) (S : List (FuncId × Con)) (t0 t1 : AV) (h : List AObj) (K : AOut → List AObj → Prop) : funW (ctx F S pmem_place.loops) Try.f159 [t0, t1] h K = pmem_place.H (ctx F S pmem_place.loops) t0 t1 h K := by kernel_rfl
theorem pmem_first.eq (F : List (FuncId × Contract)) (S : List (FuncId × Con)) (t0 t1 : AV) (h : List AObj) (K : AOut → List AObj → Prop) : funW (ctx F S pmem_first.loops) Try.f161 [t0, t1] h K = pmem_first.H (ctx F S pmem_first.loops) t0 t1 h K := by kernel_rfl
theorem pmem_of.eq (F : List (FuncId × Contract)) (S : List (FuncId × Con)) (t0 t1 : AV) (h : List AObj) (K : AOut → List AObj → Prop) : funW (ctx F S pmem_of.loops) Try.f163 [t0, t1] h K = pmem_of.H (ctx F S pmem_of.loops) t0 t1 h K := by kernel_rfl
theorem pmem_keep.eq (F : List (FuncId × Contract)) (S : List (FuncId × Con)) (t0 t1 : AV) (h : List AObj) (K : AOut → List AObj → Prop) : funW (ctx F S pmem_keep.loops) Try.f164 [t0, t1] h K = pmem_keep.H (ctx F S pmem_keep.loops) t0 t1 h K := by kernel_rfl
theorem pmem_Fence_1.eq (F : List (FuncId × Contract)) (S : List (FuncId × Con)) (t0 : AV) (h : List AObj) (K : AOut → List AObj → Prop) : funW (ctx F S pmem_Fence_1.loops) Try.f165 [t0] h K = pmem_Fence_1.H (ctx F S pmem_Fence_1.loops) t0 h K := by kernel_rfl
theorem pmem_of_1.eq (F : List (FuncId × Contract)) (S : List (FuncId × Con)) (l : Nat) (Y : Con) (t0 t1 t2 : AV) (h : List AObj) (K : AOut → List AObj → Prop) : funW ((ctx F S pmem_of_1.loops).withY l Y) Try.f166 [t0, t1, t2] h K = pmem_of_1.H ((ctx F S pmem_of_1.loops).withY l Y) t0 t1 t2 h K := by kernel_rfl
theorem pmem_New.at : Try.prog.funcs[40]? = some Try.f40 := by kernel_rfl
theorem pmem_New.nm : (Try.f40.name == "runtime.NumGoroutine") = false := by kernel_rfl
theorem pmem_New.bd : Try.f40.body.isNone = false := by kernel_rfl
theorem pmem_sized.at : Try.prog.funcs[78]? = some Try.f78 := by kernel_rfl
theorem pmem_sized.nm : (Try.f78.name == "runtime.NumGoroutine") = false := by kernel_rfl
theorem pmem_sized.bd : Try.f78.body.isNone = false := by kernel_rfl
theorem pmem_Check.at : Try.prog.funcs[147]? = some Try.f147 := by kernel_rfl
theorem pmem_Check.nm : (Try.f147.name == "runtime.NumGoroutine") = false := by kernel_rfl
theorem pmem_Check.bd : Try.f147.body.isNone = false := by kernel_rfl
theorem pmem_Put.at : Try.prog.funcs[156]? = some Try.f156 := by kernel_rfl
theorem pmem_Put.nm : (Try.f156.name == "runtime.NumGoroutine") = false := by kernel_rfl
theorem pmem_Put.bd : Try.f156.body.isNone = false := by kernel_rfl
theorem pmem_Flush.at : Try.prog.funcs[157]? = some Try.f157 := by kernel_rfl
theorem pmem_Flush.nm : (Try.f157.name == "runtime.NumGoroutine") = false := by kernel_rfl
theorem pmem_Flush.bd : Try.f157.body.isNone = false := by kernel_rfl
theorem pmem_Fence.at : Try.prog.funcs[158]? = some Try.f158 := by kernel_rfl
theorem pmem_Fence.nm : (Try.f158.name == "runtime.NumGoroutine") = false := by kernel_rfl
theorem pmem_Fence.bd : Try.f158.body.isNone = false := by kernel_rfl
theorem pmem_place.at : Try.prog.funcs[159]? = some Try.f159 := by kernel_rfl
theorem pmem_place.nm : (Try.f159.name == "runtime.NumGoroutine") = false := by kernel_rfl
theorem pmem_place.bd : Try.f159.body.isNone = false := by kernel_rfl
theorem pmem_first.at : Try.prog.funcs[161]? = some Try.f161 := by kernel_rfl
theorem pmem_first.nm : (Try.f161.name == "runtime.NumGoroutine") = false := by kernel_rfl
theorem pmem_first.bd : Try.f161.body.isNone = false := by kernel_rfl
theorem pmem_of.at : Try.prog.funcs[163]? = some Try.f163 := by kernel_rfl
theorem pmem_of.nm : (Try.f163.name == "runtime.NumGoroutine") = false := by kernel_rfl
theorem pmem_of.bd : Try.f163.body.isNone = false := by kernel_rfl
theorem pmem_keep.at : Try.prog.funcs[164]? = some Try.f164 := by kernel_rfl
theorem pmem_keep.nm : (Try.f164.name == "runtime.NumGoroutine") = false := by kernel_rfl
theorem pmem_keep.bd : Try.f164.body.isNone = false := by kernel_rfl
theorem pmem_Fence_1.at : Try.prog.funcs[165]? = some Try.f165 := by kernel_rfl
theorem pmem_Fence_1.nm : (Try.f165.name == "runtime.NumGoroutine") = false := by kernel_rfl
theorem pmem_Fence_1.bd : Try.f165.body.isNone = false := by kernel_rfl
theorem pmem_of_1.at : Try.prog.funcs[166]? = some Try.f166 := by kernel_rfl
theorem pmem_of_1.nm : (Try.f166.name == "runtime.NumGoroutine") = false := by kernel_rfl
theorem pmem_of_1.bd : Try.f166.body.isNone = false := by kernel_rfl
end Lam
namespace Lam
open Go Go.Proofs
set_option linter.unusedVariables false
set_option linter.unnecessarySimpa false
set_option linter.unusedSimpArgs false
def pmem_sized.C : Contract
  | [.int .i64 n] => some (false, pD True (.bool (szB n)))
  | _ => none
set_option maxRecDepth 20000 in
theorem pmem_sized.spec : FSpec Try.prog 78 pmem_sized.C := by
  refine FSpec.of (ctx_ok (F := []) (S := []) (by simp) (by simp) pmem_sized.loops) pmem_sized.at pmem_sized.nm pmem_sized.bd ?_
  intro vs b S v news e hS
  unfold pmem_sized.C at e
  split at e
  rotate_left
  · cases e
  cases e
  rw [pmem_sized.eq]
  unfold pmem_sized.H
  simp (maxSteps := 4000000) only [go_sem, Nat.reduceEqDiff, Nat.reduceLT, Nat.reduceAdd, Nat.reduceSub, Nat.reduceLeDiff, List.reduceReplicate, Int.reduceToNat]
  exact ⟨fun _ => by decide, post_val rfl rfl⟩

def slices_Clone_sl_int_int.C : Contract
  | [.sl _ (.ints .i64 l)] => some (true, some (roomy l.length, .sref false 0 0 0 l.length, [.row .own 0 (.ints .i64 l)]))
  | _ => none
set_option maxRecDepth 20000 in
theorem slices_Clone_sl_int_int.spec : FSpec Try.prog 64 slices_Clone_sl_int_int.C := by
  refine FSpec.of (ctx_ok (F := []) (S := []) (by simp) (by simp) slices_Clone_sl_int_int.loops) slices_Clone_sl_int_int.at slices_Clone_sl_int_int.nm slices_Clone_sl_int_int.bd ?_
  intro vs b S v news e hS
  unfold slices_Clone_sl_int_int.C at e
  split at e
  rotate_left
  · cases e
  cases e
  rw [slices_Clone_sl_int_int.eq]
  unfold slices_Clone_sl_int_int.H
  simp (maxSteps := 4000000) only [go_sem, Nat.reduceEqDiff, Nat.reduceLT, Nat.reduceAdd, Nat.reduceSub, Nat.reduceLeDiff, List.reduceReplicate, Int.reduceToNat]
  rename_i l
  intro b hb
  refine ⟨fun h => ?_, fun h => ⟨hS, post_row rfl (by simp)⟩⟩
  have : l = [] := List.eq_nil_of_length_eq_zero (hb h)
  subst this
  exact post_nil rfl
def slices_Clone_sl_api_Pending_api_Pending.C : Contract
  | [.sl _ (.pends l)] => some (true, some (roomy l.length, .sref false 0 0 0 l.length, [.row .own 0 (.pends l)]))
  | _ => none
set_option maxRecDepth 20000 in
theorem slices_Clone_sl_api_Pending_api_Pending.spec : FSpec Try.prog 162 slices_Clone_sl_api_Pending_api_Pending.C := by
  refine FSpec.of (ctx_ok (F := []) (S := []) (by simp) (by simp) slices_Clone_sl_api_Pending_api_Pending.loops) slices_Clone_sl_api_Pending_api_Pending.at slices_Clone_sl_api_Pending_api_Pending.nm slices_Clone_sl_api_Pending_api_Pending.bd ?_
  intro vs b S v news e hS
  unfold slices_Clone_sl_api_Pending_api_Pending.C at e
  split at e
  rotate_left
  · cases e
  cases e
  rw [slices_Clone_sl_api_Pending_api_Pending.eq]
  unfold slices_Clone_sl_api_Pending_api_Pending.H
  simp (maxSteps := 4000000) only [go_sem, Nat.reduceEqDiff, Nat.reduceLT, Nat.reduceAdd, Nat.reduceSub, Nat.reduceLeDiff, List.reduceReplicate, Int.reduceToNat]
  rename_i l
  intro b hb
  refine ⟨fun h => ?_, fun h => ⟨hS, post_row rfl (by simp)⟩⟩
  have : l = [] := List.eq_nil_of_length_eq_zero (hb h)
  subst this
  exact post_nil rfl
def slices_Clip_sl_api_Pending_api_Pending.C : Contract
  | [.sl _ (.pends l)] => some (false, pD True (.sl true (.pends l)))
  | _ => none
set_option maxRecDepth 20000 in
theorem slices_Clip_sl_api_Pending_api_Pending.spec : FSpec Try.prog 160 slices_Clip_sl_api_Pending_api_Pending.C := by
  refine FSpec.of (ctx_ok (F := []) (S := []) (by simp) (by simp) slices_Clip_sl_api_Pending_api_Pending.loops) slices_Clip_sl_api_Pending_api_Pending.at slices_Clip_sl_api_Pending_api_Pending.nm slices_Clip_sl_api_Pending_api_Pending.bd ?_
  intro vs b S v news e hS
  unfold slices_Clip_sl_api_Pending_api_Pending.C at e
  split at e
  rotate_left
  · cases e
  cases e
  rw [slices_Clip_sl_api_Pending_api_Pending.eq]
  unfold slices_Clip_sl_api_Pending_api_Pending.H
  simp (maxSteps := 4000000) only [go_sem, Nat.reduceEqDiff, Nat.reduceLT, Nat.reduceAdd, Nat.reduceSub, Nat.reduceLeDiff, List.reduceReplicate, Int.reduceToNat]
  exact ⟨by omega, post_same rfl⟩
def slices_Equal_sl_int_int.C : Contract
  | [.sl _ (.ints .i64 a), .sl _ (.ints .i64 b)] => some (false, pD (roomy a.length) (.bool (decide (a = b))))
  | _ => none
set_option maxRecDepth 20000 in
theorem slices_Equal_sl_int_int.spec : FSpec Try.prog 59 slices_Equal_sl_int_int.C := by
  refine FSpec.of (ctx_ok (F := []) (S := []) (by simp) (by simp) slices_Equal_sl_int_int.loops) slices_Equal_sl_int_int.at slices_Equal_sl_int_int.nm slices_Equal_sl_int_int.bd ?_
  intro vs b S v news e hS
  unfold slices_Equal_sl_int_int.C at e
  split at e
  rotate_left
  · cases e
  cases e
  rw [slices_Equal_sl_int_int.eq]
  unfold slices_Equal_sl_int_int.H
  simp (maxSteps := 4000000) only [go_sem, Nat.reduceEqDiff, Nat.reduceLT, Nat.reduceAdd, Nat.reduceSub, Nat.reduceLeDiff, List.reduceReplicate, Int.reduceToNat]
  rename_i a _ b
  unfold roomy at hS
  refine ⟨fun hne => ?_, fun heq => ?_⟩
  · have : decide (a = b) = false := by rw [decide_eq_false_iff_not]; rintro rfl; exact hne rfl
    rw [this]; exact post_val rfl rfl
  rw [joinW_eq]
  unfold slices_Equal_sl_int_int.L1
  have hlen : a.length = b.length := by omega
  refine ⟨fun m lv h' => ∃ k : Nat, k + m = a.length ∧ lv = [.int .i64 k] ∧ h' = [] ∧ ∀ i, i < k → a.getD i 0 = b.getD i 0, ⟨a.length, 0, by omega, rfl, rfl, fun i hi => by omega⟩, ?_⟩
  rintro m h' t8 ⟨k, hk, hlv, rfl, hall⟩
  simp only [List.cons.injEq, and_true] at hlv
  subst hlv
  simp only [go_sem, Nat.reduceEqDiff, Nat.reduceLT, Nat.reduceAdd, Nat.reduceSub, Nat.reduceLeDiff, List.reduceReplicate, Int.reduceToNat]
  refine ⟨fun hlt => ⟨by omega, by omega, fun h0 => ?_, fun h0 => ?_⟩, fun hge => ?_⟩
  · have : decide (a = b) = false := by rw [decide_eq_false_iff_not]; rintro rfl; exact h0 rfl
    rw [this]; exact post_val rfl rfl
  · refine ⟨m - 1, by omega, k + 1, by omega, by rw [w64 (by omega) (by omega)]; rfl, ?_⟩
    intro i hi
    by_cases e : i = k
    · subst e; exact h0
    · exact hall i (by omega)
  · have : a = b := by
      apply List.ext_getElem hlen
      intro i h1 h2
      have := hall i (by omega)
      rw [List.getD_eq_getElem?_getD, List.getD_eq_getElem?_getD, List.getElem?_eq_getElem h1, List.getElem?_eq_getElem h2] at this
      exact this
    rw [decide_eq_true this]; exact post_val rfl rfl

def pmem_Check.C : Contract
  | [.agg [.sl false (.ints .i64 vol), .sl false (.ints .i64 per), .sl false (.pends pend)]] => some (false, pD (smallM vol per pend) (.bool (checkB vol per pend)))
  | _ => none
set_option maxRecDepth 20000 in
theorem pmem_Check.spec : FSpec Try.prog 147 pmem_Check.C := by
  refine FSpec.of (ctx_ok (F := [(78, pmem_sized.C), (64, slices_Clone_sl_int_int.C), (59, slices_Equal_sl_int_int.C)]) (S := []) (by simpa using ⟨pmem_sized.spec, slices_Clone_sl_int_int.spec, slices_Equal_sl_int_int.spec⟩) (by simp) pmem_Check.loops) pmem_Check.at pmem_Check.nm pmem_Check.bd ?_
  intro vs b S v news e hS
  unfold pmem_Check.C at e
  split at e
  rotate_left
  · cases e
  cases e
  rw [pmem_Check.eq]
  unfold pmem_Check.H
  simp (maxSteps := 4000000) only [go_sem, Nat.reduceEqDiff, Nat.reduceLT, Nat.reduceAdd, Nat.reduceSub, Nat.reduceLeDiff, List.reduceReplicate, Int.reduceToNat, pmem_sized.C, slices_Clone_sl_int_int.C, slices_Equal_sl_int_int.C]
  rename_i vol per pend
  obtain ⟨r1, r2, r3⟩ := hS
  unfold roomy at r1 r2 r3
  refine ⟨fun hb => ?_, fun hb => ⟨r2, ?_⟩⟩
  · have : checkB vol per pend = false := by
      unfold checkB
      rw [Bool.or_eq_true] at hb
      rcases hb with hb | hb
      · have : ¬ vol.length = per.length := by
          intro h; rw [h] at hb; simp at hb
        simp [this]
      · have : szB vol.length = false := by simpa using hb
        simp [this]
    rw [this]; exact post_val rfl rfl
  rw [Bool.or_eq_false_iff] at hb
  have hlen : vol.length = per.length := by
    have := hb.1
    rw [Bool.not_eq_false', decide_eq_true_eq] at this
    omega
  have hsz : szB vol.length = true := by simpa using hb.2
  have hcheck : checkB vol per pend = decide (chk pend per (fun _ => false) = some vol) := by unfold checkB; rw [hsz, decide_eq_true hlen]; simp
  rw [hcheck, joinW_eq]
  unfold pmem_Check.L1
  refine ⟨fun m lv h' => ∃ (k : Nat) (l : List Int) (o : Int → Bool), k + m = pend.length ∧ lv = [.int .i64 k] ∧ l.length = per.length ∧ chk pend per (fun _ => false) = chk (pend.drop k) l o ∧
      h' = [.box (.agg [.sl false (.ints .i64 vol), .sl false (.ints .i64 per), .sl false (.pends pend)]), .row .own 0 (.ints .i64 l), .map (.ib o)],
    ⟨pend.length, 0, per, fun _ => false, by omega, rfl, rfl, rfl, rfl⟩, ?_⟩
  rintro m h' t28 ⟨k, l, o, hk, hlv, hll, hchk, rfl⟩
  simp only [List.cons.injEq, and_true] at hlv
  subst hlv
  simp only [go_sem, Nat.reduceEqDiff, Nat.reduceLT, Nat.reduceAdd, Nat.reduceSub, Nat.reduceLeDiff, List.reduceReplicate, Int.reduceToNat, hll, encPend]
  refine ⟨fun hlt => ⟨by omega, ?_⟩, fun hge => ?_⟩
  · have hkl : k < pend.length := by omega
    have hd : pend.drop k = pend.getD k ⟨0, 0, false⟩ :: pend.drop (k + 1) := by
      rw [List.getD_eq_getElem?_getD, List.getElem?_eq_getElem hkl, List.drop_eq_getElem_cons hkl]; rfl
    generalize pend.getD k ⟨0, 0, false⟩ = p at *
    have hch : chk (pend.drop k) l o = match badB p l.length o with
      | true => none
      | false => chk (pend.drop (k + 1)) (l.set p.at_.toNat p.val) (opens p o) := by rw [hd]; rfl
    rw [hll] at hch
    refine ⟨fun _ _ => by decide, fun hbad => ?_, fun hok => ?_⟩
    · have : badB p per.length o = true := hbad
      rw [this] at hch
      rw [hchk, hch]; exact post_val rfl rfl
    · have hb2 : badB p per.length o = false := hok
      rw [hb2] at hch
      simp only [badB, Bool.or_eq_false_iff, decide_eq_false_iff_not] at hb2
      refine ⟨by decide, by decide, by omega, by omega, m - 1, by omega, k + 1, _, opens p o, by omega, by rw [w64 (by omega) (by omega)]; rfl, ?_, by rw [hchk]; exact hch, rfl⟩
      rw [List.length_set]; exact hll
  · have : k = pend.length := by omega
    subst this
    rw [List.drop_length] at hchk
    have hl : l.take per.length = l := List.take_of_length_le (by omega)
    simp only [hl, go_sem, Nat.reduceEqDiff, Nat.reduceLT, Nat.reduceAdd, Nat.reduceSub, Nat.reduceLeDiff, List.reduceReplicate, Int.reduceToNat, slices_Equal_sl_int_int.C]
    refine ⟨by unfold roomy; omega, ?_⟩
    rw [hchk]
    have : decide (chk [] l o = some vol) = decide (l = vol) := by simp [chk]
    rw [this]; exact post_val rfl rfl
def pmem_place.C : Contract
  | [.agg [.sl false (.ints .i64 vol), .sl false (.ints .i64 per), .sl false (.pends pend)], .int .i64 at_] => some (false, pD (smallM vol per pend) (.bool (placeB vol per pend at_)))
  | _ => none
set_option maxRecDepth 20000 in
theorem pmem_place.spec : FSpec Try.prog 159 pmem_place.C := by
  refine FSpec.of (ctx_ok (F := [(147, pmem_Check.C)]) (S := []) (by simpa using pmem_Check.spec) (by simp) pmem_place.loops) pmem_place.at pmem_place.nm pmem_place.bd ?_
  intro vs b S v news e hS
  unfold pmem_place.C at e
  split at e
  rotate_left
  · cases e
  cases e
  rw [pmem_place.eq]
  unfold pmem_place.H
  simp (maxSteps := 4000000) only [go_sem, Nat.reduceEqDiff, Nat.reduceLT, Nat.reduceAdd, Nat.reduceSub, Nat.reduceLeDiff, List.reduceReplicate, Int.reduceToNat, pmem_Check.C]
  exact ⟨fun _ => hS, post_val rfl rfl⟩
def pmem_first.C : Contract
  | [.agg [.sl false (.ints .i64 vol), .sl false (.ints .i64 per), .sl false (.pends pend)], .int .i64 line] => some (false, pD (roomy vol.length) (.int .i64 (firstI vol line)))
  | _ => none
set_option maxRecDepth 20000 in
theorem pmem_first.spec : FSpec Try.prog 161 pmem_first.C := by
  refine FSpec.of (ctx_ok (F := []) (S := []) (by simp) (by simp) pmem_first.loops) pmem_first.at pmem_first.nm pmem_first.bd ?_
  intro vs b S v news e hS
  unfold pmem_first.C at e
  split at e
  rotate_left
  · cases e
  cases e
  rw [pmem_first.eq]
  unfold pmem_first.H
  simp (maxSteps := 4000000) only [go_sem, Nat.reduceEqDiff, Nat.reduceLT, Nat.reduceAdd, Nat.reduceSub, Nat.reduceLeDiff, List.reduceReplicate, Int.reduceToNat]
  rename_i vol per pend line
  unfold roomy at hS
  have e : IntKind.i64.wrap ((vol.length : Int).tdiv 8) = ((vol.length / 8 : Nat) : Int) := by rw [tdiv8]; exact w64 (by omega) (by omega)
  rw [e]
  refine ⟨fun _ => by decide, fun hb => ?_, fun hb => ?_⟩
  · unfold firstI; rw [if_pos hb]; exact post_val rfl rfl
  · have h2 := hb
    rw [Bool.or_eq_false_iff, decide_eq_false_iff_not, decide_eq_false_iff_not] at h2
    rw [w64 (by omega) (by omega)]
    unfold firstI; rw [hb]; exact post_val rfl rfl
def pmem_Put.C : Contract
  | [.agg [.sl false (.ints .i64 vol), .sl false (.ints .i64 per), .sl false (.pends pend)], .int .i64 at_, .int .i64 val] => some (false, pD (smallM vol per pend ∧ roomy (pend.length + 1)) (putM vol per pend at_ val))
  | _ => none
set_option maxRecDepth 20000 in
theorem pmem_Put.spec : FSpec Try.prog 156 pmem_Put.C := by
  refine FSpec.of (ctx_ok (F := [(159, pmem_place.C), (160, slices_Clip_sl_api_Pending_api_Pending.C)]) (S := []) (by simpa using ⟨pmem_place.spec, slices_Clip_sl_api_Pending_api_Pending.spec⟩) (by simp) pmem_Put.loops) pmem_Put.at pmem_Put.nm pmem_Put.bd ?_
  intro vs b S v news e hS
  unfold pmem_Put.C at e
  split at e
  rotate_left
  · cases e
  cases e
  rw [pmem_Put.eq]
  unfold pmem_Put.H
  simp (maxSteps := 4000000) only [go_sem, Nat.reduceEqDiff, Nat.reduceLT, Nat.reduceAdd, Nat.reduceSub, Nat.reduceLeDiff, List.reduceReplicate, Int.reduceToNat, pmem_place.C, slices_Clip_sl_api_Pending_api_Pending.C]
  rename_i vol per pend at_ val
  obtain ⟨hS, hr⟩ := hS
  refine ⟨hS, fun hb => ?_, fun hb => ?_⟩
  · unfold putM; rw [hb]; exact post_val rfl rfl
  · have hp : 0 ≤ at_ ∧ at_ < (vol.length : Int) := by
      simp only [placeB, Bool.and_eq_true, decide_eq_true_eq] at hb
      exact hb.1
    have e : vol ++ List.take (vol.length - min vol.length vol.length) (List.drop (min vol.length vol.length) (List.replicate vol.length 0)) = vol := by simp
    rw [e]
    have hl : (pend ++ [(⟨at_, val, false⟩ : Pend)]).length = pend.length + 1 := by simp
    rw [hl]
    refine ⟨⟨by omega, by omega, hS.1⟩, hp, by omega, hr, rfl, ?_⟩
    unfold putM
    simp only [hb, if_true]
    refine post_val ?_ rfl
    have t1 : (vol.set at_.toNat val).take vol.length = vol.set at_.toNat val := List.take_of_length_le (by simp)
    have t2 : (pend ++ [(⟨at_, val, false⟩ : Pend)]).take (pend.length + 1) = pend ++ [(⟨at_, val, false⟩ : Pend)] := List.take_of_length_le (by simp)
    simp only [go_sem, Nat.reduceEqDiff, Nat.reduceLT, Nat.reduceAdd, Nat.reduceSub, Nat.reduceLeDiff, List.reduceReplicate, Int.reduceToNat, memV, t1, t2]
def pmem_of_1.I : Con → Con := fun Y args h K => match args with
  | [.fn (.yield l) [] [], a0, a1] => pmem_of_1.H ((ctx [] [] pmem_of_1.loops).withY l Y) (.fn (.yield l) [] []) a0 a1 h K
  | _ => False
theorem pmem_of_1.spec : ISpec Try.prog 166 pmem_of_1.I := by
  refine ISpec.of (ctx_ok (F := []) (S := []) (by simp) (by simp) pmem_of_1.loops).toOkI pmem_of_1.at pmem_of_1.nm pmem_of_1.bd ?_
  intro Yc l cap h K hC
  unfold pmem_of_1.I at hC
  split at hC
  · rename_i e
    simp only [List.cons.injEq, AV.fn.injEq, Fn.yield.injEq, and_true, true_and] at e
    obtain ⟨rfl, rfl⟩ := e
    rw [pmem_of_1.eq]; exact hC
  · exact hC.elim
def pmem_of.K : Con := fun args h K => match args with
  | [a0, a1] => pmem_of.H (ctx [] [] pmem_of.loops) a0 a1 h K
  | _ => False
theorem pmem_of.spec : SSpec Try.prog 163 pmem_of.K := by
  refine SSpec.of (ctx_ok (F := []) (S := []) (by simp) (by simp) pmem_of.loops) pmem_of.at pmem_of.nm pmem_of.bd ?_
  intro args h K hC
  unfold pmem_of.K at hC
  split at hC
  · rw [pmem_of.eq]; exact hC
  · exact hC.elim
def pmem_Flush.C : Contract
  | [.agg [.sl false (.ints .i64 vol), .sl false (.ints .i64 per), .sl false (.pends pend)], .int .i64 line] => some (false, pD (smallM vol per pend) (flushM vol per pend line))
  | _ => none
set_option maxRecDepth 20000 in
theorem pmem_Flush.spec : FSpec Try.prog 157 pmem_Flush.C := by
  refine FSpec.of (ctxI_ok (F := [(159, pmem_place.C), (161, pmem_first.C), (162, slices_Clone_sl_api_Pending_api_Pending.C)]) (S := [(163, pmem_of.K)]) (Is := [(166, pmem_of_1.I)]) (by simpa using ⟨pmem_place.spec, pmem_first.spec, slices_Clone_sl_api_Pending_api_Pending.spec⟩) (by simpa using pmem_of.spec) (by simpa using pmem_of_1.spec) pmem_Flush.loops) pmem_Flush.at pmem_Flush.nm pmem_Flush.bd ?_
  intro vs b S v news e hS
  unfold pmem_Flush.C at e
  split at e
  rotate_left
  · cases e
  cases e
  rw [pmem_Flush.eq]
  unfold pmem_Flush.H
  simp (maxSteps := 4000000) only [go_sem, Nat.reduceEqDiff, Nat.reduceLT, Nat.reduceAdd, Nat.reduceSub, Nat.reduceLeDiff, List.reduceReplicate, Int.reduceToNat, pmem_place.C, pmem_first.C, slices_Clone_sl_api_Pending_api_Pending.C, pmem_of.K, pmem_of.H, pmem_of_1.I, pmem_of_1.H, joinW_eq]
  rename_i vol per pend line
  refine ⟨hS.1, hS, fun hb => ?_, fun hb => ⟨hS.2.2, ?_⟩⟩
  · unfold flushM; rw [hb]; exact post_val rfl rfl
  intro l r
  obtain ⟨s1, s2, s3⟩ := hS
  unfold roomy at s1 s2 s3
  unfold pmem_of_1.L1
  refine ⟨fun m lv h' => ∃ k : Nat, k + m = pend.length ∧ lv = [.int .i64 k] ∧ h' = [.box (.agg [.sl false (.ints .i64 vol), .sl false (.ints .i64 per), .sl false (.pends pend)]),
      .box (.agg [.sl false (.ints .i64 []), .sl false (.ints .i64 []), .sl false (.pends [])]), .row .own 0 (.pends (flushP line (pend.take k) ++ pend.drop k)), .box (.sref false 2 0 0 pend.length),
      .box (.agg [.sl false (.ints .i64 vol), .sl false (.ints .i64 per), .sl false (.pends pend)]), .box (.int .i64 line), .lp .ready none r],
    ⟨pend.length, 0, by omega, rfl, rfl⟩, ?_⟩
  rintro m h' t9 ⟨k, hk, hlv, rfl⟩
  simp only [List.cons.injEq, and_true] at hlv
  subst hlv
  have hlen : (flushP line (pend.take k) ++ pend.drop k).length = pend.length := by simp [flushP]; omega
  simp only [go_sem, Nat.reduceEqDiff, Nat.reduceLT, Nat.reduceAdd, Nat.reduceSub, Nat.reduceLeDiff, List.reduceReplicate, Int.reduceToNat, encPend, hlen]
  refine ⟨fun hlt => ?_, fun hge => ?_⟩
  · have hkl : k < pend.length := by omega
    have hget : (flushP line (pend.take k) ++ pend.drop k).getD k ⟨0, 0, false⟩ = pend.getD k ⟨0, 0, false⟩ := by
      rw [List.getD_eq_getElem?_getD, List.getElem?_append_right (by simp [flushP]; omega)]
      have e : k - (flushP line (pend.take k)).length = 0 := by simp [flushP]; omega
      rw [e, List.getElem?_drop, Nat.add_zero, List.getD_eq_getElem?_getD]
    have hdrop : pend.drop k = pend.getD k ⟨0, 0, false⟩ :: pend.drop (k + 1) := by
      rw [List.getD_eq_getElem?_getD, List.getElem?_eq_getElem hkl, List.drop_eq_getElem_cons hkl]; rfl
    have hset : ∀ q : Pend, (flushP line (pend.take k) ++ pend.drop k).set k q = flushP line (pend.take k) ++ q :: pend.drop (k + 1) := by
      intro q
      rw [hdrop, List.set_append_right _ _ (by simp [flushP]; omega)]
      have e : k - (flushP line (pend.take k)).length = 0 := by simp [flushP]; omega
      rw [e]; rfl
    have hnx : flushP line (pend.take (k + 1)) = flushP line (pend.take k) ++ [if lineOf (pend.getD k ⟨0, 0, false⟩).at_ = line then { pend.getD k ⟨0, 0, false⟩ with fl := true } else pend.getD k ⟨0, 0, false⟩] := by
      rw [take_next pend k ⟨0, 0, false⟩ hkl]
      simp [flushP]
    rw [joinW_eq]
    simp only [guardW_bool, hget, hset]
    refine ⟨by omega, by decide, fun hc => ?_, fun hc => ?_⟩
    · have hc : lineOf (pend.getD k ⟨0, 0, false⟩).at_ = line := by simpa [lineOf] using hc
      simp only [go_sem, Nat.reduceEqDiff, Nat.reduceLT, Nat.reduceAdd, Nat.reduceSub, Nat.reduceLeDiff, List.reduceReplicate, Int.reduceToNat]
      refine ⟨⟨by omega, by omega⟩, hkl, m - 1, by omega, k + 1, by omega, by rw [w64 (by omega) (by omega)]; rfl, ?_⟩
      rw [hnx, if_pos hc, List.append_assoc]; rfl
    · have hc : ¬ lineOf (pend.getD k ⟨0, 0, false⟩).at_ = line := by simpa [lineOf] using hc
      simp only [go_sem, Nat.reduceEqDiff, Nat.reduceLT, Nat.reduceAdd, Nat.reduceSub, Nat.reduceLeDiff, List.reduceReplicate, Int.reduceToNat]
      refine ⟨m - 1, by omega, k + 1, by omega, by rw [w64 (by omega) (by omega)]; rfl, ?_⟩
      rw [hnx, if_neg hc, List.append_assoc, hdrop]; rfl
  · have : k = pend.length := by omega
    subst this
    rw [List.take_length, List.drop_length, List.append_nil] at hlen
    have e : flushP line (pend.take pend.length) ++ pend.drop pend.length = flushP line pend := by rw [List.take_length, List.drop_length, List.append_nil]
    rw [e]
    unfold flushM
    simp only [hb, if_true]
    refine post_val ?_ rfl
    have t1 : (flushP line pend).take pend.length = flushP line pend := List.take_of_length_le (by omega)
    simp only [go_sem, Nat.reduceEqDiff, Nat.reduceLT, Nat.reduceAdd, Nat.reduceSub, Nat.reduceLeDiff, List.reduceReplicate, Int.reduceToNat, memV, t1]
def pmem_Fence_1.C : Contract
  | [.agg [.int .i64 a, .int .i64 v, .bool f]] => some (false, pD True (.bool f))
  | _ => none
set_option maxRecDepth 20000 in
theorem pmem_Fence_1.spec : FSpec Try.prog 165 pmem_Fence_1.C := by
  refine FSpec.of (ctx_ok (F := []) (S := []) (by simp) (by simp) pmem_Fence_1.loops) pmem_Fence_1.at pmem_Fence_1.nm pmem_Fence_1.bd ?_
  intro vs b S v news e hS
  unfold pmem_Fence_1.C at e
  split at e
  rotate_left
  · cases e
  cases e
  rw [pmem_Fence_1.eq]
  unfold pmem_Fence_1.H
  simp (maxSteps := 4000000) only [go_sem, Nat.reduceEqDiff, Nat.reduceLT, Nat.reduceAdd, Nat.reduceSub, Nat.reduceLeDiff, List.reduceReplicate, Int.reduceToNat]
  exact post_val rfl rfl
def pmem_keep.K : Con := fun args h K => match args with
  | [a0, a1] => pmem_keep.H (ctx [(64, slices_Clone_sl_int_int.C), (165, pmem_Fence_1.C)] [] pmem_keep.loops) a0 a1 h K
  | _ => False
theorem pmem_keep.spec : SSpec Try.prog 164 pmem_keep.K := by
  refine SSpec.of (ctx_ok (F := [(64, slices_Clone_sl_int_int.C), (165, pmem_Fence_1.C)]) (S := []) (by simpa using ⟨slices_Clone_sl_int_int.spec, pmem_Fence_1.spec⟩) (by simp) pmem_keep.loops) pmem_keep.at pmem_keep.nm pmem_keep.bd ?_
  intro args h K hC
  unfold pmem_keep.K at hC
  split at hC
  · rw [pmem_keep.eq]; exact hC
  · exact hC.elim

def pmem_Fence.C : Contract
  | [.agg [.sl false (.ints .i64 vol), .sl false (.ints .i64 per), .sl false (.pends pend)]] => some (false, pD (smallM vol per pend) (fenceM fFl (checkB vol per pend) vol per pend))
  | _ => none
set_option maxRecDepth 20000 in
theorem pmem_Fence.spec : FSpec Try.prog 158 pmem_Fence.C := by
  refine FSpec.of (ctx_ok (F := [(147, pmem_Check.C)]) (S := [(164, pmem_keep.K)]) (by simpa using pmem_Check.spec) (by simpa using pmem_keep.spec) pmem_Fence.loops) pmem_Fence.at pmem_Fence.nm pmem_Fence.bd ?_
  intro vs b S v news e hS
  unfold pmem_Fence.C at e
  split at e
  rotate_left
  · cases e
  cases e
  rw [pmem_Fence.eq]
  unfold pmem_Fence.H
  simp (maxSteps := 4000000) only [go_sem, Nat.reduceEqDiff, Nat.reduceLT, Nat.reduceAdd, Nat.reduceSub, Nat.reduceLeDiff, List.reduceReplicate, Int.reduceToNat, pmem_Check.C, pmem_keep.K, pmem_keep.H, slices_Clone_sl_int_int.C]
  rename_i vol per pend
  refine ⟨hS, fun hb => ?_, fun hb => ⟨hS.2.1, ?_⟩⟩
  · unfold fenceM; rw [hb]; exact post_val rfl rfl
  obtain ⟨s1, s2, s3⟩ := hS
  unfold roomy at s1 s2 s3
  have hrange := check_range hb
  rw [joinW_eq]
  unfold pmem_keep.L1
  refine ⟨fun m lv h' => ∃ k v : Nat, k + m = pend.length ∧ lv = [.int .i64 k] ∧ h' = [.box (.agg [.sl false (.ints .i64 vol), .sl false (.ints .i64 per), .sl false (.pends pend)]), .box (.agg [.sl false (.ints .i64 []), .sl false (.ints .i64 []), .sl false (.pends [])]), .box (.agg [.sl false (.ints .i64 vol), .sl false (.ints .i64 per), .sl false (.pends pend)]), .box (.agg [.sl false (.ints .i64 []), .sl false (.ints .i64 []), .sl false (.pends [])]), .row .own 0 (.ints .i64 (keepW fFl (pend.take k) per)), .box (.agg [.sl false (.ints .i64 vol), .sref false 4 0 0 per.length, .sref false 6 v 0 (keepP fFl (pend.take k)).length]), .row .own v (.pends (keepP fFl (pend.take k)))],
    ⟨pend.length, 0, 0, by omega, rfl, rfl⟩, ?_⟩
  rintro m h' t17 ⟨k, v, hk, hlv, rfl⟩
  simp only [List.cons.injEq, and_true] at hlv
  subst hlv
  have hwl : (keepW fFl (pend.take k) per).length = per.length := keepW_len _ _ _
  have hpl : (keepP fFl (pend.take k)).length ≤ k := Nat.le_trans (List.length_filter_le _ _) (by simp; omega)
  simp only [go_sem, Nat.reduceEqDiff, Nat.reduceLT, Nat.reduceAdd, Nat.reduceSub, Nat.reduceLeDiff, List.reduceReplicate, Int.reduceToNat, encPend, hwl, pmem_Fence_1.C]
  refine ⟨fun hlt => ?_, fun hge => ?_⟩
  · have hkl : k < pend.length := by omega
    have hr := hrange _ (getD_mem pend k ⟨0, 0, false⟩ hkl)
    have hW := keepW_snoc fFl (pend.getD k ⟨0, 0, false⟩) (pend.take k) per
    have hP := keepP_snoc fFl (pend.getD k ⟨0, 0, false⟩) (pend.take k)
    rw [← take_next pend k ⟨0, 0, false⟩ hkl] at hW hP
    generalize pend.getD k ⟨0, 0, false⟩ = p at *
    try rw [joinW_eq]
    refine ⟨by omega, fun hc => ?_, fun hc => ?_⟩
    · have hc : fFl p = true := hc
      rw [hc] at hW hP
      simp only [go_sem, Nat.reduceEqDiff, Nat.reduceLT, Nat.reduceAdd, Nat.reduceSub, Nat.reduceLeDiff, List.reduceReplicate, Int.reduceToNat]
      refine ⟨hr, by omega, m - 1, by omega, k + 1, v, by omega, by rw [w64 (by omega) (by omega)]; rfl, ?_⟩
      rw [hW, hP]
    · have hc : fFl p = false := hc
      rw [hc] at hW hP
      simp only [go_sem, Nat.reduceEqDiff, Nat.reduceLT, Nat.reduceAdd, Nat.reduceSub, Nat.reduceLeDiff, List.reduceReplicate, Int.reduceToNat]
      refine ⟨by unfold roomy; simp; omega, m - 1, by omega, k + 1, v + 1, by omega, by rw [w64 (by omega) (by omega)]; rfl, ?_⟩
      rw [hW, hP]
  · have : k = pend.length := by omega
    subst this
    rw [List.take_length] at hwl hpl ⊢
    have t1 : (keepW fFl pend per).take per.length = keepW fFl pend per := List.take_of_length_le (by omega)
    have t2 : (keepP fFl pend).take (keepP fFl pend).length = keepP fFl pend := List.take_length
    unfold fenceM
    simp only [hb, if_true, go_sem, Nat.reduceEqDiff, Nat.reduceLT, Nat.reduceAdd, Nat.reduceSub, Nat.reduceLeDiff, List.reduceReplicate, Int.reduceToNat]
    refine post_val ?_ rfl
    simp only [go_sem, Nat.reduceEqDiff, Nat.reduceLT, Nat.reduceAdd, Nat.reduceSub, Nat.reduceLeDiff, List.reduceReplicate, Int.reduceToNat, memV, t1, t2]

end Lam
namespace Lam
open Go Go.Proofs
set_option linter.unusedVariables false
set_option linter.unnecessarySimpa false
set_option linter.unusedSimpArgs false
def fast_may_1.C : Contract
  | [.int .i64 n] => some (false, pD True (.bool (lt1 n)))
  | _ => none
set_option maxRecDepth 20000 in
theorem fast_may_1.spec : FSpec Try.prog 106 fast_may_1.C := by
  refine FSpec.of (ctx_ok (F := []) (S := []) (by simp) (by simp) fast_may_1.loops) fast_may_1.at fast_may_1.nm fast_may_1.bd ?_
  intro vs b S v news e hS
  unfold fast_may_1.C at e
  split at e
  rotate_left
  · cases e
  cases e
  rw [fast_may_1.eq]
  unfold fast_may_1.H
  simp (maxSteps := 4000000) only [go_sem, Nat.reduceEqDiff, Nat.reduceLT, Nat.reduceAdd, Nat.reduceSub, Nat.reduceLeDiff, List.reduceReplicate, Int.reduceToNat]
  exact post_val rfl rfl
def fast_Slots_1.C : Contract
  | [.int .i64 n] => some (false, pD True (.bool (lt1 n)))
  | _ => none
set_option maxRecDepth 20000 in
theorem fast_Slots_1.spec : FSpec Try.prog 90 fast_Slots_1.C := by
  refine FSpec.of (ctx_ok (F := []) (S := []) (by simp) (by simp) fast_Slots_1.loops) fast_Slots_1.at fast_Slots_1.nm fast_Slots_1.bd ?_
  intro vs b S v news e hS
  unfold fast_Slots_1.C at e
  split at e
  rotate_left
  · cases e
  cases e
  rw [fast_Slots_1.eq]
  unfold fast_Slots_1.H
  simp (maxSteps := 4000000) only [go_sem, Nat.reduceEqDiff, Nat.reduceLT, Nat.reduceAdd, Nat.reduceSub, Nat.reduceLeDiff, List.reduceReplicate, Int.reduceToNat]
  exact post_val rfl rfl
def node_block.C : Contract
  | [.int .i64 n] => some (false, pD True (.bool (blockB n)))
  | _ => none
set_option maxRecDepth 20000 in
theorem node_block.spec : FSpec Try.prog 98 node_block.C := by
  refine FSpec.of (ctx_ok (F := []) (S := []) (by simp) (by simp) node_block.loops) node_block.at node_block.nm node_block.bd ?_
  intro vs b S v news e hS
  unfold node_block.C at e
  split at e
  rotate_left
  · cases e
  cases e
  rw [node_block.eq]
  unfold node_block.H
  simp (maxSteps := 4000000) only [go_sem, Nat.reduceEqDiff, Nat.reduceLT, Nat.reduceAdd, Nat.reduceSub, Nat.reduceLeDiff, List.reduceReplicate, Int.reduceToNat]
  exact post_val rfl rfl
def node_Check_1.C : Contract
  | [.int .i64 n] => some (false, pD True (.bool (noBlock n)))
  | _ => none
set_option maxRecDepth 20000 in
theorem node_Check_1.spec : FSpec Try.prog 100 node_Check_1.C := by
  refine FSpec.of (ctx_ok (F := [(98, node_block.C)]) (S := []) (by simpa using node_block.spec) (by simp) node_Check_1.loops) node_Check_1.at node_Check_1.nm node_Check_1.bd ?_
  intro vs b S v news e hS
  unfold node_Check_1.C at e
  split at e
  rotate_left
  · cases e
  cases e
  rw [node_Check_1.eq]
  unfold node_Check_1.H
  simp (maxSteps := 4000000) only [go_sem, Nat.reduceEqDiff, Nat.reduceLT, Nat.reduceAdd, Nat.reduceSub, Nat.reduceLeDiff, List.reduceReplicate, Int.reduceToNat, node_block.C]
  exact post_val rfl rfl
theorem indexInts_vc (c : Ctx) (hd : c.drawn = false) (f : FuncId) (p : Int → Bool) (hf : ∀ n, c.envF f [.int .i64 n] = some (false, pD True (.bool (p n)))) (x : Bool) (l : List Int) (hr : roomy l.length) :
    slices_IndexFunc_sl_int_int.H c (.sl x (.ints .i64 l)) (.fn (.func f) [] []) [] (Post false (.int .i64 (idxI p l)) []) := by
  unfold roomy at hr
  unfold slices_IndexFunc_sl_int_int.H
  simp only [go_sem, Nat.reduceEqDiff, Nat.reduceLT, Nat.reduceAdd, Nat.reduceSub, Nat.reduceLeDiff, List.reduceReplicate, Int.reduceToNat]
  rw [joinW_eq]
  unfold slices_IndexFunc_sl_int_int.L1
  refine loop1 (σ := Nat) (fun k => .int .i64 k) (fun k => []) (fun k => l.length - k) (fun k => k ≤ l.length ∧ ∀ y ∈ l.take k, p y = false) 0 rfl rfl ⟨Nat.zero_le _, by simp⟩ ?_
  rintro I back k ⟨hk, hall⟩
  simp only [hf, hd, go_sem, Nat.reduceEqDiff, Nat.reduceLT, Nat.reduceAdd, Nat.reduceSub, Nat.reduceLeDiff, List.reduceReplicate, Int.reduceToNat]
  refine ⟨fun hlt => ⟨by omega, fun h => ?_, fun h => ?_⟩, fun hge => ?_⟩
  · have hkl : k < l.length := by omega
    have h1 : l.any p = true := List.any_eq_true.2 ⟨_, getD_mem l k 0 hkl, h⟩
    have h2 : l.findIdx p = k := by
      rw [List.findIdx_eq hkl]
      refine ⟨by rw [List.getD_eq_getElem?_getD, List.getElem?_eq_getElem hkl] at h; exact h, fun j hj => ?_⟩
      have := hall l[j] (List.mem_take_iff_getElem.2 ⟨j, by omega, rfl⟩)
      simpa using this
    unfold idxI; rw [if_pos h1, h2]
    exact post_val rfl rfl
  · refine back (k + 1) (by omega) (by rw [wnext (by omega)]) rfl ⟨by omega, fun y hy => ?_⟩
    rw [take_next l k 0 (by omega), List.mem_append, List.mem_singleton] at hy
    rcases hy with hy | rfl
    · exact hall y hy
    · exact h
  · obtain rfl : k = l.length := by omega
    rw [List.take_length] at hall
    have h1 : ¬ l.any p = true := by
      rw [List.any_eq_true]; rintro ⟨y, hy, hp⟩; rw [hall y hy] at hp; cases hp
    unfold idxI; rw [if_neg h1]
    exact post_val rfl rfl
def predI (f : Nat) : Option (Int → Bool) :=
  if f = 106 then some lt1 else
  if f = 90 then some lt1 else
  if f = 100 then some noBlock else
  none
@[go_sem] theorem predI_fm : predI 106 = some lt1 := rfl
@[go_sem] theorem predI_fs : predI 90 = some lt1 := rfl
@[go_sem] theorem predI_nc : predI 100 = some noBlock := rfl
def slices_IndexFunc_sl_int_int.C : Contract
  | [.sl _ (.ints .i64 l), .fn (.func f) [] []] => match predI f with
    | some p => some (false, pD (roomy l.length) (.int .i64 (idxI p l)))
    | none => none
  | _ => none
theorem slices_IndexFunc_sl_int_int.spec : FSpec Try.prog 89 slices_IndexFunc_sl_int_int.C := by
  refine FSpec.of (ctx_ok (F := [(106, fast_may_1.C), (90, fast_Slots_1.C), (100, node_Check_1.C)]) (S := []) (by simpa using ⟨fast_may_1.spec, fast_Slots_1.spec, node_Check_1.spec⟩) (by simp) slices_IndexFunc_sl_int_int.loops) slices_IndexFunc_sl_int_int.at slices_IndexFunc_sl_int_int.nm slices_IndexFunc_sl_int_int.bd ?_
  intro vs b S v news e hS
  unfold slices_IndexFunc_sl_int_int.C at e
  split at e
  rotate_left
  · cases e
  rw [slices_IndexFunc_sl_int_int.eq]
  rename_i x l f
  split at e
  rotate_left
  · cases e
  rename_i p hp
  cases e
  refine indexInts_vc _ rfl f p (fun n => ?_) x l hS
  unfold predI at hp
  simp only [ctx_envF]
  repeat' split at hp
  all_goals first | (rename_i h; subst h; cases hp; rfl) | cases hp
def slices_ContainsFunc_sl_int_int.C : Contract
  | [.sl _ (.ints .i64 l), .fn (.func f) [] []] => match predI f with
    | some p => some (false, pD (roomy l.length) (.bool (l.any p)))
    | none => none
  | _ => none
theorem slices_ContainsFunc_sl_int_int.spec : FSpec Try.prog 99 slices_ContainsFunc_sl_int_int.C := by
  refine FSpec.of (ctx_ok (F := [(89, slices_IndexFunc_sl_int_int.C)]) (S := []) (by simpa using slices_IndexFunc_sl_int_int.spec) (by simp) slices_ContainsFunc_sl_int_int.loops) slices_ContainsFunc_sl_int_int.at slices_ContainsFunc_sl_int_int.nm slices_ContainsFunc_sl_int_int.bd ?_
  intro vs b S v news e hS
  unfold slices_ContainsFunc_sl_int_int.C at e
  split at e
  rotate_left
  · cases e
  rw [slices_ContainsFunc_sl_int_int.eq]
  rename_i x l f
  split at e
  rotate_left
  · cases e
  rename_i p hp
  cases e
  unfold slices_ContainsFunc_sl_int_int.H
  simp only [slices_IndexFunc_sl_int_int.C, hp, go_sem, Nat.reduceEqDiff, Nat.reduceLT, Nat.reduceAdd, Nat.reduceSub, Nat.reduceLeDiff, List.reduceReplicate, Int.reduceToNat]
  refine ⟨hS, ?_⟩
  have : decide (0 ≤ idxI p l) = l.any p := by
    unfold idxI
    cases h : l.any p
    · rfl
    · rw [if_pos rfl]; exact decide_eq_true (by omega)
  rw [this]; exact post_val rfl rfl
end Lam
namespace Lam
open Go Go.Proofs
set_option linter.unusedVariables false
set_option linter.unnecessarySimpa false
set_option linter.unusedSimpArgs false
def pmem_New.C : Contract
  | [.sl _ (.ints .i64 l)] => some (false, pD (roomy l.length) (newM l))
  | _ => none
set_option maxRecDepth 20000 in
theorem pmem_New.spec : FSpec Try.prog 40 pmem_New.C := by
  refine FSpec.of (ctx_ok (F := [(78, pmem_sized.C), (64, slices_Clone_sl_int_int.C)]) (S := []) (by simpa using ⟨pmem_sized.spec, slices_Clone_sl_int_int.spec⟩) (by simp) pmem_New.loops) pmem_New.at pmem_New.nm pmem_New.bd ?_
  intro vs b S v news e hS
  unfold pmem_New.C at e
  split at e
  rotate_left
  · cases e
  cases e
  rw [pmem_New.eq]
  unfold pmem_New.H
  simp (maxSteps := 4000000) only [go_sem, Nat.reduceEqDiff, Nat.reduceLT, Nat.reduceAdd, Nat.reduceSub, Nat.reduceLeDiff, List.reduceReplicate, Int.reduceToNat, pmem_sized.C, slices_Clone_sl_int_int.C]
  rename_i l
  unfold roomy at hS
  refine ⟨fun hb => ?_, fun hb => ?_⟩
  · unfold newM; rw [hb]; exact post_val rfl rfl
  · refine ⟨hS, hS, ?_⟩
    unfold newM; simp only [hb, if_true]
    refine post_val ?_ rfl
    simp only [go_sem, Nat.reduceEqDiff, Nat.reduceLT, Nat.reduceAdd, Nat.reduceSub, Nat.reduceLeDiff, List.reduceReplicate, Int.reduceToNat, memV, List.take_length]
end Lam
namespace Lam
open Go Go.Proofs
set_option linter.unusedVariables false
def micro_Do.loops : Nat → LInfo
  | _ => ⟨[], [], [], [], [], []⟩
def micro_Do.H (c : Ctx) (t0 : AV) (t1 : AV) (h : List AObj) (K : AOut → List AObj → Prop) : Prop :=
  boxW T_api_Mem t0 h fun t2 h =>
  boxW T_api_Micro t1 h fun t3 h =>
  allocW T_api_Mem h fun t4 h =>
  runD (fitD T_api_Mem (loadD h t2)) h fun t6 h =>
  runD (fitD T_api_Micro (loadD h t3)) h fun t7 h =>
  runD (buildSliceD T_sl_api_Micro 1 [(0, t7)] h.length) h fun t8 h =>
  callW false c (.fn (.func 108) [] []) [t6, t8] h (fun t9 h =>
  runD (extractD t9 0) h fun t10 h =>
  runD (extractD t9 1) h fun t11 h =>
  runH (storeH T_api_Mem h t4 t10) h fun _ h =>
  loadRes (fitD T_api_Mem (loadD h t4)) fun r0 => K (.ret (.tup [r0, t11])) h)
  (fun v h => K (.pan v) h)
def micro_Check.loops : Nat → LInfo
  | 1 => ⟨[], [], [], [(3, none), (2, some [8, 10]), (2, none), (3, some [12, 15])], [], []⟩
  | 2 => ⟨[], [], [], [(2, none), (4, some [18, 22])], [], []⟩
  | _ => ⟨[], [], [], [], [], []⟩
def micro_Check.H (c : Ctx) (t0 : AV) (t1 : AV) (h : List AObj) (K : AOut → List AObj → Prop) : Prop :=
  boxW T_int t1 h fun t3 h =>
  runD (fitD T_int (loadD h t3)) h fun t6 h =>
  runD (binD T_int .geq t6 (.int .i64 0)) h fun t7 h =>
  joinW (fun (J1 : AV → AV → List AObj → Prop) =>
  guardW t7 true
  (runD (fitD T_int (loadD h t3)) h fun t9 h =>
    runD (binD T_int .leq t9 (.int .i64 4096)) h fun t10 h =>
    J1 (.bool true) t10 h)
  (J1 (.bool false) .und h))
  (fun t8 t10 h => runD (pickD t8 t10 (.bool false)) h fun t11 h =>
  joinW (fun (J2 : AV → AV → List AObj → Prop) =>
  guardW t11 true
  (runD (fitD T_int (loadD h t3)) h fun t13 h =>
    runD (binD T_int .rem t13 (.int .i64 8)) h fun t14 h =>
    runD (binD T_int .eql t14 (.int .i64 0)) h fun t15 h =>
    J2 (.bool true) t15 h)
  (J2 (.bool false) .und h))
  (fun t12 t15 h => runD (pickD t12 t15 (.bool false)) h fun t16 h =>
  joinW (fun (J3 : AV → AV → List AObj → Prop) =>
  guardW t16 true
  (callW false c (.fn (.func 129) [] []) [t0, (.fn (.func 130) [] [t3])] h (fun t21 h =>
    runD (unD .not t21) h fun t22 h =>
    J3 (.bool true) t22 h)
    (fun v h => K (.pan v) h))
  (J3 (.bool false) .und h))
  (fun t18 t22 h => runD (pickD t18 t22 (.bool false)) h fun t23 h =>
  K (.ret t23) h)))
def micro_Run.loops : Nat → LInfo
  | _ => ⟨[], [], [], [], [], []⟩
def micro_Run.H (c : Ctx) (t0 : AV) (t1 : AV) (h : List AObj) (K : AOut → List AObj → Prop) : Prop :=
  boxW T_api_Mem t0 h fun t2 h =>
  allocW T_api_Mem h fun t4 h =>
  runD (fitD T_api_Mem (loadD h t2)) h fun t6 h =>
  callW false c (.fn (.func 132) [] []) [t6, t1] h (fun t8 h =>
  runD (unD .not t8) h fun t9 h =>
  condW t9
  (runD (fitD T_api_Mem (loadD h t2)) h fun t10 h =>
    runH (storeH T_api_Mem h t4 t10) h fun _ h =>
    loadRes (fitD T_api_Mem (loadD h t4)) fun r0 => K (.ret (.tup [r0, (.int .i64 40)])) h)
  (runD (fitD T_api_Mem (loadD h t2)) h fun t11 h =>
  runD (lenD T_sl_api_Micro h t1) h fun t14 h =>
  callW false c (.fn (.func 133) [] []) [t11, t1, t14] h (fun t15 h =>
  runH (storeH T_api_Mem h t4 t15) h fun _ h =>
  loadRes (fitD T_api_Mem (loadD h t4)) fun r0 => K (.ret (.tup [r0, (.int .i64 0)])) h)
  (fun v h => K (.pan v) h)))
  (fun v h => K (.pan v) h)
def micro_Check_1.loops : Nat → LInfo
  | _ => ⟨[], [], [], [], [], []⟩
def micro_Check_1.H (c : Ctx) (t0 : AV) (t1 : AV) (h : List AObj) (K : AOut → List AObj → Prop) : Prop :=
  boxW T_api_Micro t0 h fun t2 h =>
  runD (fitD T_api_Micro (loadD h t2)) h fun t4 h =>
  runD (fitD T_int (loadD h t1)) h fun t5 h =>
  callW false c (.fn (.func 131) [] []) [t4, t5] h (fun t6 h =>
  runD (unD .not t6) h fun t7 h =>
  K (.ret t7) h)
  (fun v h => K (.pan v) h)
def micro_may.loops : Nat → LInfo
  | 2 => ⟨[], [], [], [(4, none), (7, some [14, 21]), (2, none), (8, some [23, 31])], [], []⟩
  | _ => ⟨[], [], [], [], [], []⟩
def micro_may.H (c : Ctx) (t0 : AV) (t1 : AV) (h : List AObj) (K : AOut → List AObj → Prop) : Prop :=
  boxW T_api_Micro t0 h fun t2 h =>
  runD (makeMapD T_map_int_int h.length) h fun t6 h =>
  runH (mapSetH T_map_int_int h t6 (.int .i64 1) t1) h fun _ h =>
  runD (binD T_int .quo t1 (.int .i64 8)) h fun t9 h =>
  runH (mapSetH T_map_int_int h t6 (.int .i64 2) t9) h fun _ h =>
  runD (fieldAddrD T_api_Micro t2 1) h fun t11 h =>
  runD (fitD T_int (loadD h t11)) h fun t12 h =>
  runD (binD T_int .geq t12 (.int .i64 0)) h fun t13 h =>
  joinW (fun (J1 : AV → AV → List AObj → Prop) =>
  guardW t13 true
  (runD (fieldAddrD T_api_Micro t2 1) h fun t15 h =>
    runD (fitD T_int (loadD h t15)) h fun t16 h =>
    runD (fieldAddrD T_api_Micro t2 0) h fun t18 h =>
    runD (fitD T_int (loadD h t18)) h fun t19 h =>
    runD (lookupD T_map_int_int h t6 t19) h fun t20 h =>
    runD (binD T_int .lss t16 t20) h fun t21 h =>
    J1 (.bool true) t21 h)
  (J1 (.bool false) .und h))
  (fun t14 t21 h => runD (pickD t14 t21 (.bool false)) h fun t22 h =>
  joinW (fun (J2 : AV → AV → List AObj → Prop) =>
  guardW t22 true
  (runD (fieldAddrD T_api_Micro t2 0) h fun t24 h =>
    runD (fitD T_int (loadD h t24)) h fun t25 h =>
    runD (binD T_int .eql t25 (.int .i64 1)) h fun t26 h =>
    joinW (fun (J3 : AV → AV → List AObj → Prop) =>
    guardW t26 false
    (runD (fieldAddrD T_api_Micro t2 2) h fun t28 h =>
      runD (fitD T_int (loadD h t28)) h fun t29 h =>
      runD (binD T_int .eql t29 (.int .i64 0)) h fun t30 h =>
      J3 (.bool false) t30 h)
    (J3 (.bool true) .und h))
    (fun t27 t30 h => runD (pickD t27 (.bool true) t30) h fun t31 h =>
    J2 (.bool true) t31 h))
  (J2 (.bool false) .und h))
  (fun t23 t31 h => runD (pickD t23 t31 (.bool false)) h fun t32 h =>
  K (.ret t32) h))
def micro_sound.loops : Nat → LInfo
  | 1 => ⟨[], [], [], [(3, none), (5, some [7, 12])], [], []⟩
  | _ => ⟨[], [], [], [], [], []⟩
def micro_sound.H (c : Ctx) (t0 : AV) (t1 : AV) (h : List AObj) (K : AOut → List AObj → Prop) : Prop :=
  boxW T_api_Mem t0 h fun t2 h =>
  runD (fitD T_api_Mem (loadD h t2)) h fun t5 h =>
  callW false c (.fn (.func 147) [] []) [t5] h (fun t6 h =>
  joinW (fun (J1 : AV → AV → List AObj → Prop) =>
  guardW t6 true
  (runD (fieldAddrD T_api_Mem t2 0) h fun t9 h =>
    runD (fitD T_sl_int (loadD h t9)) h fun t10 h =>
    runD (lenD T_sl_int h t10) h fun t11 h =>
    callW false c (.fn (.func 107) [] []) [t1, t11] h (fun t12 h =>
    J1 (.bool true) t12 h)
    (fun v h => K (.pan v) h))
  (J1 (.bool false) .und h))
  (fun t7 t12 h => runD (pickD t7 t12 (.bool false)) h fun t13 h =>
  K (.ret t13) h))
  (fun v h => K (.pan v) h)
def micro_first.loops : Nat → LInfo
  | 4 => ⟨[15], [false], [1, 6, 7, 8, 14], [], [], []⟩
  | _ => ⟨[], [], [], [], [], []⟩
def micro_first.L1 (c : Ctx) (J1 : AV → AV → List AObj → Prop) (K : AOut → List AObj → Prop) (lv : List AV) (h0 : List AObj) (n0 : Nat) (c1 : AV) (c6 : AV) (c7 : AV) (c8 : AV) (c14 : AV) : Prop :=
  ∃ I : Nat → List AV → List AObj → Prop, (∃ n, I n lv h0) ∧ ∀ n h, ∀ t15, I n [t15] h →
    runD (binD T_int .lss t15 c14) h fun t16 h =>
    condW t16
    (runD (indexAddrD T_sl_api_Micro h c1 t15) h fun t21 h =>
    runD (fieldAddrD T_api_Micro t21 0) h fun t22 h =>
    runD (fitD T_int (loadD h t22)) h fun t23 h =>
    runD (lookupD T_map_int_func_p_micro_doer_api_Micro h c8 t23) h fun t24 h =>
    runD (indexAddrD T_sl_api_Micro h c1 t15) h fun t28 h =>
    runD (fitD T_api_Micro (loadD h t28)) h fun t29 h =>
    callW false c t24 [c7, t29] h (fun t30 h =>
    runD (binD T_int .add t15 (.int .i64 1)) h fun t31 h =>
    (∃ m, m < n ∧ I m (AV.norms n0 h [t31]) (normH n0 h)) ∧ AV.norms n0 h [c1, c6, c7, c8, c14] = [c1, c6, c7, c8, c14])
    (fun v h => K (.pan v) h))
    (J1 c6 c7 h)
def micro_first.H (c : Ctx) (t0 : AV) (t1 : AV) (t2 : AV) (h : List AObj) (K : AOut → List AObj → Prop) : Prop :=
  boxW T_api_Mem t0 h fun t3 h =>
  allocW T_api_Mem h fun t6 h =>
  runD (fitD T_api_Mem (loadD h t3)) h fun t10 h =>
  runD (buildD T_micro_doer [(0, t10)]) h fun t11 h =>
  boxW T_micro_doer t11 h fun t12 h =>
  callW false c (.fn (.func 148) [] []) [] h (fun t13 h =>
  joinW (fun (J1 : AV → AV → List AObj → Prop) =>
  promV [false] [(.int .i64 0)] h fun lv h => micro_first.L1 c J1 K (AV.norms h.length h lv) (normH h.length h) h.length (AV.norm h.length h t1) (AV.norm h.length h t6) (AV.norm h.length h t12) (AV.norm h.length h t13) (AV.norm h.length h t2))
  (fun t6 t7 h => runD (nilCheckD t7) h fun t33 h =>
  runD (fieldAddrD T_micro_doer t33 0) h fun t34 h =>
  runD (fitD T_api_Mem (loadD h t34)) h fun t35 h =>
  runH (storeH T_api_Mem h t6 t35) h fun _ h =>
  loadRes (fitD T_api_Mem (loadD h t6)) fun r0 => K (.ret r0) h))
  (fun v h => K (.pan v) h)
def micro_kinds.loops : Nat → LInfo
  | _ => ⟨[], [], [], [], [], []⟩
def micro_kinds.H (c : Ctx) (h : List AObj) (K : AOut → List AObj → Prop) : Prop :=
  runD (makeMapD T_map_int_func_p_micro_doer_api_Micro h.length) h fun t1 h =>
  runH (mapSetH T_map_int_func_p_micro_doer_api_Micro h t1 (.int .i64 1) (.fn (.func 152) [] [])) h fun _ h =>
  runH (mapSetH T_map_int_func_p_micro_doer_api_Micro h t1 (.int .i64 2) (.fn (.func 153) [] [])) h fun _ h =>
  K (.ret t1) h
def micro_doer_store.loops : Nat → LInfo
  | _ => ⟨[], [], [], [], [], []⟩
def micro_doer_store.H (c : Ctx) (t0 : AV) (t1 : AV) (h : List AObj) (K : AOut → List AObj → Prop) : Prop :=
  boxW T_api_Micro t1 h fun t3 h =>
  runD (nilCheckD t0) h fun t7 h =>
  runD (fieldAddrD T_micro_doer t7 0) h fun t8 h =>
  runD (fitD T_api_Mem (loadD h t8)) h fun t9 h =>
  runD (fieldAddrD T_api_Micro t3 1) h fun t10 h =>
  runD (fitD T_int (loadD h t10)) h fun t11 h =>
  runD (fieldAddrD T_api_Micro t3 2) h fun t12 h =>
  runD (fitD T_int (loadD h t12)) h fun t13 h =>
  callW false c.noS (.fn (.func 156) [] []) [t9, t11, t13] h (fun t14 h =>
  runD (extractD t14 0) h fun t15 h =>
  runD (extractD t14 1) h fun t16 h =>
  runD (nilCheckD t0) h fun t17 h =>
  runD (fieldAddrD T_micro_doer t17 0) h fun t18 h =>
  runH (storeH T_api_Mem h t18 t15) h fun _ h =>
  K (.ret (.tup [])) h)
  (fun _ _ => False)
def micro_doer_persist.loops : Nat → LInfo
  | _ => ⟨[], [], [], [], [], []⟩
def micro_doer_persist.H (c : Ctx) (t0 : AV) (t1 : AV) (h : List AObj) (K : AOut → List AObj → Prop) : Prop :=
  boxW T_api_Micro t1 h fun t3 h =>
  runD (nilCheckD t0) h fun t7 h =>
  runD (fieldAddrD T_micro_doer t7 0) h fun t8 h =>
  runD (fitD T_api_Mem (loadD h t8)) h fun t9 h =>
  runD (fieldAddrD T_api_Micro t3 1) h fun t10 h =>
  runD (fitD T_int (loadD h t10)) h fun t11 h =>
  callW false c.noS (.fn (.func 157) [] []) [t9, t11] h (fun t12 h =>
  runD (extractD t12 0) h fun t13 h =>
  runD (extractD t12 1) h fun t14 h =>
  runD (nilCheckD t0) h fun t15 h =>
  runD (fieldAddrD T_micro_doer t15 0) h fun t16 h =>
  runH (storeH T_api_Mem h t16 t13) h fun _ h =>
  runD (nilCheckD t0) h fun t20 h =>
  runD (fieldAddrD T_micro_doer t20 0) h fun t21 h =>
  runD (fitD T_api_Mem (loadD h t21)) h fun t22 h =>
  callW false c (.fn (.func 158) [] []) [t22] h (fun t23 h =>
  runD (extractD t23 0) h fun t24 h =>
  runD (extractD t23 1) h fun t25 h =>
  runD (nilCheckD t0) h fun t26 h =>
  runD (fieldAddrD T_micro_doer t26 0) h fun t27 h =>
  runH (storeH T_api_Mem h t27 t24) h fun _ h =>
  K (.ret (.tup [])) h)
  (fun v h => K (.pan v) h))
  (fun _ _ => False)
theorem micro_Do.eq (F : List (FuncId × Contract)) (S : List (FuncId × Con)) (t0 t1 : AV) (h : List AObj) (K : AOut → List AObj → Prop) : funW (ctx F S micro_Do.loops) Try.f79 [t0, t1] h K = micro_Do.H (ctx F S micro_Do.loops) t0 t1 h K := by kernel_rfl
theorem micro_Check.eq (F : List (FuncId × Contract)) (S : List (FuncId × Con)) (t0 t1 : AV) (h : List AObj) (K : AOut → List AObj → Prop) : funW (ctx F S micro_Check.loops) Try.f107 [t0, t1] h K = micro_Check.H (ctx F S micro_Check.loops) t0 t1 h K := by kernel_rfl
theorem micro_Run.eq (F : List (FuncId × Contract)) (S : List (FuncId × Con)) (t0 t1 : AV) (h : List AObj) (K : AOut → List AObj → Prop) : funW (ctx F S micro_Run.loops) Try.f108 [t0, t1] h K = micro_Run.H (ctx F S micro_Run.loops) t0 t1 h K := by kernel_rfl
theorem micro_Check_1.eq (F : List (FuncId × Contract)) (S : List (FuncId × Con)) (t0 t1 : AV) (h : List AObj) (K : AOut → List AObj → Prop) : funW (ctx F S micro_Check_1.loops) Try.f130 [t0, t1] h K = micro_Check_1.H (ctx F S micro_Check_1.loops) t0 t1 h K := by kernel_rfl
theorem micro_may.eq (F : List (FuncId × Contract)) (S : List (FuncId × Con)) (t0 t1 : AV) (h : List AObj) (K : AOut → List AObj → Prop) : funW (ctx F S micro_may.loops) Try.f131 [t0, t1] h K = micro_may.H (ctx F S micro_may.loops) t0 t1 h K := by kernel_rfl
theorem micro_sound.eq (F : List (FuncId × Contract)) (S : List (FuncId × Con)) (t0 t1 : AV) (h : List AObj) (K : AOut → List AObj → Prop) : funW (ctx F S micro_sound.loops) Try.f132 [t0, t1] h K = micro_sound.H (ctx F S micro_sound.loops) t0 t1 h K := by kernel_rfl
theorem micro_first.eq (F : List (FuncId × Contract)) (S : List (FuncId × Con)) (t0 t1 t2 : AV) (h : List AObj) (K : AOut → List AObj → Prop) : funW (ctx F S micro_first.loops) Try.f133 [t0, t1, t2] h K = micro_first.H (ctx F S micro_first.loops) t0 t1 t2 h K := by kernel_rfl
theorem micro_kinds.eq (F : List (FuncId × Contract)) (S : List (FuncId × Con)) (h : List AObj) (K : AOut → List AObj → Prop) : funW (ctx F S micro_kinds.loops) Try.f148 [] h K = micro_kinds.H (ctx F S micro_kinds.loops)  h K := by kernel_rfl
theorem micro_doer_store.eq (F : List (FuncId × Contract)) (S : List (FuncId × Con)) (t0 t1 : AV) (h : List AObj) (K : AOut → List AObj → Prop) : funW (ctx F S micro_doer_store.loops) Try.f152 [t0, t1] h K = micro_doer_store.H (ctx F S micro_doer_store.loops) t0 t1 h K := by kernel_rfl
theorem micro_doer_persist.eq (F : List (FuncId × Contract)) (S : List (FuncId × Con)) (t0 t1 : AV) (h : List AObj) (K : AOut → List AObj → Prop) : funW (ctx F S micro_doer_persist.loops) Try.f153 [t0, t1] h K = micro_doer_persist.H (ctx F S micro_doer_persist.loops) t0 t1 h K := by kernel_rfl
theorem micro_Do.at : Try.prog.funcs[79]? = some Try.f79 := by kernel_rfl
theorem micro_Do.nm : (Try.f79.name == "runtime.NumGoroutine") = false := by kernel_rfl
theorem micro_Do.bd : Try.f79.body.isNone = false := by kernel_rfl
theorem micro_Check.at : Try.prog.funcs[107]? = some Try.f107 := by kernel_rfl
theorem micro_Check.nm : (Try.f107.name == "runtime.NumGoroutine") = false := by kernel_rfl
theorem micro_Check.bd : Try.f107.body.isNone = false := by kernel_rfl
theorem micro_Run.at : Try.prog.funcs[108]? = some Try.f108 := by kernel_rfl
theorem micro_Run.nm : (Try.f108.name == "runtime.NumGoroutine") = false := by kernel_rfl
theorem micro_Run.bd : Try.f108.body.isNone = false := by kernel_rfl
theorem micro_Check_1.at : Try.prog.funcs[130]? = some Try.f130 := by kernel_rfl
theorem micro_Check_1.nm : (Try.f130.name == "runtime.NumGoroutine") = false := by kernel_rfl
theorem micro_Check_1.bd : Try.f130.body.isNone = false := by kernel_rfl
theorem micro_may.at : Try.prog.funcs[131]? = some Try.f131 := by kernel_rfl
theorem micro_may.nm : (Try.f131.name == "runtime.NumGoroutine") = false := by kernel_rfl
theorem micro_may.bd : Try.f131.body.isNone = false := by kernel_rfl
theorem micro_sound.at : Try.prog.funcs[132]? = some Try.f132 := by kernel_rfl
theorem micro_sound.nm : (Try.f132.name == "runtime.NumGoroutine") = false := by kernel_rfl
theorem micro_sound.bd : Try.f132.body.isNone = false := by kernel_rfl
theorem micro_first.at : Try.prog.funcs[133]? = some Try.f133 := by kernel_rfl
theorem micro_first.nm : (Try.f133.name == "runtime.NumGoroutine") = false := by kernel_rfl
theorem micro_first.bd : Try.f133.body.isNone = false := by kernel_rfl
theorem micro_kinds.at : Try.prog.funcs[148]? = some Try.f148 := by kernel_rfl
theorem micro_kinds.nm : (Try.f148.name == "runtime.NumGoroutine") = false := by kernel_rfl
theorem micro_kinds.bd : Try.f148.body.isNone = false := by kernel_rfl
theorem micro_doer_store.at : Try.prog.funcs[152]? = some Try.f152 := by kernel_rfl
theorem micro_doer_store.nm : (Try.f152.name == "runtime.NumGoroutine") = false := by kernel_rfl
theorem micro_doer_store.bd : Try.f152.body.isNone = false := by kernel_rfl
theorem micro_doer_persist.at : Try.prog.funcs[153]? = some Try.f153 := by kernel_rfl
theorem micro_doer_persist.nm : (Try.f153.name == "runtime.NumGoroutine") = false := by kernel_rfl
theorem micro_doer_persist.bd : Try.f153.body.isNone = false := by kernel_rfl
end Lam
namespace Lam
open Go Go.Proofs
set_option linter.unusedVariables false
set_option linter.unnecessarySimpa false
set_option linter.unusedSimpArgs false
def micro_may.C : Contract
  | [.agg [.int .i64 k, .int .i64 a, .int .i64 w], .int .i64 n] => some (false, pD True (.bool (mmay ⟨k, a, w⟩ n)))
  | _ => none
set_option maxRecDepth 20000 in
theorem micro_may.spec : FSpec Try.prog 131 micro_may.C := by
  refine FSpec.of (ctx_ok (F := []) (S := []) (by simp) (by simp) micro_may.loops) micro_may.at micro_may.nm micro_may.bd ?_
  intro vs b S v news e hS
  unfold micro_may.C at e
  split at e
  rotate_left
  · cases e
  cases e
  rw [micro_may.eq]
  unfold micro_may.H
  simp (maxSteps := 4000000) only [go_sem, Nat.reduceEqDiff, Nat.reduceLT, Nat.reduceAdd, Nat.reduceSub, Nat.reduceLeDiff, List.reduceReplicate, Int.reduceToNat]
  refine ⟨by decide, ?_⟩
  exact post_val rfl rfl
def micro_Check_1.K : Con := fun args h K => match args with
  | [a0, a1] => micro_Check_1.H (ctx [(131, micro_may.C)] [] micro_Check_1.loops) a0 a1 h K
  | _ => False
theorem micro_Check_1.spec : SSpec Try.prog 130 micro_Check_1.K := by
  refine SSpec.of (ctx_ok (F := [(131, micro_may.C)]) (S := []) (by simpa using micro_may.spec) (by simp) micro_Check_1.loops) micro_Check_1.at micro_Check_1.nm micro_Check_1.bd ?_
  intro args h K hC
  unfold micro_Check_1.K at hC
  split at hC
  · rw [micro_Check_1.eq]; exact hC
  · exact hC.elim
def slices_IndexFunc_sl_api_Micro_api_Micro.K : Con := fun args h K => match args with
  | [a0, a1] => slices_IndexFunc_sl_api_Micro_api_Micro.H (ctx [] [(130, micro_Check_1.K)] slices_IndexFunc_sl_api_Micro_api_Micro.loops) a0 a1 h K
  | _ => False
theorem slices_IndexFunc_sl_api_Micro_api_Micro.spec : SSpec Try.prog 146 slices_IndexFunc_sl_api_Micro_api_Micro.K := by
  refine SSpec.of (ctx_ok (F := []) (S := [(130, micro_Check_1.K)]) (by simp) (by simpa using micro_Check_1.spec) slices_IndexFunc_sl_api_Micro_api_Micro.loops) slices_IndexFunc_sl_api_Micro_api_Micro.at slices_IndexFunc_sl_api_Micro_api_Micro.nm slices_IndexFunc_sl_api_Micro_api_Micro.bd ?_
  intro args h K hC
  unfold slices_IndexFunc_sl_api_Micro_api_Micro.K at hC
  split at hC
  · rw [slices_IndexFunc_sl_api_Micro_api_Micro.eq]; exact hC
  · exact hC.elim
def slices_ContainsFunc_sl_api_Micro_api_Micro.K : Con := fun args h K => match args with
  | [a0, a1] => slices_ContainsFunc_sl_api_Micro_api_Micro.H (ctx [] [(146, slices_IndexFunc_sl_api_Micro_api_Micro.K)] slices_ContainsFunc_sl_api_Micro_api_Micro.loops) a0 a1 h K
  | _ => False
theorem slices_ContainsFunc_sl_api_Micro_api_Micro.spec : SSpec Try.prog 129 slices_ContainsFunc_sl_api_Micro_api_Micro.K := by
  refine SSpec.of (ctx_ok (F := []) (S := [(146, slices_IndexFunc_sl_api_Micro_api_Micro.K)]) (by simp) (by simpa using slices_IndexFunc_sl_api_Micro_api_Micro.spec) slices_ContainsFunc_sl_api_Micro_api_Micro.loops) slices_ContainsFunc_sl_api_Micro_api_Micro.at slices_ContainsFunc_sl_api_Micro_api_Micro.nm slices_ContainsFunc_sl_api_Micro_api_Micro.bd ?_
  intro args h K hC
  unfold slices_ContainsFunc_sl_api_Micro_api_Micro.K at hC
  split at hC
  · rw [slices_ContainsFunc_sl_api_Micro_api_Micro.eq]; exact hC
  · exact hC.elim

theorem micro_Check_1_vc (x : Mic) (n : Int) (h : List AObj) (K : AOut → List AObj → Prop) (id : Nat) (hid : h[id]? = some (.box (.int .i64 n)))
    (hK : K (.ret (.bool (!mmay x n))) (h ++ [.box (encMic x)])) : micro_Check_1.K [.agg [.int .i64 x.kind, .int .i64 x.at_, .int .i64 x.val], .ptr id []] h K := by
  have hlt : id < h.length := (List.getElem?_eq_some_iff.1 hid).1
  have hid' : ∀ r, (h ++ r)[id]? = some (.box (.int .i64 n)) := fun r => by rw [List.getElem?_append_left hlt]; exact hid
  have hlen : ∀ o r, (h ++ o :: r)[h.length]? = some o := fun o r => by simp
  unfold micro_Check_1.K
  simp only
  unfold micro_Check_1.H
  simp only [go_sem, Nat.reduceEqDiff, Nat.reduceLT, Nat.reduceAdd, Nat.reduceSub, Nat.reduceLeDiff, List.reduceReplicate, Int.reduceToNat, hid', hlen, micro_may.C]
  exact hK

theorem index_vc (l : List Mic) (n : Int) (K : AOut → List AObj → Prop) (x : Bool) (hr : roomy l.length) (h : List AObj) (hh : h = [.box (.int .i64 n)])
    (hK : ∀ r h', (r = -1 ∧ (∀ y ∈ l, mmay y n = true)) ∨ (0 ≤ r ∧ ∃ y ∈ l, mmay y n = false) → K (.ret (.int .i64 r)) h') :
    slices_IndexFunc_sl_api_Micro_api_Micro.K [.sl x (.mics l), .fn (.func 130) [] [.ptr 0 []]] h K := by
  unfold roomy at hr
  unfold slices_IndexFunc_sl_api_Micro_api_Micro.K
  simp only
  unfold slices_IndexFunc_sl_api_Micro_api_Micro.H
  subst hh
  simp only [go_sem, Nat.reduceEqDiff, Nat.reduceLT, Nat.reduceAdd, Nat.reduceSub, Nat.reduceLeDiff, List.reduceReplicate, Int.reduceToNat, joinW_eq]
  unfold slices_IndexFunc_sl_api_Micro_api_Micro.L1
  refine ⟨fun m lv h' => ∃ k : Nat, k + m = l.length ∧ lv = [.int .i64 k] ∧ h' = [.box (.int .i64 n)] ∧ ∀ y ∈ l.take k, mmay y n = true, ⟨l.length, 0, by omega, rfl, rfl, by simp⟩, ?_⟩
  rintro m h' t8 ⟨k, hk, hlv, rfl, hall⟩
  simp only [List.cons.injEq, and_true] at hlv
  subst hlv
  simp only [go_sem, Nat.reduceEqDiff, Nat.reduceLT, Nat.reduceAdd, Nat.reduceSub, Nat.reduceLeDiff, List.reduceReplicate, Int.reduceToNat]
  refine ⟨fun hlt => ⟨by omega, ?_⟩, fun hge => ?_⟩
  · have hkl : k < l.length := by omega
    apply micro_Check_1_vc _ n _ _ 0 rfl
    simp only [go_sem, Nat.reduceEqDiff, Nat.reduceLT, Nat.reduceAdd, Nat.reduceSub, Nat.reduceLeDiff, List.reduceReplicate, Int.reduceToNat]
    refine ⟨fun h => hK _ _ (.inr ⟨by omega, _, getD_mem l k _ hkl, by simpa using h⟩), fun h => ?_⟩
    refine ⟨m - 1, by omega, k + 1, by omega, by rw [w64 (by omega) (by omega)]; rfl, ?_⟩
    intro y hy
    rw [take_next l k ⟨0, 0, 0⟩ hkl] at hy
    rcases List.mem_append.1 hy with hy | hy
    · exact hall y hy
    · rw [List.mem_singleton.1 hy]; simpa using h
  · have : k = l.length := by omega
    subst this
    rw [List.take_length] at hall
    exact hK _ _ (.inl ⟨rfl, hall⟩)

theorem contains_vc (l : List Mic) (n : Int) (K : AOut → List AObj → Prop) (x : Bool) (hr : roomy l.length) (h : List AObj) (hh : h = [.box (.int .i64 n)])
    (hK : ∀ h', K (.ret (.bool (!l.all (mmay · n)))) h') :
    slices_ContainsFunc_sl_api_Micro_api_Micro.K [.sl x (.mics l), .fn (.func 130) [] [.ptr 0 []]] h K := by
  unfold slices_ContainsFunc_sl_api_Micro_api_Micro.K
  simp only
  unfold slices_ContainsFunc_sl_api_Micro_api_Micro.H
  subst hh
  simp only [go_sem, Nat.reduceEqDiff, Nat.reduceLT, Nat.reduceAdd, Nat.reduceSub, Nat.reduceLeDiff, List.reduceReplicate, Int.reduceToNat]
  apply index_vc l n _ x hr _ rfl
  intro r h' hcase
  simp only [go_sem, Nat.reduceEqDiff, Nat.reduceLT, Nat.reduceAdd, Nat.reduceSub, Nat.reduceLeDiff, List.reduceReplicate, Int.reduceToNat]
  have : decide (0 ≤ r) = !l.all (mmay · n) := by
    rcases hcase with ⟨rfl, h⟩ | ⟨h0, y, hy, h⟩
    · have : l.all (mmay · n) = true := List.all_eq_true.2 h
      rw [this]; rfl
    · have : l.all (mmay · n) = false := by
        rw [List.all_eq_false]; exact ⟨y, hy, by simp [h]⟩
      rw [this]; simpa using h0
  rw [this]; exact hK h'

def micro_Check.C : Contract
  | [.sl _ (.mics l), .int .i64 n] => some (false, pD (roomy l.length) (.bool (sizedB n && l.all (mmay · n))))
  | _ => none
set_option maxRecDepth 20000 in
theorem micro_Check.spec : FSpec Try.prog 107 micro_Check.C := by
  refine FSpec.of (ctx_ok (F := []) (S := [(129, slices_ContainsFunc_sl_api_Micro_api_Micro.K)]) (by simp) (by simpa using slices_ContainsFunc_sl_api_Micro_api_Micro.spec) micro_Check.loops) micro_Check.at micro_Check.nm micro_Check.bd ?_
  intro vs b S v news e hS
  unfold micro_Check.C at e
  split at e
  rotate_left
  · cases e
  cases e
  rw [micro_Check.eq]
  unfold micro_Check.H
  simp (maxSteps := 4000000) only [go_sem, Nat.reduceEqDiff, Nat.reduceLT, Nat.reduceAdd, Nat.reduceSub, Nat.reduceLeDiff, List.reduceReplicate, Int.reduceToNat]
  refine ⟨by simp, ?_⟩
  rw [joinW_eq]
  simp only [guardW_bool]
  refine ⟨fun hs => ?_, fun hs => ?_⟩
  · apply contains_vc _ _ _ _ hS _ rfl
    intro h'
    simp only [go_sem, Nat.reduceEqDiff, Nat.reduceLT, Nat.reduceAdd, Nat.reduceSub, Nat.reduceLeDiff, List.reduceReplicate, Int.reduceToNat, Bool.not_not]
    exact post_val (by rw [show sizedB _ = true from hs, Bool.true_and]; rfl) rfl
  · simp only [go_sem, Nat.reduceEqDiff, Nat.reduceLT, Nat.reduceAdd, Nat.reduceSub, Nat.reduceLeDiff, List.reduceReplicate, Int.reduceToNat]
    exact post_val (by rw [show sizedB _ = false from hs, Bool.false_and]; rfl) rfl


def micro_doer_store.K : Con := fun args h K => match args with
  | [a0, a1] => micro_doer_store.H (ctx [(156, pmem_Put.C)] [] micro_doer_store.loops) a0 a1 h K
  | _ => False
theorem micro_doer_store.spec : SSpec Try.prog 152 micro_doer_store.K := by
  refine SSpec.of (ctx_ok (F := [(156, pmem_Put.C)]) (S := []) (by simpa using pmem_Put.spec) (by simp) micro_doer_store.loops) micro_doer_store.at micro_doer_store.nm micro_doer_store.bd ?_
  intro args h K hC
  unfold micro_doer_store.K at hC
  split at hC
  · rw [micro_doer_store.eq]; exact hC
  · exact hC.elim
def micro_doer_persist.K : Con := fun args h K => match args with
  | [a0, a1] => micro_doer_persist.H (ctx [(157, pmem_Flush.C), (158, pmem_Fence.C)] [] micro_doer_persist.loops) a0 a1 h K
  | _ => False
theorem micro_doer_persist.spec : SSpec Try.prog 153 micro_doer_persist.K := by
  refine SSpec.of (ctx_ok (F := [(157, pmem_Flush.C), (158, pmem_Fence.C)]) (S := []) (by simpa using ⟨pmem_Flush.spec, pmem_Fence.spec⟩) (by simp) micro_doer_persist.loops) micro_doer_persist.at micro_doer_persist.nm micro_doer_persist.bd ?_
  intro args h K hC
  unfold micro_doer_persist.K at hC
  split at hC
  · rw [micro_doer_persist.eq]; exact hC
  · exact hC.elim
def micro_kinds.K : Con := fun args h K => match args with
  | [] => micro_kinds.H (ctx [] [] micro_kinds.loops)  h K
  | _ => False
theorem micro_kinds.spec : SSpec Try.prog 148 micro_kinds.K := by
  refine SSpec.of (ctx_ok (F := []) (S := []) (by simp) (by simp) micro_kinds.loops) micro_kinds.at micro_kinds.nm micro_kinds.bd ?_
  intro args h K hC
  unfold micro_kinds.K at hC
  split at hC
  · rw [micro_kinds.eq]; exact hC
  · exact hC.elim
def micro_first.C : Contract
  | [.agg [.sl false (.ints .i64 vol), .sl false (.ints .i64 per), .sl false (.pends pend)], .sl _ (.mics l), .int .i64 n] => some (false, pD (Mm.ok ⟨vol, per, pend⟩ ∧ (∀ x ∈ l, MayN x vol.length) ∧ pend.length + l.length ≤ 1000000 ∧ 0 ≤ n ∧ n ≤ (l.length : Int)) (runS ⟨vol, per, pend⟩ (l.take n.toNat)).V)
  | _ => none
set_option maxRecDepth 20000 in
theorem micro_first.spec : FSpec Try.prog 133 micro_first.C := by
  refine FSpec.of (ctx_ok (F := []) (S := [(148, micro_kinds.K), (152, micro_doer_store.K), (153, micro_doer_persist.K)]) (by simp) (by simpa using ⟨micro_kinds.spec, micro_doer_store.spec, micro_doer_persist.spec⟩) micro_first.loops) micro_first.at micro_first.nm micro_first.bd ?_
  intro vs b S v news e hS
  unfold micro_first.C at e
  split at e
  rotate_left
  · cases e
  cases e
  rw [micro_first.eq]
  unfold micro_first.H
  simp (maxSteps := 4000000) only [go_sem, Nat.reduceEqDiff, Nat.reduceLT, Nat.reduceAdd, Nat.reduceSub, Nat.reduceLeDiff, List.reduceReplicate, Int.reduceToNat, micro_kinds.K, micro_kinds.H]
  rename_i vol per pend _ l n
  obtain ⟨ok, hl, hsz, hn0, hn1⟩ := hS
  rw [joinW_eq]
  unfold micro_first.L1
  refine loop1 (σ := Nat) (fun k => .int .i64 k) (fun k => [.box (memV vol per pend), .box (memV [] [] []), .box (.agg [(runS ⟨vol, per, pend⟩ (l.take k)).V]), .map (.ifn fun j => if j = 2 then some 153 else if j = 1 then some 152 else none)]) (fun k => n.toNat - k) (fun k => k ≤ n.toNat) 0 rfl rfl (Nat.zero_le _) ?_
  intro I back k hk
  have okk := runS_ok (l.take k) ok fun x hx => hl x ((List.take_sublist _ _).subset hx)
  have lenk := runS_len (l.take k) ⟨vol, per, pend⟩
  have pendk := runS_pend_le (l.take k) ⟨vol, per, pend⟩
  rw [List.length_take] at pendk
  simp only [] at lenk pendk
  simp only [go_sem, Nat.reduceEqDiff, Nat.reduceLT, Nat.reduceAdd, Nat.reduceSub, Nat.reduceLeDiff, List.reduceReplicate, Int.reduceToNat]
  refine ⟨fun hlt => ?_, fun hge => ?_⟩
  · have hkl : k < l.length := by omega
    have hnx : runS ⟨vol, per, pend⟩ (l.take (k + 1)) = stepM (runS ⟨vol, per, pend⟩ (l.take k)) (l.getD k ⟨0, 0, 0⟩) := by
      rw [take_next l k ⟨0, 0, 0⟩ hkl, runS_append]; rfl
    have hx := hl _ (getD_mem l k ⟨0, 0, 0⟩ hkl)
    generalize l.getD k ⟨0, 0, 0⟩ = x at *
    generalize runS ⟨vol, per, pend⟩ (l.take k) = m at *
    have hsm : smallM m.vol m.per m.pend := OkM.small okk (by omega)
    refine ⟨by omega, ?_⟩
    rcases hx with ⟨hkd, h0, h1⟩ | ⟨hkd, h0, h1, _⟩
    · have hp : placeB m.vol m.per m.pend x.at_ = true := place_iff.2 ⟨⟨h0, by omega⟩, okk⟩
      have hst : stepM m x = store m x.at_ x.val := by unfold stepM; rw [if_pos hkd]
      have e : (if x.kind = 2 then some 153 else if x.kind = 1 then some 152 else none : Option Nat) = some 152 := by rw [if_neg (by omega), if_pos hkd]
      simp only [e, micro_doer_store.K, micro_doer_store.H, pmem_Put.C, putM_ok hp, go_sem, Nat.reduceEqDiff, Nat.reduceLT, Nat.reduceAdd, Nat.reduceSub, Nat.reduceLeDiff, List.reduceReplicate, Int.reduceToNat]
      refine ⟨by omega, ⟨hsm, by unfold roomy; omega⟩, back (k + 1) (by omega) (by rw [wnext (by omega)]) ?_ (by omega)⟩
      rw [hnx, hst]; rfl
    · have hp : placeB m.vol m.per m.pend (firstI m.vol x.at_) = true := (OkM.first okk h0 (by omega)).2
      have hst : stepM m x = persist m x.at_ := by unfold stepM; rw [if_neg (by omega)]
      have e : (if x.kind = 2 then some 153 else if x.kind = 1 then some 152 else none : Option Nat) = some 153 := by rw [if_pos hkd]
      have okf := okk.flush x.at_
      simp only [e, micro_doer_persist.K, micro_doer_persist.H, pmem_Flush.C, flushM_ok hp, fenceM_ok, check_iff.2 okf, pmem_Fence.C, go_sem, Nat.reduceEqDiff, Nat.reduceLT, Nat.reduceAdd, Nat.reduceSub, Nat.reduceLeDiff, List.reduceReplicate, Int.reduceToNat]
      refine ⟨by omega, hsm, OkM.small okf (by rw [flushP_len]; omega), back (k + 1) (by omega) (by rw [wnext (by omega)]) ?_ (by omega)⟩
      rw [hnx, hst]; rfl
  · have : k = n.toNat := by omega
    subst this
    refine post_val ?_ rfl
    simp only [go_sem, Nat.reduceEqDiff, Nat.reduceLT, Nat.reduceAdd, Nat.reduceSub, Nat.reduceLeDiff, List.reduceReplicate, Int.reduceToNat]

def soundB (m : Mm) (l : List Mic) : Bool := m.okB && stepsB l m.vol.length
def micro_sound.C : Contract
  | [.agg [.sl false (.ints .i64 vol), .sl false (.ints .i64 per), .sl false (.pends pend)], .sl _ (.mics l)] => some (false, pD (smallM vol per pend ∧ roomy l.length) (.bool (soundB ⟨vol, per, pend⟩ l)))
  | _ => none
set_option maxRecDepth 20000 in
theorem micro_sound.spec : FSpec Try.prog 132 micro_sound.C := by
  refine FSpec.of (ctx_ok (F := [(147, pmem_Check.C), (107, micro_Check.C)]) (S := []) (by simpa using ⟨pmem_Check.spec, micro_Check.spec⟩) (by simp) micro_sound.loops) micro_sound.at micro_sound.nm micro_sound.bd ?_
  intro vs b S v news e hS
  unfold micro_sound.C at e
  split at e
  rotate_left
  · cases e
  cases e
  rw [micro_sound.eq]
  unfold micro_sound.H
  simp (maxSteps := 4000000) only [go_sem, Nat.reduceEqDiff, Nat.reduceLT, Nat.reduceAdd, Nat.reduceSub, Nat.reduceLeDiff, List.reduceReplicate, Int.reduceToNat, pmem_Check.C, micro_Check.C]
  exact ⟨hS.1, fun _ => hS.2, post_val rfl rfl⟩
/-- steps that may be, on a memory that may be -/
theorem sound_iff {m : Mm} {l : List Mic} : soundB m l = true ↔ m.ok ∧ ∀ x ∈ l, MayN x m.vol.length := by
  unfold soundB stepsB
  rw [Bool.and_eq_true, Bool.and_eq_true, Mm.ok_iff, List.all_eq_true]
  constructor
  · rintro ⟨h1, _, h2⟩
    exact ⟨h1, fun x hx => (mmay_iff h1.sz).1 (h2 x hx)⟩
  · rintro ⟨h1, h2⟩
    have hmd := h1.md
    have hsz := h1.sz
    refine ⟨h1, ?_, fun x hx => (mmay_iff h1.sz).2 (h2 x hx)⟩
    unfold sizedB
    simp only [Bool.and_eq_true, decide_eq_true_eq]
    refine ⟨⟨by omega, by omega⟩, ?_⟩
    rw [Int.tmod_eq_emod_of_nonneg (by omega)]; omega
def runV (m : Mm) (l : List Mic) : AV := if soundB m l = true then .tup [(runS m l).V, .int .i64 0] else .tup [m.V, .int .i64 40]
theorem runV_ok {m : Mm} {l : List Mic} (h : soundB m l = true) : runV m l = .tup [(runS m l).V, .int .i64 0] := by unfold runV; simp only [h, if_true]
def micro_Run.C : Contract
  | [.agg [.sl false (.ints .i64 vol), .sl false (.ints .i64 per), .sl false (.pends pend)], .sl _ (.mics l)] => some (false, pD (smallM vol per pend ∧ pend.length + l.length ≤ 1000000) (runV ⟨vol, per, pend⟩ l))
  | _ => none
set_option maxRecDepth 20000 in
theorem micro_Run.spec : FSpec Try.prog 108 micro_Run.C := by
  refine FSpec.of (ctx_ok (F := [(132, micro_sound.C), (133, micro_first.C)]) (S := []) (by simpa using ⟨micro_sound.spec, micro_first.spec⟩) (by simp) micro_Run.loops) micro_Run.at micro_Run.nm micro_Run.bd ?_
  intro vs b S v news e hS
  unfold micro_Run.C at e
  split at e
  rotate_left
  · cases e
  cases e
  rw [micro_Run.eq]
  unfold micro_Run.H
  simp (maxSteps := 4000000) only [go_sem, Nat.reduceEqDiff, Nat.reduceLT, Nat.reduceAdd, Nat.reduceSub, Nat.reduceLeDiff, List.reduceReplicate, Int.reduceToNat, micro_sound.C, micro_first.C]
  rename_i vol per pend _ l
  obtain ⟨hs, hz⟩ := hS
  refine ⟨⟨hs, by unfold roomy; omega⟩, fun h => ?_, fun h => ?_⟩
  · unfold runV; rw [h]; exact post_val rfl rfl
  · obtain ⟨ok, hl⟩ := sound_iff.1 h
    refine ⟨⟨ok, hl, hz, by omega, by omega⟩, ?_⟩
    unfold runV; simp only [h, if_true]
    refine post_val ?_ rfl
    simp only [go_sem, Nat.reduceEqDiff, Nat.reduceLT, Nat.reduceAdd, Nat.reduceSub, Nat.reduceLeDiff, List.reduceReplicate, Int.reduceToNat, Int.toNat_natCast, List.take_length]
def micro_Do.C : Contract
  | [.agg [.sl false (.ints .i64 vol), .sl false (.ints .i64 per), .sl false (.pends pend)], .agg [.int .i64 a, .int .i64 b, .int .i64 c]] => some (false, pD (smallM vol per pend ∧ pend.length + 1 ≤ 1000000) (runV ⟨vol, per, pend⟩ [⟨a, b, c⟩]))
  | _ => none
set_option maxRecDepth 20000 in
theorem micro_Do.spec : FSpec Try.prog 79 micro_Do.C := by
  refine FSpec.of (ctx_ok (F := [(108, micro_Run.C)]) (S := []) (by simpa using micro_Run.spec) (by simp) micro_Do.loops) micro_Do.at micro_Do.nm micro_Do.bd ?_
  intro vs b S v news e hS
  unfold micro_Do.C at e
  split at e
  rotate_left
  · cases e
  cases e
  rw [micro_Do.eq]
  unfold micro_Do.H
  simp (maxSteps := 4000000) only [go_sem, Nat.reduceEqDiff, Nat.reduceLT, Nat.reduceAdd, Nat.reduceSub, Nat.reduceLeDiff, List.reduceReplicate, Int.reduceToNat, micro_Run.C]
  rename_i vol per pend a b c
  unfold runV
  cases h : soundB ⟨vol, per, pend⟩ [⟨a, b, c⟩]
  · simp only [joinW_eq, guard_tt, guard_tf, guard_ft, guard_ff, Int.reduceEq, Int.reduceLT, Int.reduceLE, decide_false, decide_true, Bool.not_false, Bool.not_true, Bool.not_not, not_true_eq_false, not_false_eq_true, true_implies, false_implies, implies_true, and_true, true_and, reduceCtorEq, Bool.and_self, Bool.or_self, Bool.and_true, Bool.true_and, Bool.false_eq_true, if_true, if_false, go_sem, Nat.reduceEqDiff, Nat.reduceLT, Nat.reduceAdd, Nat.reduceSub, Nat.reduceLeDiff, List.reduceReplicate, Int.reduceToNat]
    exact ⟨⟨hS.1, by omega⟩, post_val rfl rfl⟩
  · simp only [joinW_eq, guard_tt, guard_tf, guard_ft, guard_ff, Int.reduceEq, Int.reduceLT, Int.reduceLE, decide_false, decide_true, Bool.not_false, Bool.not_true, Bool.not_not, not_true_eq_false, not_false_eq_true, true_implies, false_implies, implies_true, and_true, true_and, reduceCtorEq, Bool.and_self, Bool.or_self, Bool.and_true, Bool.true_and, Bool.false_eq_true, if_true, if_false, go_sem, Nat.reduceEqDiff, Nat.reduceLT, Nat.reduceAdd, Nat.reduceSub, Nat.reduceLeDiff, List.reduceReplicate, Int.reduceToNat]
    exact ⟨⟨hS.1, by omega⟩, post_val rfl rfl⟩
end Lam
