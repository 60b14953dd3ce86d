/- The functions' code, as it is reckoned. Printed by a program. -/
import Derived.Test.YtpjnljbfnppmlaaLR34
import Derived.Attr
import Derived.KernelRfl
import Derived.Test.YtpjnljbfnppmlaaProg
namespace Lam
open Go Go.Proofs
set_option linter.unusedVariables false
def T_unit : TyD := (.tup [])
def T_func : TyD := .func
def T_int : TyD := (.int .i64)
def T_bool : TyD := .bool
def T_uint8 : TyD := (.int .u8)
def T_string : TyD := .str
def T_sl_int : TyD := (.slice (.int .i64))
def T_api_Errno : TyD := (.int .i64)
def T_string_api_Errno : TyD := (.tup [.str, (.int .i64)])
def T_funcstring_bool : TyD := .func
def T_sl_uint8 : TyD := (.slice (.int .u8))
def T_func_funcstring_bool : TyD := .func
def T_iter_Seq_string : TyD := .func
attribute [go_sem] T_unit T_func T_int T_bool T_uint8 T_string T_sl_int T_api_Errno T_string_api_Errno T_funcstring_bool T_sl_uint8 T_func_funcstring_bool T_iter_Seq_string
def tab : TypeId → TyD
  | 0 => T_unit
  | 1 => T_func
  | 3 => T_int
  | 4 => T_bool
  | 5 => T_uint8
  | 9 => T_string
  | 22 => T_sl_int
  | 24 => T_api_Errno
  | 25 => T_string_api_Errno
  | 31 => T_funcstring_bool
  | 33 => T_sl_uint8
  | 34 => T_func_funcstring_bool
  | 35 => T_iter_Seq_string
  | _ => .other
theorem tab_ok : TabOk Try.prog tab := by
  intro T
  unfold tab
  split <;> kernel_rfl
theorem tab_sh (T : TypeId) : (tab T).shallow := by
  unfold tab
  split <;> (unfold TyD.shallow; decide)
theorem mixed : Try.prog.follows .mixedOrders = true := by kernel_rfl
def ctx (F : List (FuncId × Contract)) (S : List (FuncId × Con)) (lp : Nat → LInfo) : Ctx := ⟨tab, lookF F, lookS S, fun _ _ _ _ _ => False, lp, false, fun _ _ _ _ => False⟩
def ctxI (F : List (FuncId × Contract)) (S : List (FuncId × Con)) (Is : List (FuncId × (Con → Con))) (lp : Nat → LInfo) : Ctx := ⟨tab, lookF F, lookS S, lookI Is, lp, false, fun _ _ _ _ => False⟩
@[go_sem] theorem ctx_drawn (F : List (FuncId × Contract)) (S : List (FuncId × Con)) (lp : Nat → LInfo) : (ctx F S lp).drawn = false := (rfl)
@[go_sem] theorem ctxI_drawn (F : List (FuncId × Contract)) (S : List (FuncId × Con)) (Is : List (FuncId × (Con → Con))) (lp : Nat → LInfo) : (ctxI F S Is lp).drawn = false := (rfl)
@[go_sem] theorem ctxI_envF (F : List (FuncId × Contract)) (S : List (FuncId × Con)) (Is : List (FuncId × (Con → Con))) (lp : Nat → LInfo) : (ctxI F S Is lp).envF = lookF F := (rfl)
@[go_sem] theorem ctxI_envS (F : List (FuncId × Contract)) (S : List (FuncId × Con)) (Is : List (FuncId × (Con → Con))) (lp : Nat → LInfo) : (ctxI F S Is lp).envS = lookS S := (rfl)
@[go_sem] theorem ctxI_iterS (F : List (FuncId × Contract)) (S : List (FuncId × Con)) (Is : List (FuncId × (Con → Con))) (lp : Nat → LInfo) : (ctxI F S Is lp).iterS = lookI Is := (rfl)
@[go_sem] theorem ctx_envF (F : List (FuncId × Contract)) (S : List (FuncId × Con)) (lp : Nat → LInfo) : (ctx F S lp).envF = lookF F := (rfl)
@[go_sem] theorem ctx_envS (F : List (FuncId × Contract)) (S : List (FuncId × Con)) (lp : Nat → LInfo) : (ctx F S lp).envS = lookS S := (rfl)
theorem ctx_ok {F : List (FuncId × Contract)} {S : List (FuncId × Con)} (hF : ∀ p ∈ F, FSpec Try.prog p.1 p.2) (hS : ∀ p ∈ S, SSpec Try.prog p.1 p.2) (lp : Nat → LInfo) : Ok Try.prog (ctx F S lp) :=
  ⟨⟨⟨tab_ok, tab_sh, fok_look hF⟩, sok_look hS, rfl, mixed, is_none⟩, fun _ _ _ _ h => h⟩
theorem ctxI_ok {F : List (FuncId × Contract)} {S : List (FuncId × Con)} {Is : List (FuncId × (Con → Con))} (hF : ∀ p ∈ F, FSpec Try.prog p.1 p.2) (hS : ∀ p ∈ S, SSpec Try.prog p.1 p.2) (hI : ∀ p ∈ Is, ISpec Try.prog p.1 p.2) (lp : Nat → LInfo) : Ok Try.prog (ctxI F S Is lp) :=
  ⟨⟨⟨tab_ok, tab_sh, fok_look hF⟩, sok_look hS, rfl, mixed, isok_look hI⟩, fun _ _ _ _ h => h⟩
def lamplighterlaw02_KeyBack.loops : Nat → LInfo
  | _ => ⟨[], [], []⟩
def lamplighterlaw02_KeyBack.H (c : Ctx) (t0 : AV) (t1 : AV) (h : List AObj) (K : AOut → List AObj → Prop) : Prop :=
  callW c (.fn (.func 7) [] []) [] h (fun t10 h =>
  runD (lenD T_string h t0) h fun t12 h =>
  runD (binD T_int .gtr t12 (.int .i64 300)) h fun t13 h =>
  joinW (fun (J1 : AV → AV → List AObj → Prop) =>
  guardW t13 false
  (runD (lenD T_sl_int h t1) h fun t16 h =>
    runD (binD T_int .gtr t16 (.int .i64 300)) h fun t17 h =>
    J1 (.bool false) t17 h)
  (J1 (.bool true) .und h))
  (fun t14 t17 h => runD (pickD t14 (.bool true) t17) h fun t18 h =>
  condW t18
  (K (.ret t10) h)
  (callW c (.fn (.func 9) [] []) [t0] h (fun t22 h =>
  runD (lenD T_string h t0) h fun t24 h =>
  callW c (.fn (.func 8) [] []) [t22, t24] h (fun t25 h =>
  runD (extractD t25 0) h fun t26 h =>
  runD (extractD t25 1) h fun t27 h =>
  runD (lenD T_string h t0) h fun t31 h =>
  callW c (.fn (.func 8) [] []) [t1, t31] h (fun t32 h =>
  runD (extractD t32 0) h fun t33 h =>
  runD (extractD t32 1) h fun t34 h =>
  joinW (fun (J2 : AV → AV → List AObj → Prop) =>
  guardW t10 true
  (runD (binD T_api_Errno .eql t27 (.int .i64 0)) h fun t38 h =>
    J2 (.bool true) t38 h)
  (J2 (.bool false) .und h))
  (fun t36 t38 h => runD (pickD t36 t38 (.bool false)) h fun t39 h =>
  joinW (fun (J3 : AV → AV → List AObj → Prop) =>
  guardW t39 true
  (runD (binD T_string .eql t26 t0) h fun t43 h =>
    J3 (.bool true) t43 h)
  (J3 (.bool false) .und h))
  (fun t40 t43 h => runD (pickD t40 t43 (.bool false)) h fun t44 h =>
  joinW (fun (J4 : AV → AV → List AObj → Prop) =>
  guardW t44 true
  (runD (binD T_api_Errno .neq t34 (.int .i64 0)) h fun t47 h =>
    joinW (fun (J5 : AV → AV → List AObj → Prop) =>
    guardW t47 false
    (runD (binD T_string .eql t33 t0) h fun t51 h =>
      callW c (.fn (.func 9) [] []) [t0] h (fun t54 h =>
      callW c (.fn (.func 10) [] []) [t1, t54] h (fun t55 h =>
      runD (binD T_bool .eql t51 t55) h fun t56 h =>
      J5 (.bool false) t56 h)
      (fun v h => K (.pan v) h))
      (fun v h => K (.pan v) h))
    (J5 (.bool true) .und h))
    (fun t48 t56 h => runD (pickD t48 (.bool true) t56) h fun t57 h =>
    J4 (.bool true) t57 h))
  (J4 (.bool false) .und h))
  (fun t45 t57 h => runD (pickD t45 t57 (.bool false)) h fun t58 h =>
  K (.ret t58) h))))
  (fun v h => K (.pan v) h))
  (fun v h => K (.pan v) h))
  (fun v h => K (.pan v) h))))
  (fun v h => K (.pan v) h)
def lamplighterlaw02_KeyOrder.loops : Nat → LInfo
  | 9 => ⟨[8], [false], [0, 1, 5, 6, 7]⟩
  | _ => ⟨[], [], []⟩
def lamplighterlaw02_KeyOrder.L1 (c : Ctx) (J3 : AV → AV → AV → List AObj → Prop) (K : AOut → List AObj → Prop) (lv : List AV) (h0 : List AObj) (n0 : Nat) (c0 : AV) (c1 : AV) (c5 : AV) (c6 : AV) (c7 : AV) : Prop :=
  ∃ I : Nat → List AV → List AObj → Prop, (∃ n, I n lv h0) ∧ ∀ n h, ∀ t8, I n [t8] h →
    runD (lenD T_sl_int h c6) h fun t41 h =>
    runD (binD T_int .lss t8 t41) h fun t42 h =>
    condW t42
    (runD (indexAddrD T_sl_int h c6 t8) h fun t47 h =>
    runD (fitD T_int (loadD h t47)) h fun t48 h =>
    runD (indexAddrD T_sl_int h c7 t8) h fun t51 h =>
    runD (fitD T_int (loadD h t51)) h fun t52 h =>
    runD (binD T_int .neq t48 t52) h fun t53 h =>
    condW t53
    (joinW (fun (J4 : AV → AV → List AObj → Prop) =>
      guardW c5 true
      (runD (indexAddrD T_sl_int h c6 t8) h fun t58 h =>
        runD (fitD T_int (loadD h t58)) h fun t59 h =>
        runD (indexAddrD T_sl_int h c7 t8) h fun t62 h =>
        runD (fitD T_int (loadD h t62)) h fun t63 h =>
        runD (binD T_int .lss t59 t63) h fun t64 h =>
        runD (binD T_string .lss c0 c1) h fun t67 h =>
        runD (binD T_bool .eql t64 t67) h fun t68 h =>
        J4 (.bool true) t68 h)
      (J4 (.bool false) .und h))
      (fun t55 t68 h => runD (pickD t55 t68 (.bool false)) h fun t69 h =>
      K (.ret t69) h))
    (runD (binD T_int .add t8 (.int .i64 1)) h fun t44 h =>
    (∃ m, m < n ∧ I m (AV.norms n0 h [t44]) (normH n0 h)) ∧ AV.norms n0 h [c0, c1, c5, c6, c7] = [c0, c1, c5, c6, c7]))
    (J3 c0 c1 c5 h)
def lamplighterlaw02_KeyOrder.H (c : Ctx) (t0 : AV) (t1 : AV) (h : List AObj) (K : AOut → List AObj → Prop) : Prop :=
  callW c (.fn (.func 7) [] []) [] h (fun t9 h =>
  runD (lenD T_string h t0) h fun t11 h =>
  runD (binD T_int .gtr t11 (.int .i64 300)) h fun t12 h =>
  joinW (fun (J1 : AV → AV → List AObj → Prop) =>
  guardW t12 false
  (runD (lenD T_string h t0) h fun t15 h =>
    runD (lenD T_string h t1) h fun t17 h =>
    runD (binD T_int .neq t15 t17) h fun t18 h =>
    J1 (.bool false) t18 h)
  (J1 (.bool true) .und h))
  (fun t13 t18 h => runD (pickD t13 (.bool true) t18) h fun t19 h =>
  condW t19
  (K (.ret t9) h)
  (callW c (.fn (.func 9) [] []) [t0] h (fun t22 h =>
  callW c (.fn (.func 9) [] []) [t1] h (fun t24 h =>
  runD (lenD T_sl_int h t22) h fun t26 h =>
  runD (lenD T_sl_int h t24) h fun t28 h =>
  runD (binD T_int .neq t26 t28) h fun t29 h =>
  joinW (fun (J2 : AV → AV → List AObj → Prop) =>
  guardW t29 false
  (runD (lenD T_sl_int h t22) h fun t32 h =>
    runD (lenD T_string h t0) h fun t34 h =>
    runD (binD T_int .add t34 (.int .i64 6)) h fun t35 h =>
    runD (binD T_int .quo t35 (.int .i64 7)) h fun t36 h =>
    runD (binD T_int .neq t32 t36) h fun t37 h =>
    J2 (.bool false) t37 h)
  (J2 (.bool true) .und h))
  (fun t30 t37 h => runD (pickD t30 (.bool true) t37) h fun t38 h =>
  condW t38
  (K (.ret (.bool false)) h)
  (joinW (fun (J3 : AV → AV → AV → List AObj → Prop) =>
  promV [false] [(.int .i64 0)] h fun lv h => lamplighterlaw02_KeyOrder.L1 c J3 K (AV.norms h.length h lv) (normH h.length h) h.length (AV.norm h.length h t0) (AV.norm h.length h t1) (AV.norm h.length h t9) (AV.norm h.length h t22) (AV.norm h.length h t24))
  (fun t0 t1 t5 h => joinW (fun (J5 : AV → AV → List AObj → Prop) =>
  guardW t5 true
  (runD (binD T_string .eql t0 t1) h fun t74 h =>
    J5 (.bool true) t74 h)
  (J5 (.bool false) .und h))
  (fun t71 t74 h => runD (pickD t71 t74 (.bool false)) h fun t75 h =>
  K (.ret t75) h)))))
  (fun v h => K (.pan v) h))
  (fun v h => K (.pan v) h))))
  (fun v h => K (.pan v) h)
def lamplighterlaw02_KeyParts.loops : Nat → LInfo
  | _ => ⟨[], [], []⟩
def lamplighterlaw02_KeyParts.H (c : Ctx) (t0 : AV) (t1 : AV) (h : List AObj) (K : AOut → List AObj → Prop) : Prop :=
  callW c (.fn (.func 7) [] []) [] h (fun t8 h =>
  runD (lenD T_string h t0) h fun t10 h =>
  runD (binD T_int .gtr t10 (.int .i64 300)) h fun t11 h =>
  joinW (fun (J1 : AV → AV → List AObj → Prop) =>
  guardW t11 false
  (runD (lenD T_string h t1) h fun t14 h =>
    runD (binD T_int .gtr t14 (.int .i64 300)) h fun t15 h =>
    J1 (.bool false) t15 h)
  (J1 (.bool true) .und h))
  (fun t12 t15 h => runD (pickD t12 (.bool true) t15) h fun t16 h =>
  condW t16
  (K (.ret t8) h)
  (runD (lenD T_string h t0) h fun t20 h =>
  runD (lenD T_string h t0) h fun t22 h =>
  runD (binD T_int .rem t22 (.int .i64 7)) h fun t23 h =>
  runD (binD T_int .sub t20 t23) h fun t24 h =>
  runD (sliceD T_string h t0 none (some t24) none) h fun t25 h =>
  runD (buildSliceD T_sl_int 0 [] h.length) h fun t26 h =>
  callW c (.fn (.func 9) [] []) [t25] h (fun t28 h =>
  runDM (appendD T_sl_int h t26 t28 h.length) (appendH T_sl_int h t26 t28) h fun t29 h =>
  callW c (.fn (.func 9) [] []) [t1] h (fun t31 h =>
  runDM (appendD T_sl_int h t29 t31 h.length) (appendH T_sl_int h t29 t31) h fun t32 h =>
  joinW (fun (J2 : AV → AV → List AObj → Prop) =>
  guardW t8 true
  (runD (binD T_string .add t25 t1) h fun t37 h =>
    callW c (.fn (.func 9) [] []) [t37] h (fun t38 h =>
    callW c (.fn (.func 10) [] []) [t38, t32] h (fun t40 h =>
    J2 (.bool true) t40 h)
    (fun v h => K (.pan v) h))
    (fun v h => K (.pan v) h))
  (J2 (.bool false) .und h))
  (fun t34 t40 h => runD (pickD t34 t40 (.bool false)) h fun t41 h =>
  joinW (fun (J3 : AV → AV → List AObj → Prop) =>
  guardW t41 true
  (callW c (.fn (.func 9) [] []) [t25] h (fun t44 h =>
    runD (lenD T_sl_int h t44) h fun t45 h =>
    runD (lenD T_string h t25) h fun t47 h =>
    runD (binD T_int .quo t47 (.int .i64 7)) h fun t48 h =>
    runD (binD T_int .eql t45 t48) h fun t49 h =>
    J3 (.bool true) t49 h)
    (fun v h => K (.pan v) h))
  (J3 (.bool false) .und h))
  (fun t42 t49 h => runD (pickD t42 t49 (.bool false)) h fun t50 h =>
  K (.ret t50) h)))
  (fun v h => K (.pan v) h))
  (fun v h => K (.pan v) h))))
  (fun v h => K (.pan v) h)
def lamplighterlaw02_KeyMay.loops : Nat → LInfo
  | _ => ⟨[], [], []⟩
def lamplighterlaw02_KeyMay.H (c : Ctx) (t0 : AV) (t1 : AV) (t2 : AV) (h : List AObj) (K : AOut → List AObj → Prop) : Prop :=
  callW c (.fn (.func 7) [] []) [] h (fun t11 h =>
  runD (lenD T_string h t0) h fun t13 h =>
  runD (binD T_int .gtr t13 (.int .i64 100)) h fun t14 h =>
  condW t14
  (K (.ret t11) h)
  (runD (convD h T_uint8 T_int t1) h fun t17 h =>
  runD (lenD T_string h t0) h fun t19 h =>
  runD (binD T_int .add t19 (.int .i64 1)) h fun t20 h =>
  runD (binD T_int .rem t17 t20) h fun t21 h =>
  runD (buildSliceD T_sl_int 1 [(0, t2)] h.length) h fun t24 h =>
  callW c (.fn (.func 8) [] []) [t24, (.int .i64 7)] h (fun t25 h =>
  runD (extractD t25 0) h fun t26 h =>
  runD (extractD t25 1) h fun t27 h =>
  joinW (fun (J1 : AV → AV → List AObj → Prop) =>
  guardW t11 true
  (callW c (.fn (.func 11) [] []) [t0] h (fun t31 h =>
    callW c (.fn (.func 12) [] []) [t0] h (fun t33 h =>
    joinW (fun (J2 : AV → AV → List AObj → Prop) =>
    guardW t33 true
    (runD (lenD T_string h t0) h fun t36 h =>
      runD (binD T_int .gtr t36 (.int .i64 0)) h fun t37 h =>
      J2 (.bool true) t37 h)
    (J2 (.bool false) .und h))
    (fun t34 t37 h => runD (pickD t34 t37 (.bool false)) h fun t38 h =>
    runD (binD T_bool .eql t31 t38) h fun t39 h =>
    J1 (.bool true) t39 h))
    (fun v h => K (.pan v) h))
    (fun v h => K (.pan v) h))
  (J1 (.bool false) .und h))
  (fun t29 t39 h => runD (pickD t29 t39 (.bool false)) h fun t40 h =>
  joinW (fun (J3 : AV → AV → List AObj → Prop) =>
  guardW t40 true
  (callW c (.fn (.func 12) [] []) [t0] h (fun t43 h =>
    runD (unD .not t43) h fun t44 h =>
    joinW (fun (J4 : AV → AV → List AObj → Prop) =>
    guardW t44 false
    (runD (sliceD T_string h t0 none (some t21) none) h fun t48 h =>
      callW c (.fn (.func 12) [] []) [t48] h (fun t49 h =>
      J4 (.bool false) t49 h)
      (fun v h => K (.pan v) h))
    (J4 (.bool true) .und h))
    (fun t45 t49 h => runD (pickD t45 (.bool true) t49) h fun t50 h =>
    J3 (.bool true) t50 h))
    (fun v h => K (.pan v) h))
  (J3 (.bool false) .und h))
  (fun t41 t50 h => runD (pickD t41 t50 (.bool false)) h fun t51 h =>
  joinW (fun (J5 : AV → AV → List AObj → Prop) =>
  guardW t51 true
  (runD (binD T_api_Errno .eql t27 (.int .i64 0)) h fun t54 h =>
    runD (binD T_int .geq t2 (.int .i64 0)) h fun t56 h =>
    joinW (fun (J6 : AV → AV → List AObj → Prop) =>
    guardW t56 true
    (runD (binD T_int .lss t2 (.int .i64 72057594037927936)) h fun t59 h =>
      J6 (.bool true) t59 h)
    (J6 (.bool false) .und h))
    (fun t57 t59 h => runD (pickD t57 t59 (.bool false)) h fun t60 h =>
    runD (binD T_bool .eql t54 t60) h fun t61 h =>
    J5 (.bool true) t61 h))
  (J5 (.bool false) .und h))
  (fun t52 t61 h => runD (pickD t52 t61 (.bool false)) h fun t62 h =>
  K (.ret t62) h))))
  (fun v h => K (.pan v) h)))
  (fun v h => K (.pan v) h)
def lamplighterlaw02_awake.loops : Nat → LInfo
  | _ => ⟨[], [], []⟩
def lamplighterlaw02_awake.H (c : Ctx) (h : List AObj) (K : AOut → List AObj → Prop) : Prop :=
  callW c (.fn (.func 9) [] []) [(.str [97, 98, 99, 100, 101, 102, 103, 104])] h (fun t6 h =>
  callW c (.fn (.func 8) [] []) [t6, (.int .i64 8)] h (fun t9 h =>
  runD (extractD t9 0) h fun t10 h =>
  runD (extractD t9 1) h fun t11 h =>
  runD (buildSliceD T_sl_int 1 [(0, (.int .i64 1))] h.length) h fun t13 h =>
  callW c (.fn (.func 8) [] []) [t13, (.int .i64 1)] h (fun t14 h =>
  runD (extractD t14 0) h fun t15 h =>
  runD (extractD t14 1) h fun t16 h =>
  runD (lenD T_sl_int h t6) h fun t18 h =>
  runD (binD T_int .eql t18 (.int .i64 2)) h fun t19 h =>
  joinW (fun (J1 : AV → AV → List AObj → Prop) =>
  guardW t19 true
  (runD (indexAddrD T_sl_int h t6 (.int .i64 1)) h fun t22 h =>
    runD (fitD T_int (loadD h t22)) h fun t23 h =>
    runD (binD T_int .eql t23 (.int .i64 29273397577908224)) h fun t24 h =>
    J1 (.bool true) t24 h)
  (J1 (.bool false) .und h))
  (fun t20 t24 h => runD (pickD t20 t24 (.bool false)) h fun t25 h =>
  joinW (fun (J2 : AV → AV → List AObj → Prop) =>
  guardW t25 true
  (runD (binD T_string .eql t10 (.str [97, 98, 99, 100, 101, 102, 103, 104])) h fun t28 h =>
    J2 (.bool true) t28 h)
  (J2 (.bool false) .und h))
  (fun t26 t28 h => runD (pickD t26 t28 (.bool false)) h fun t29 h =>
  joinW (fun (J3 : AV → AV → List AObj → Prop) =>
  guardW t29 true
  (runD (binD T_api_Errno .eql t11 (.int .i64 0)) h fun t32 h =>
    J3 (.bool true) t32 h)
  (J3 (.bool false) .und h))
  (fun t30 t32 h => runD (pickD t30 t32 (.bool false)) h fun t33 h =>
  joinW (fun (J4 : AV → AV → List AObj → Prop) =>
  guardW t33 true
  (runD (binD T_api_Errno .eql t16 (.int .i64 20)) h fun t36 h =>
    J4 (.bool true) t36 h)
  (J4 (.bool false) .und h))
  (fun t34 t36 h => runD (pickD t34 t36 (.bool false)) h fun t37 h =>
  joinW (fun (J5 : AV → AV → List AObj → Prop) =>
  guardW t37 true
  (callW c (.fn (.func 11) [] []) [(.str [97])] h (fun t39 h =>
    J5 (.bool true) t39 h)
    (fun v h => K (.pan v) h))
  (J5 (.bool false) .und h))
  (fun t38 t39 h => runD (pickD t38 t39 (.bool false)) h fun t40 h =>
  joinW (fun (J6 : AV → AV → List AObj → Prop) =>
  guardW t40 true
  (callW c (.fn (.func 11) [] []) [(.str [])] h (fun t42 h =>
    runD (unD .not t42) h fun t43 h =>
    J6 (.bool true) t43 h)
    (fun v h => K (.pan v) h))
  (J6 (.bool false) .und h))
  (fun t41 t43 h => runD (pickD t41 t43 (.bool false)) h fun t44 h =>
  joinW (fun (J7 : AV → AV → List AObj → Prop) =>
  guardW t44 true
  (callW c (.fn (.func 12) [] []) [(.str [])] h (fun t46 h =>
    J7 (.bool true) t46 h)
    (fun v h => K (.pan v) h))
  (J7 (.bool false) .und h))
  (fun t45 t46 h => runD (pickD t45 t46 (.bool false)) h fun t47 h =>
  runD (pickD t47 (.bool true) (.bool false)) h fun t49 h =>
  runD (pickD t49 (.bool true) (.bool false)) h fun t51 h =>
  runD (pickD t51 (.bool true) (.bool false)) h fun t53 h =>
  K (.ret t53) h))))))))
  (fun v h => K (.pan v) h))
  (fun v h => K (.pan v) h))
  (fun v h => K (.pan v) h)
def key_Text.loops : Nat → LInfo
  | 5 => ⟨[6, 31], [false, false], [1, 29, 30]⟩
  | 10 => ⟨[6, 41], [false, false], [1, 8, 29, 30, 31]⟩
  | 16 => ⟨[59], [false], [1, 6, 57, 58]⟩
  | _ => ⟨[], [], []⟩
def key_Text.L2 (c : Ctx) (J5 : AV → AV → AV → AV → AV → List AObj → Prop) (K : AOut → List AObj → Prop) (lv : List AV) (h0 : List AObj) (n0 : Nat) (c1 : AV) (c8 : AV) (c29 : AV) (c30 : AV) (c31 : AV) : Prop :=
  ∃ I : Nat → List AV → List AObj → Prop, (∃ n, I n lv h0) ∧ ∀ n h, ∀ t6, ∀ t41, I n [t6, t41] h →
    runD (binD T_int .lss t41 (.int .i64 7)) h fun t42 h =>
    condW t42
    (runD (binD T_int .sub (.int .i64 6) t41) h fun t47 h =>
    runD (binD T_int .mul (.int .i64 8) t47) h fun t48 h =>
    runD (binD T_int .shr c8 t48) h fun t49 h =>
    runD (convD h T_int T_uint8 t49) h fun t50 h =>
    runD (buildSliceD T_sl_uint8 1 [(0, t50)] h.length) h fun t51 h =>
    runDM (appendD T_sl_uint8 h t6 t51 h.length) (appendH T_sl_uint8 h t6 t51) h fun t52 h =>
    runD (binD T_int .add t41 (.int .i64 1)) h fun t53 h =>
    (∃ m, m < n ∧ I m (AV.norms n0 h [t52, t53]) (normH n0 h)) ∧ AV.norms n0 h [c1, c8, c29, c30, c31] = [c1, c8, c29, c30, c31])
    (J5 c1 t6 c29 c30 c31 h)
def key_Text.L1 (c : Ctx) (J2 : AV → AV → List AObj → Prop) (K : AOut → List AObj → Prop) (lv : List AV) (h0 : List AObj) (n0 : Nat) (c1 : AV) (c29 : AV) (c30 : AV) : Prop :=
  ∃ I : Nat → List AV → List AObj → Prop, (∃ n, I n lv h0) ∧ ∀ n h, ∀ t6, ∀ t31, I n [t6, t31] h →
    runD (binD T_int .lss t31 c30) h fun t32 h =>
    condW t32
    (joinW (fun (J3 : AV → AV → AV → AV → AV → List AObj → Prop) =>
    runD (indexAddrD T_sl_int h c29 t31) h fun t33 h =>
    runD (fitD T_int (loadD h t33)) h fun t34 h =>
    runD (binD T_int .lss t34 (.int .i64 0)) h fun t36 h =>
    joinW (fun (J4 : AV → AV → List AObj → Prop) =>
    guardW t36 false
    (runD (binD T_int .geq t34 (.int .i64 72057594037927936)) h fun t39 h =>
      J4 (.bool false) t39 h)
    (J4 (.bool true) .und h))
    (fun t37 t39 h => runD (pickD t37 (.bool true) t39) h fun t40 h =>
    condW t40
    (K (.ret (.tup [(.str []), (.int .i64 20)])) h)
    (joinW (fun (J5 : AV → AV → AV → AV → AV → List AObj → Prop) =>
    promV [false, false] [t6, (.int .i64 0)] h fun lv h => key_Text.L2 c J5 K (AV.norms h.length h lv) (normH h.length h) h.length (AV.norm h.length h c1) (AV.norm h.length h t34) (AV.norm h.length h c29) (AV.norm h.length h c30) (AV.norm h.length h t31))
    (fun t1 t6 t29 t30 t31 h => J3 t1 t6 t29 t30 t31 h))))
    (fun t1 t6 t29 t30 t31 h => runD (binD T_int .add t31 (.int .i64 1)) h fun t54 h =>
    (∃ m, m < n ∧ I m (AV.norms n0 h [t6, t54]) (normH n0 h)) ∧ AV.norms n0 h [t1, t29, t30] = [c1, c29, c30]))
    (J2 c1 t6 h)
def key_Text.L3 (c : Ctx) (J6 : AV → AV → List AObj → Prop) (K : AOut → List AObj → Prop) (lv : List AV) (h0 : List AObj) (n0 : Nat) (c1 : AV) (c6 : AV) (c57 : AV) (c58 : AV) : Prop :=
  ∃ I : Nat → List AV → List AObj → Prop, (∃ n, I n lv h0) ∧ ∀ n h, ∀ t59, I n [t59] h →
    runD (binD T_int .lss t59 c58) h fun t60 h =>
    condW t60
    (runD (indexAddrD T_sl_uint8 h c57 t59) h fun t61 h =>
    runD (fitD T_uint8 (loadD h t61)) h fun t62 h =>
    runD (binD T_uint8 .neq t62 (.int .u8 0)) h fun t64 h =>
    condW t64
    (K (.ret (.tup [(.str []), (.int .i64 20)])) h)
    (runD (binD T_int .add t59 (.int .i64 1)) h fun t65 h =>
    (∃ m, m < n ∧ I m (AV.norms n0 h [t65]) (normH n0 h)) ∧ AV.norms n0 h [c1, c6, c57, c58] = [c1, c6, c57, c58]))
    (J6 c1 c6 h)
def key_Text.H (c : Ctx) (t0 : AV) (t1 : AV) (h : List AObj) (K : AOut → List AObj → Prop) : Prop :=
  runD (binD T_int .lss t1 (.int .i64 0)) h fun t13 h =>
  joinW (fun (J1 : AV → AV → List AObj → Prop) =>
  guardW t13 false
  (runD (lenD T_sl_int h t0) h fun t16 h =>
    runD (binD T_int .quo t1 (.int .i64 7)) h fun t18 h =>
    runD (binD T_int .rem t1 (.int .i64 7)) h fun t20 h =>
    runD (minD (.int .i64 1) t20) h fun t21 h =>
    runD (binD T_int .add t18 t21) h fun t22 h =>
    runD (binD T_int .neq t16 t22) h fun t23 h =>
    J1 (.bool false) t23 h)
  (J1 (.bool true) .und h))
  (fun t14 t23 h => runD (pickD t14 (.bool true) t23) h fun t24 h =>
  condW t24
  (K (.ret (.tup [(.str []), (.int .i64 20)])) h)
  (runD (lenD T_sl_int h t0) h fun t26 h =>
  runD (binD T_int .mul (.int .i64 7) t26) h fun t27 h =>
  runD (makeSliceD T_sl_uint8 (.int .i64 0) t27 h.length) h fun t28 h =>
  runD (lenD T_sl_int h t0) h fun t30 h =>
  joinW (fun (J2 : AV → AV → List AObj → Prop) =>
  promV [false, false] [t28, (.int .i64 0)] h fun lv h => key_Text.L1 c J2 K (AV.norms h.length h lv) (normH h.length h) h.length (AV.norm h.length h t1) (AV.norm h.length h t0) (AV.norm h.length h t30))
  (fun t1 t6 h => runD (sliceD T_sl_uint8 h t6 (some t1) none none) h fun t57 h =>
  runD (lenD T_sl_uint8 h t57) h fun t58 h =>
  joinW (fun (J6 : AV → AV → List AObj → Prop) =>
  promV [false] [(.int .i64 0)] h fun lv h => key_Text.L3 c J6 K (AV.norms h.length h lv) (normH h.length h) h.length (AV.norm h.length h t1) (AV.norm h.length h t6) (AV.norm h.length h t57) (AV.norm h.length h t58))
  (fun t1 t6 h => runD (sliceD T_sl_uint8 h t6 none (some t1) none) h fun t68 h =>
  runD (convD h T_sl_uint8 T_string t68) h fun t69 h =>
  K (.ret (.tup [t69, (.int .i64 0)])) h))))
def key_Words.loops : Nat → LInfo
  | 5 => ⟨[4, 11], [false, false], [2, 3, 10]⟩
  | _ => ⟨[], [], []⟩
def key_Words.L1 (c : Ctx) (id : Nat) (r : Loop) (J3 : AV → AV → List AObj → Prop) (K : AOut → List AObj → Prop) (lv : List AV) (h0 : List AObj) (n0 : Nat) (c2 : AV) (c3 : AV) (c10 : AV) : Prop :=
  ∃ I : Nat → List AV → List AObj → Prop, (∃ n, I n lv h0) ∧ ∀ n h, ∀ t4, ∀ t11, I n [t4, t11] h →
    runD (binD T_int .lss t11 c10) h fun t12 h =>
    condW t12
    (runD (indexD T_string c3 t11) h fun t17 h =>
    runD (convD h T_uint8 T_int t17) h fun t18 h =>
    runD (binD T_int .sub (.int .i64 6) t11) h fun t20 h =>
    runD (binD T_int .mul (.int .i64 8) t20) h fun t21 h =>
    runD (binD T_int .shl t18 t21) h fun t22 h =>
    runD (binD T_int .or t4 t22) h fun t23 h =>
    runD (binD T_int .add t11 (.int .i64 1)) h fun t24 h =>
    (∃ m, m < n ∧ I m (AV.norms n0 h [t23, t24]) (normH n0 h)) ∧ AV.norms n0 h [c2, c3, c10] = [c2, c3, c10])
    (J3 c2 t4 h)
def key_Words.H (c : Ctx) (t0 : AV) (h : List AObj) (K : AOut → List AObj → Prop) : Prop :=
  boxW T_sl_int T_sl_int.zero h fun t2 h =>
  callW c (.fn (.func 13) [] []) [t0] h (fun t7 h =>
  joinW (fun (J1 : AV → List AObj → Prop) =>
  rangeX c.iterS t7 h
  (fun id r args h K => lpIs h id .ready r ∧ argX1 args fun t8 =>
  lpIs h id .ready r ∧
  joinW (fun (J2 : List AObj → Prop) =>
  runD (lenD T_string (List.set h id (.lp .busy none r)) t8) (List.set h id (.lp .busy none r)) fun t10 h =>
  joinW (fun (J3 : AV → AV → List AObj → Prop) =>
  promV [false, false] [(.int .i64 0), (.int .i64 0)] h fun lv h => key_Words.L1 c id r J3 K (AV.norms h.length h lv) (normH h.length h) h.length (AV.norm h.length h t2) (AV.norm h.length h t8) (AV.norm h.length h t10))
  (fun t2 t4 h => runD (fitD T_sl_int (loadD h t2)) h fun t25 h =>
  runD (buildSliceD T_sl_int 1 [(0, t4)] h.length) h fun t27 h =>
  runDM (appendD T_sl_int h t25 t27 h.length) (appendH T_sl_int h t25 t27) h fun t28 h =>
  runH (storeH T_sl_int h t2 t28) h fun _ h =>
  J2 h))
  (fun h => lpIs h id .busy r ∧ K (.ret (.bool true)) (List.set h id (.lp .ready none r))))
  (fun id r ao h => endX id r ao h
  (fun h => J1 t2 h)
  (fun h => loadRes (fitD T_sl_int (loadD h t2)) fun r0 => K (.ret r0) h)
  (fun i h => exitW i 0 (J1 t2 h) (False))
  (fun l h => False)
  (fun v h => K (.pan v) h)))
  (fun t2 h => runD (fitD T_sl_int (loadD h t2)) h fun t29 h =>
  runH (storeH T_sl_int h t2 t29) h fun _ h =>
  loadRes (fitD T_sl_int (loadD h t2)) fun r0 => K (.ret r0) h))
  (fun v h => K (.pan v) h)
def lamplighterref02_Numbers.loops : Nat → LInfo
  | 4 => ⟨[5], [false], [0, 1]⟩
  | _ => ⟨[], [], []⟩
def lamplighterref02_Numbers.L1 (c : Ctx) (J1 : List AObj → Prop) (K : AOut → List AObj → Prop) (lv : List AV) (h0 : List AObj) (n0 : Nat) (c0 : AV) (c1 : AV) : Prop :=
  ∃ I : Nat → List AV → List AObj → Prop, (∃ n, I n lv h0) ∧ ∀ n h, ∀ t5, I n [t5] h →
    runD (lenD T_sl_int h c0) h fun t13 h =>
    runD (binD T_int .lss t5 t13) h fun t14 h =>
    condW t14
    (runD (indexAddrD T_sl_int h c0 t5) h fun t19 h =>
    runD (fitD T_int (loadD h t19)) h fun t20 h =>
    runD (indexAddrD T_sl_int h c1 t5) h fun t23 h =>
    runD (fitD T_int (loadD h t23)) h fun t24 h =>
    runD (binD T_int .neq t20 t24) h fun t25 h =>
    condW t25
    (K (.ret (.bool false)) h)
    (runD (binD T_int .add t5 (.int .i64 1)) h fun t16 h =>
    (∃ m, m < n ∧ I m (AV.norms n0 h [t16]) (normH n0 h)) ∧ AV.norms n0 h [c0, c1] = [c0, c1]))
    (J1 h)
def lamplighterref02_Numbers.H (c : Ctx) (t0 : AV) (t1 : AV) (h : List AObj) (K : AOut → List AObj → Prop) : Prop :=
  runD (lenD T_sl_int h t0) h fun t7 h =>
  runD (lenD T_sl_int h t1) h fun t9 h =>
  runD (binD T_int .neq t7 t9) h fun t10 h =>
  condW t10
  (K (.ret (.bool false)) h)
  (joinW (fun (J1 : List AObj → Prop) =>
  promV [false] [(.int .i64 0)] h fun lv h => lamplighterref02_Numbers.L1 c J1 K (AV.norms h.length h lv) (normH h.length h) h.length (AV.norm h.length h t0) (AV.norm h.length h t1))
  (fun h => K (.ret (.bool true)) h))
def key_Check.loops : Nat → LInfo
  | _ => ⟨[], [], []⟩
def key_Check.H (c : Ctx) (t0 : AV) (h : List AObj) (K : AOut → List AObj → Prop) : Prop :=
  runD (binD T_string .neq t0 (.str [])) h fun t4 h =>
  joinW (fun (J1 : AV → AV → List AObj → Prop) =>
  guardW t4 true
  (runD (lenD T_string h t0) h fun t7 h =>
    runD (binD T_int .leq t7 (.int .i64 21)) h fun t8 h =>
    J1 (.bool true) t8 h)
  (J1 (.bool false) .und h))
  (fun t5 t8 h => runD (pickD t5 t8 (.bool false)) h fun t9 h =>
  K (.ret t9) h)
def key_CheckVal.loops : Nat → LInfo
  | _ => ⟨[], [], []⟩
def key_CheckVal.H (c : Ctx) (t0 : AV) (h : List AObj) (K : AOut → List AObj → Prop) : Prop :=
  runD (lenD T_string h t0) h fun t4 h =>
  runD (binD T_int .leq t4 (.int .i64 21)) h fun t5 h =>
  K (.ret t5) h
def key_pieces.loops : Nat → LInfo
  | _ => ⟨[], [], []⟩
def key_pieces.H (c : Ctx) (t0 : AV) (h : List AObj) (K : AOut → List AObj → Prop) : Prop :=
  boxW T_string t0 h fun t1 h =>
  K (.ret (.fn (.func 14) [] [t1])) h
def key_pieces_1.loops : Nat → LInfo
  | 0 => ⟨[], [], [0, 1]⟩
  | _ => ⟨[], [], []⟩
def key_pieces_1.L1 (c : Ctx) (J1 : List AObj → Prop) (K : AOut → List AObj → Prop) (lv : List AV) (h0 : List AObj) (n0 : Nat) (c0 : AV) (c1 : AV) : Prop :=
  ∃ I : Nat → List AV → List AObj → Prop, (∃ n, I n lv h0) ∧ ∀ n h, I n [] h →
    runD (fitD T_string (loadD h c1)) h fun t4 h =>
    runD (lenD T_string h t4) h fun t5 h =>
    runD (binD T_int .gtr t5 (.int .i64 0)) h fun t6 h =>
    condW t6
    (runD (fitD T_string (loadD h c1)) h fun t7 h =>
    runD (lenD T_string h t7) h fun t8 h =>
    runD (minD (.int .i64 7) t8) h fun t9 h =>
    runD (fitD T_string (loadD h c1)) h fun t11 h =>
    runD (sliceD T_string h t11 none (some t9) none) h fun t13 h =>
    callW c c0 [t13] h (fun t14 h =>
    runD (unD .not t14) h fun t15 h =>
    condW t15
    (K (.ret (.tup [])) h)
    (runD (fitD T_string (loadD h c1)) h fun t16 h =>
    runD (sliceD T_string h t16 (some t9) none none) h fun t18 h =>
    runH (storeH T_string h c1 t18) h fun _ h =>
    (∃ m, m < n ∧ I m (AV.norms n0 h []) (normH n0 h)) ∧ AV.norms n0 h [c0, c1] = [c0, c1]))
    (fun v h => K (.pan v) h))
    (J1 h)
def key_pieces_1.H (c : Ctx) (t0 : AV) (t1 : AV) (h : List AObj) (K : AOut → List AObj → Prop) : Prop :=
  joinW (fun (J1 : List AObj → Prop) =>
  promV [] [] h fun lv h => key_pieces_1.L1 c J1 K (AV.norms h.length h lv) (normH h.length h) h.length (AV.norm h.length h t0) (AV.norm h.length h t1))
  (fun h => K (.ret (.tup [])) h)
theorem lamplighterlaw02_KeyBack.eq (F : List (FuncId × Contract)) (S : List (FuncId × Con)) (t0 t1 : AV) (h : List AObj) (K : AOut → List AObj → Prop) : funW (ctx F S lamplighterlaw02_KeyBack.loops) Try.f3 [t0, t1] h K = lamplighterlaw02_KeyBack.H (ctx F S lamplighterlaw02_KeyBack.loops) t0 t1 h K := by kernel_rfl
theorem lamplighterlaw02_KeyOrder.eq (F : List (FuncId × Contract)) (S : List (FuncId × Con)) (t0 t1 : AV) (h : List AObj) (K : AOut → List AObj → Prop) : funW (ctx F S lamplighterlaw02_KeyOrder.loops) Try.f4 [t0, t1] h K = lamplighterlaw02_KeyOrder.H (ctx F S lamplighterlaw02_KeyOrder.loops) t0 t1 h K := by kernel_rfl
theorem lamplighterlaw02_KeyParts.eq (F : List (FuncId × Contract)) (S : List (FuncId × Con)) (t0 t1 : AV) (h : List AObj) (K : AOut → List AObj → Prop) : funW (ctx F S lamplighterlaw02_KeyParts.loops) Try.f5 [t0, t1] h K = lamplighterlaw02_KeyParts.H (ctx F S lamplighterlaw02_KeyParts.loops) t0 t1 h K := by kernel_rfl
theorem lamplighterlaw02_KeyMay.eq (F : List (FuncId × Contract)) (S : List (FuncId × Con)) (t0 t1 t2 : AV) (h : List AObj) (K : AOut → List AObj → Prop) : funW (ctx F S lamplighterlaw02_KeyMay.loops) Try.f6 [t0, t1, t2] h K = lamplighterlaw02_KeyMay.H (ctx F S lamplighterlaw02_KeyMay.loops) t0 t1 t2 h K := by kernel_rfl
theorem lamplighterlaw02_awake.eq (F : List (FuncId × Contract)) (S : List (FuncId × Con)) (h : List AObj) (K : AOut → List AObj → Prop) : funW (ctx F S lamplighterlaw02_awake.loops) Try.f7 [] h K = lamplighterlaw02_awake.H (ctx F S lamplighterlaw02_awake.loops)  h K := by kernel_rfl
theorem key_Text.eq (F : List (FuncId × Contract)) (S : List (FuncId × Con)) (t0 t1 : AV) (h : List AObj) (K : AOut → List AObj → Prop) : funW (ctx F S key_Text.loops) Try.f8 [t0, t1] h K = key_Text.H (ctx F S key_Text.loops) t0 t1 h K := by kernel_rfl
theorem key_Words.eq (F : List (FuncId × Contract)) (S : List (FuncId × Con)) (Is : List (FuncId × (Con → Con))) (t0 : AV) (h : List AObj) (K : AOut → List AObj → Prop) : funW (ctxI F S Is key_Words.loops) Try.f9 [t0] h K = key_Words.H (ctxI F S Is key_Words.loops) t0 h K := by kernel_rfl
theorem lamplighterref02_Numbers.eq (F : List (FuncId × Contract)) (S : List (FuncId × Con)) (t0 t1 : AV) (h : List AObj) (K : AOut → List AObj → Prop) : funW (ctx F S lamplighterref02_Numbers.loops) Try.f10 [t0, t1] h K = lamplighterref02_Numbers.H (ctx F S lamplighterref02_Numbers.loops) t0 t1 h K := by kernel_rfl
theorem key_Check.eq (F : List (FuncId × Contract)) (S : List (FuncId × Con)) (t0 : AV) (h : List AObj) (K : AOut → List AObj → Prop) : funW (ctx F S key_Check.loops) Try.f11 [t0] h K = key_Check.H (ctx F S key_Check.loops) t0 h K := by kernel_rfl
theorem key_CheckVal.eq (F : List (FuncId × Contract)) (S : List (FuncId × Con)) (t0 : AV) (h : List AObj) (K : AOut → List AObj → Prop) : funW (ctx F S key_CheckVal.loops) Try.f12 [t0] h K = key_CheckVal.H (ctx F S key_CheckVal.loops) t0 h K := by kernel_rfl
theorem key_pieces.eq (F : List (FuncId × Contract)) (S : List (FuncId × Con)) (t0 : AV) (h : List AObj) (K : AOut → List AObj → Prop) : funW (ctx F S key_pieces.loops) Try.f13 [t0] h K = key_pieces.H (ctx F S key_pieces.loops) t0 h K := by kernel_rfl
theorem key_pieces_1.eq (F : List (FuncId × Contract)) (S : List (FuncId × Con)) (l : Nat) (Y : Con) (t0 t1 : AV) (h : List AObj) (K : AOut → List AObj → Prop) : funW ((ctx F S key_pieces_1.loops).withY l Y) Try.f14 [t0, t1] h K = key_pieces_1.H ((ctx F S key_pieces_1.loops).withY l Y) t0 t1 h K := by kernel_rfl
theorem lamplighterlaw02_KeyBack.at : Try.prog.funcs[3]? = some Try.f3 := by kernel_rfl
theorem lamplighterlaw02_KeyBack.nm : (Try.f3.name == "runtime.NumGoroutine") = false := by kernel_rfl
theorem lamplighterlaw02_KeyBack.bd : Try.f3.body.isNone = false := by kernel_rfl
theorem lamplighterlaw02_KeyOrder.at : Try.prog.funcs[4]? = some Try.f4 := by kernel_rfl
theorem lamplighterlaw02_KeyOrder.nm : (Try.f4.name == "runtime.NumGoroutine") = false := by kernel_rfl
theorem lamplighterlaw02_KeyOrder.bd : Try.f4.body.isNone = false := by kernel_rfl
theorem lamplighterlaw02_KeyParts.at : Try.prog.funcs[5]? = some Try.f5 := by kernel_rfl
theorem lamplighterlaw02_KeyParts.nm : (Try.f5.name == "runtime.NumGoroutine") = false := by kernel_rfl
theorem lamplighterlaw02_KeyParts.bd : Try.f5.body.isNone = false := by kernel_rfl
theorem lamplighterlaw02_KeyMay.at : Try.prog.funcs[6]? = some Try.f6 := by kernel_rfl
theorem lamplighterlaw02_KeyMay.nm : (Try.f6.name == "runtime.NumGoroutine") = false := by kernel_rfl
theorem lamplighterlaw02_KeyMay.bd : Try.f6.body.isNone = false := by kernel_rfl
theorem lamplighterlaw02_awake.at : Try.prog.funcs[7]? = some Try.f7 := by kernel_rfl
theorem lamplighterlaw02_awake.nm : (Try.f7.name == "runtime.NumGoroutine") = false := by kernel_rfl
theorem lamplighterlaw02_awake.bd : Try.f7.body.isNone = false := by kernel_rfl
theorem key_Text.at : Try.prog.funcs[8]? = some Try.f8 := by kernel_rfl
theorem key_Text.nm : (Try.f8.name == "runtime.NumGoroutine") = false := by kernel_rfl
theorem key_Text.bd : Try.f8.body.isNone = false := by kernel_rfl
theorem key_Words.at : Try.prog.funcs[9]? = some Try.f9 := by kernel_rfl
theorem key_Words.nm : (Try.f9.name == "runtime.NumGoroutine") = false := by kernel_rfl
theorem key_Words.bd : Try.f9.body.isNone = false := by kernel_rfl
theorem lamplighterref02_Numbers.at : Try.prog.funcs[10]? = some Try.f10 := by kernel_rfl
theorem lamplighterref02_Numbers.nm : (Try.f10.name == "runtime.NumGoroutine") = false := by kernel_rfl
theorem lamplighterref02_Numbers.bd : Try.f10.body.isNone = false := by kernel_rfl
theorem key_Check.at : Try.prog.funcs[11]? = some Try.f11 := by kernel_rfl
theorem key_Check.nm : (Try.f11.name == "runtime.NumGoroutine") = false := by kernel_rfl
theorem key_Check.bd : Try.f11.body.isNone = false := by kernel_rfl
theorem key_CheckVal.at : Try.prog.funcs[12]? = some Try.f12 := by kernel_rfl
theorem key_CheckVal.nm : (Try.f12.name == "runtime.NumGoroutine") = false := by kernel_rfl
theorem key_CheckVal.bd : Try.f12.body.isNone = false := by kernel_rfl
theorem key_pieces.at : Try.prog.funcs[13]? = some Try.f13 := by kernel_rfl
theorem key_pieces.nm : (Try.f13.name == "runtime.NumGoroutine") = false := by kernel_rfl
theorem key_pieces.bd : Try.f13.body.isNone = false := by kernel_rfl
theorem key_pieces_1.at : Try.prog.funcs[14]? = some Try.f14 := by kernel_rfl
theorem key_pieces_1.nm : (Try.f14.name == "runtime.NumGoroutine") = false := by kernel_rfl
theorem key_pieces_1.bd : Try.f14.body.isNone = false := by kernel_rfl
end Lam
