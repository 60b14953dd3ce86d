/- The functions' code, as it is reckoned. Printed by a program. -/
import Derived.Test.YtdnhjeoacanbcaaLR34
import Derived.Attr
import Derived.KernelRfl
import Derived.Test.YtdnhjeoacanbcaaProg
namespace Lam
open Go Go.Proofs
set_option linter.unusedVariables false
def T_unit : TyD := (.tup [])
def T_func : TyD := .func
def T_int64 : TyD := (.int .i64)
def T_int : TyD := (.int .i64)
def T_bool : TyD := .bool
def T_uint8 : TyD := (.int .u8)
def T_p_runtime_PanicNilError : TyD := .ptr
def T_sl_int : TyD := (.slice (.int .i64))
def T_api_Errno : TyD := (.int .i64)
def T_sl_int_api_Errno : TyD := (.tup [(.slice (.int .i64)), (.int .i64)])
def T_int_int_api_Errno : TyD := (.tup [(.int .i64), (.int .i64), (.int .i64)])
def T_sl_api_Micro : TyD := (.slice .mic)
def T_sl_api_Micro_api_Errno : TyD := (.tup [(.slice .mic), (.int .i64)])
def T_uint32 : TyD := (.int .u32)
def T_uint64 : TyD := (.int .u64)
def T_api_Micro : TyD := (.strct [(.int .i64), (.int .i64), (.int .i64)])
def T_super_head : TyD := (.strct [(.int .i64), (.int .i64), (.int .i64), (.int .i64)])
def T_funcapi_Micro_bool : TyD := .func
def T_sl_uint8 : TyD := (.slice (.int .u8))
def T_map_int_int : TyD := (.map .ii)
def T_256_uint32 : TyD := (.arr 256 (.int .u32))
def T_p_256_uint32 : TyD := .ptr
attribute [go_sem] T_unit T_func T_int64 T_int T_bool T_uint8 T_p_runtime_PanicNilError T_sl_int T_api_Errno T_sl_int_api_Errno T_int_int_api_Errno T_sl_api_Micro T_sl_api_Micro_api_Errno T_uint32 T_uint64 T_api_Micro T_super_head T_funcapi_Micro_bool T_sl_uint8 T_map_int_int T_256_uint32 T_p_256_uint32
def tab : TypeId → TyD
  | 0 => T_unit
  | 1 => T_func
  | 2 => T_int64
  | 3 => T_int
  | 4 => T_bool
  | 5 => T_uint8
  | 16 => T_p_runtime_PanicNilError
  | 22 => T_sl_int
  | 24 => T_api_Errno
  | 25 => T_sl_int_api_Errno
  | 27 => T_int_int_api_Errno
  | 29 => T_sl_api_Micro
  | 30 => T_sl_api_Micro_api_Errno
  | 63 => T_uint32
  | 64 => T_uint64
  | 72 => T_api_Micro
  | 82 => T_super_head
  | 120 => T_funcapi_Micro_bool
  | 123 => T_sl_uint8
  | 134 => T_map_int_int
  | 138 => T_256_uint32
  | 141 => T_p_256_uint32
  | _ => .other
theorem tab_ok : TabOk Try.prog tab := by
  intro T
  unfold tab
  split <;> kernel_rfl
theorem tab_sh (T : TypeId) : (tab T).shallow := by
  unfold tab
  split <;> (unfold TyD.shallow; decide)
theorem mixed : Try.prog.follows .mixedOrders = true := by kernel_rfl
def ctx (F : List (FuncId × Contract)) (S : List (FuncId × Con)) (lp : Nat → LInfo) : Ctx := ⟨tab, lookF F, lookS S, fun _ _ _ => none, lp, false⟩
@[go_sem] theorem ctx_drawn (F : List (FuncId × Contract)) (S : List (FuncId × Con)) (lp : Nat → LInfo) : (ctx F S lp).drawn = false := (rfl)
@[go_sem] theorem ctx_envF (F : List (FuncId × Contract)) (S : List (FuncId × Con)) (lp : Nat → LInfo) : (ctx F S lp).envF = lookF F := (rfl)
@[go_sem] theorem ctx_envS (F : List (FuncId × Contract)) (S : List (FuncId × Con)) (lp : Nat → LInfo) : (ctx F S lp).envS = lookS S := (rfl)
theorem ctx_ok {F : List (FuncId × Contract)} {S : List (FuncId × Con)} (hF : ∀ p ∈ F, FSpec Try.prog p.1 p.2) (hS : ∀ p ∈ S, SSpec Try.prog p.1 p.2) (lp : Nat → LInfo) : Ok Try.prog (ctx F S lp) :=
  ⟨⟨tab_ok, tab_sh, fok_look hF⟩, sok_look hS, rfl, mixed⟩
def lamplighterlaw08_SuperTells.loops : Nat → LInfo
  | _ => ⟨[], [], []⟩
def lamplighterlaw08_SuperTells.H (c : Ctx) (t0 : AV) (t1 : AV) (t2 : AV) (h : List AObj) (K : AOut → List AObj → Prop) : Prop :=
  callW c (.fn (.func 15) [] []) [] h (fun t22 h =>
  runD (lenD T_sl_int h t2) h fun t24 h =>
  runD (binD T_int .gtr t24 (.int .i64 5000)) h fun t25 h =>
  condW t25
  (K (.ret t22) h)
  (callW c (.fn (.func 16) [] []) [t0, t1] h (fun t30 h =>
  runD (extractD t30 0) h fun t31 h =>
  runD (extractD t30 1) h fun t32 h =>
  callW c (.fn (.func 17) [] []) [t0, t1] h (fun t36 h =>
  runD (extractD t36 0) h fun t37 h =>
  runD (extractD t36 1) h fun t38 h =>
  callW c (.fn (.func 18) [] []) [t2] h (fun t41 h =>
  runD (extractD t41 0) h fun t42 h =>
  runD (extractD t41 1) h fun t43 h =>
  runD (extractD t41 2) h fun t44 h =>
  callW c (.fn (.func 19) [] []) [t2] h (fun t47 h =>
  runD (extractD t47 0) h fun t48 h =>
  runD (extractD t47 1) h fun t49 h =>
  runD (extractD t47 2) h fun t50 h =>
  callW c (.fn (.func 20) [] []) [t0, t1] h (fun t54 h =>
  runD (extractD t54 0) h fun t55 h =>
  runD (extractD t54 1) h fun t56 h =>
  callW c (.fn (.func 21) [] []) [t0, t1] h (fun t60 h =>
  runD (extractD t60 0) h fun t61 h =>
  runD (extractD t60 1) h fun t62 h =>
  joinW (fun (J1 : AV → AV → List AObj → Prop) =>
  guardW t22 true
  (callW c (.fn (.func 22) [] []) [t31, t37] h (fun t67 h =>
    J1 (.bool true) t67 h)
    (fun v h => K (.pan v) h))
  (J1 (.bool false) .und h))
  (fun t64 t67 h => runD (pickD t64 t67 (.bool false)) h fun t68 h =>
  joinW (fun (J2 : AV → AV → List AObj → Prop) =>
  guardW t68 true
  (runD (binD T_api_Errno .eql t32 t38) h fun t72 h =>
    J2 (.bool true) t72 h)
  (J2 (.bool false) .und h))
  (fun t69 t72 h => runD (pickD t69 t72 (.bool false)) h fun t73 h =>
  joinW (fun (J3 : AV → AV → List AObj → Prop) =>
  guardW t73 true
  (runD (binD T_int .eql t42 t48) h fun t77 h =>
    J3 (.bool true) t77 h)
  (J3 (.bool false) .und h))
  (fun t74 t77 h => runD (pickD t74 t77 (.bool false)) h fun t78 h =>
  joinW (fun (J4 : AV → AV → List AObj → Prop) =>
  guardW t78 true
  (runD (binD T_int .eql t43 t49) h fun t82 h =>
    J4 (.bool true) t82 h)
  (J4 (.bool false) .und h))
  (fun t79 t82 h => runD (pickD t79 t82 (.bool false)) h fun t83 h =>
  joinW (fun (J5 : AV → AV → List AObj → Prop) =>
  guardW t83 true
  (runD (binD T_api_Errno .eql t44 t50) h fun t87 h =>
    J5 (.bool true) t87 h)
  (J5 (.bool false) .und h))
  (fun t84 t87 h => runD (pickD t84 t87 (.bool false)) h fun t88 h =>
  joinW (fun (J6 : AV → AV → List AObj → Prop) =>
  guardW t88 true
  (callW c (.fn (.func 23) [] []) [t55, t61] h (fun t92 h =>
    J6 (.bool true) t92 h)
    (fun v h => K (.pan v) h))
  (J6 (.bool false) .und h))
  (fun t89 t92 h => runD (pickD t89 t92 (.bool false)) h fun t93 h =>
  joinW (fun (J7 : AV → AV → List AObj → Prop) =>
  guardW t93 true
  (runD (binD T_api_Errno .eql t56 t62) h fun t97 h =>
    J7 (.bool true) t97 h)
  (J7 (.bool false) .und h))
  (fun t94 t97 h => runD (pickD t94 t97 (.bool false)) h fun t98 h =>
  K (.ret t98) h))))))))
  (fun v h => K (.pan v) h))
  (fun v h => K (.pan v) h))
  (fun v h => K (.pan v) h))
  (fun v h => K (.pan v) h))
  (fun v h => K (.pan v) h))
  (fun v h => K (.pan v) h)))
  (fun v h => K (.pan v) h)
def lamplighterlaw08_SuperBack.loops : Nat → LInfo
  | _ => ⟨[], [], []⟩
def lamplighterlaw08_SuperBack.H (c : Ctx) (t0 : AV) (t1 : AV) (t2 : AV) (t3 : AV) (h : List AObj) (K : AOut → List AObj → Prop) : Prop :=
  callW c (.fn (.func 15) [] []) [] h (fun t21 h =>
  runD (lenD T_sl_int h t1) h fun t23 h =>
  runD (binD T_int .gtr t23 (.int .i64 4080)) h fun t24 h =>
  joinW (fun (J1 : AV → AV → List AObj → Prop) =>
  guardW t24 false
  (runD (lenD T_sl_int h t1) h fun t27 h =>
    runD (binD T_int .lss t27 (.int .i64 16)) h fun t28 h =>
    J1 (.bool false) t28 h)
  (J1 (.bool true) .und h))
  (fun t25 t28 h => runD (pickD t25 (.bool true) t28) h fun t29 h =>
  joinW (fun (J2 : AV → AV → List AObj → Prop) =>
  guardW t29 false
  (runD (binD T_int .eql t3 (.int .i64 0)) h fun t32 h =>
    J2 (.bool false) t32 h)
  (J2 (.bool true) .und h))
  (fun t30 t32 h => runD (pickD t30 (.bool true) t32) h fun t33 h =>
  condW t33
  (K (.ret t21) h)
  (runD (lenD T_sl_int h t1) h fun t36 h =>
  runD (binD T_int .quo t36 (.int .i64 16)) h fun t37 h =>
  runD (binD T_int .add (.int .i64 1) t37) h fun t38 h =>
  callW c (.fn (.func 16) [] []) [t38, t0] h (fun t42 h =>
  runD (extractD t42 0) h fun t43 h =>
  runD (extractD t42 1) h fun t44 h =>
  runD (binD T_api_Errno .neq t44 (.int .i64 0)) h fun t46 h =>
  condW t46
  (joinW (fun (J3 : AV → AV → List AObj → Prop) =>
    guardW t21 true
    (runD (binD T_int .lss t0 (.int .i64 1)) h fun t50 h =>
      joinW (fun (J4 : AV → AV → List AObj → Prop) =>
      guardW t50 false
      (runD (binD T_int .geq t0 t38) h fun t54 h =>
        J4 (.bool false) t54 h)
      (J4 (.bool true) .und h))
      (fun t51 t54 h => runD (pickD t51 (.bool true) t54) h fun t55 h =>
      J3 (.bool true) t55 h))
    (J3 (.bool false) .und h))
    (fun t48 t55 h => runD (pickD t48 t55 (.bool false)) h fun t56 h =>
    K (.ret t56) h))
  (runD (buildSliceD T_sl_int 0 [] h.length) h fun t57 h =>
  runDM (appendD T_sl_int h t57 t43 h.length) (appendH T_sl_int h t57 t43) h fun t59 h =>
  runDM (appendD T_sl_int h t59 t1 h.length) (appendH T_sl_int h t59 t1) h fun t61 h =>
  callW c (.fn (.func 18) [] []) [t61] h (fun t64 h =>
  runD (extractD t64 0) h fun t65 h =>
  runD (extractD t64 1) h fun t66 h =>
  runD (extractD t64 2) h fun t67 h =>
  runD (binD T_uint8 .rem t2 (.int .u8 16)) h fun t69 h =>
  runD (convD h T_uint8 T_int t69) h fun t70 h =>
  runD (indexAddrD T_sl_int h t61 t70) h fun t75 h =>
  runD (fitD T_int (loadD h t75)) h fun t76 h =>
  runD (binD T_int .xor t76 t3) h fun t78 h =>
  runD (indexAddrD T_sl_int h t61 t70) h fun t79 h =>
  runH (storeH T_int h t79 t78) h fun _ h =>
  callW c (.fn (.func 18) [] []) [t61] h (fun t82 h =>
  runD (extractD t82 0) h fun t83 h =>
  runD (extractD t82 1) h fun t84 h =>
  runD (extractD t82 2) h fun t85 h =>
  joinW (fun (J5 : AV → AV → List AObj → Prop) =>
  guardW t21 true
  (runD (binD T_api_Errno .eql t67 (.int .i64 0)) h fun t89 h =>
    J5 (.bool true) t89 h)
  (J5 (.bool false) .und h))
  (fun t87 t89 h => runD (pickD t87 t89 (.bool false)) h fun t90 h =>
  joinW (fun (J6 : AV → AV → List AObj → Prop) =>
  guardW t90 true
  (runD (binD T_int .eql t65 t38) h fun t94 h =>
    J6 (.bool true) t94 h)
  (J6 (.bool false) .und h))
  (fun t91 t94 h => runD (pickD t91 t94 (.bool false)) h fun t95 h =>
  joinW (fun (J7 : AV → AV → List AObj → Prop) =>
  guardW t95 true
  (runD (binD T_int .eql t66 t0) h fun t99 h =>
    J7 (.bool true) t99 h)
  (J7 (.bool false) .und h))
  (fun t96 t99 h => runD (pickD t96 t99 (.bool false)) h fun t100 h =>
  joinW (fun (J8 : AV → AV → List AObj → Prop) =>
  guardW t100 true
  (runD (binD T_int .eql t70 (.int .i64 3)) h fun t103 h =>
    joinW (fun (J9 : AV → AV → List AObj → Prop) =>
    guardW t103 false
    (runD (binD T_api_Errno .eql t85 (.int .i64 80)) h fun t106 h =>
      J9 (.bool false) t106 h)
    (J9 (.bool true) .und h))
    (fun t104 t106 h => runD (pickD t104 (.bool true) t106) h fun t107 h =>
    J8 (.bool true) t107 h))
  (J8 (.bool false) .und h))
  (fun t101 t107 h => runD (pickD t101 t107 (.bool false)) h fun t108 h =>
  joinW (fun (J10 : AV → AV → List AObj → Prop) =>
  guardW t108 true
  (runD (binD T_int .neq t70 (.int .i64 3)) h fun t111 h =>
    joinW (fun (J11 : AV → AV → List AObj → Prop) =>
    guardW t111 false
    (runD (binD T_api_Errno .neq t85 (.int .i64 0)) h fun t114 h =>
      J11 (.bool false) t114 h)
    (J11 (.bool true) .und h))
    (fun t112 t114 h => runD (pickD t112 (.bool true) t114) h fun t115 h =>
    joinW (fun (J12 : AV → AV → List AObj → Prop) =>
    guardW t115 false
    (runD (binD T_int .xor t0 t3) h fun t120 h =>
      runD (binD T_int .eql t84 t120) h fun t121 h =>
      J12 (.bool false) t121 h)
    (J12 (.bool true) .und h))
    (fun t116 t121 h => runD (pickD t116 (.bool true) t121) h fun t122 h =>
    J10 (.bool true) t122 h)))
  (J10 (.bool false) .und h))
  (fun t109 t122 h => runD (pickD t109 t122 (.bool false)) h fun t123 h =>
  K (.ret t123) h))))))
  (fun v h => K (.pan v) h))
  (fun v h => K (.pan v) h)))
  (fun v h => K (.pan v) h)))))
  (fun v h => K (.pan v) h)
def lamplighterlaw08_SuperOnly.loops : Nat → LInfo
  | _ => ⟨[], [], []⟩
def lamplighterlaw08_SuperOnly.H (c : Ctx) (t0 : AV) (t1 : AV) (h : List AObj) (K : AOut → List AObj → Prop) : Prop :=
  callW c (.fn (.func 15) [] []) [] h (fun t15 h =>
  runD (lenD T_sl_int h t0) h fun t17 h =>
  runD (binD T_int .gtr t17 (.int .i64 5000)) h fun t18 h =>
  joinW (fun (J1 : AV → AV → List AObj → Prop) =>
  guardW t18 false
  (runD (lenD T_sl_int h t1) h fun t21 h =>
    runD (binD T_int .gtr t21 (.int .i64 5000)) h fun t22 h =>
    J1 (.bool false) t22 h)
  (J1 (.bool true) .und h))
  (fun t19 t22 h => runD (pickD t19 (.bool true) t22) h fun t23 h =>
  condW t23
  (K (.ret t15) h)
  (callW c (.fn (.func 18) [] []) [t0] h (fun t27 h =>
  runD (extractD t27 0) h fun t28 h =>
  runD (extractD t27 1) h fun t29 h =>
  runD (extractD t27 2) h fun t30 h =>
  runD (binD T_api_Errno .neq t30 (.int .i64 0)) h fun t32 h =>
  condW t32
  (joinW (fun (J2 : AV → AV → List AObj → Prop) =>
    guardW t15 true
    (runD (binD T_int .eql t28 (.int .i64 0)) h fun t36 h =>
      J2 (.bool true) t36 h)
    (J2 (.bool false) .und h))
    (fun t34 t36 h => runD (pickD t34 t36 (.bool false)) h fun t37 h =>
    joinW (fun (J3 : AV → AV → List AObj → Prop) =>
    guardW t37 true
    (runD (binD T_int .eql t29 (.int .i64 0)) h fun t40 h =>
      J3 (.bool true) t40 h)
    (J3 (.bool false) .und h))
    (fun t38 t40 h => runD (pickD t38 t40 (.bool false)) h fun t41 h =>
    joinW (fun (J4 : AV → AV → List AObj → Prop) =>
    guardW t41 true
    (runD (binD T_api_Errno .eql t30 (.int .i64 80)) h fun t44 h =>
      J4 (.bool true) t44 h)
    (J4 (.bool false) .und h))
    (fun t42 t44 h => runD (pickD t42 t44 (.bool false)) h fun t45 h =>
    K (.ret t45) h))))
  (callW c (.fn (.func 16) [] []) [t28, t29] h (fun t49 h =>
  runD (extractD t49 0) h fun t50 h =>
  runD (extractD t49 1) h fun t51 h =>
  runD (buildSliceD T_sl_int 0 [] h.length) h fun t53 h =>
  runD (sliceD T_sl_int h t0 none (some (.int .i64 16)) none) h fun t55 h =>
  runDM (appendD T_sl_int h t53 t55 h.length) (appendH T_sl_int h t53 t55) h fun t56 h =>
  runDM (appendD T_sl_int h t56 t1 h.length) (appendH T_sl_int h t56 t1) h fun t58 h =>
  callW c (.fn (.func 18) [] []) [t58] h (fun t59 h =>
  runD (extractD t59 0) h fun t60 h =>
  runD (extractD t59 1) h fun t61 h =>
  runD (extractD t59 2) h fun t62 h =>
  runD (lenD T_sl_int h t1) h fun t64 h =>
  runD (binD T_int .add (.int .i64 16) t64) h fun t65 h =>
  runD (binD T_int .quo t65 (.int .i64 16)) h fun t66 h =>
  runD (binD T_int .eql t66 t28) h fun t68 h =>
  joinW (fun (J5 : AV → AV → List AObj → Prop) =>
  guardW t15 true
  (runD (binD T_api_Errno .eql t51 (.int .i64 0)) h fun t72 h =>
    J5 (.bool true) t72 h)
  (J5 (.bool false) .und h))
  (fun t70 t72 h => runD (pickD t70 t72 (.bool false)) h fun t73 h =>
  joinW (fun (J6 : AV → AV → List AObj → Prop) =>
  guardW t73 true
  (runD (sliceD T_sl_int h t0 none (some (.int .i64 16)) none) h fun t77 h =>
    callW c (.fn (.func 22) [] []) [t50, t77] h (fun t78 h =>
    J6 (.bool true) t78 h)
    (fun v h => K (.pan v) h))
  (J6 (.bool false) .und h))
  (fun t74 t78 h => runD (pickD t74 t78 (.bool false)) h fun t79 h =>
  joinW (fun (J7 : AV → AV → List AObj → Prop) =>
  guardW t79 true
  (runD (lenD T_sl_int h t0) h fun t83 h =>
    runD (binD T_int .quo t83 (.int .i64 16)) h fun t84 h =>
    runD (binD T_int .eql t28 t84) h fun t85 h =>
    J7 (.bool true) t85 h)
  (J7 (.bool false) .und h))
  (fun t80 t85 h => runD (pickD t80 t85 (.bool false)) h fun t86 h =>
  joinW (fun (J8 : AV → AV → List AObj → Prop) =>
  guardW t86 true
  (runD (binD T_api_Errno .eql t62 (.int .i64 0)) h fun t89 h =>
    runD (binD T_bool .eql t89 t68) h fun t91 h =>
    J8 (.bool true) t91 h)
  (J8 (.bool false) .und h))
  (fun t87 t91 h => runD (pickD t87 t91 (.bool false)) h fun t92 h =>
  joinW (fun (J9 : AV → AV → List AObj → Prop) =>
  guardW t92 true
  (runD (unD .not t68) h fun t95 h =>
    joinW (fun (J10 : AV → AV → List AObj → Prop) =>
    guardW t95 false
    (runD (binD T_int .eql t60 t28) h fun t99 h =>
      joinW (fun (J11 : AV → AV → List AObj → Prop) =>
      guardW t99 true
      (runD (binD T_int .eql t61 t29) h fun t103 h =>
        J11 (.bool true) t103 h)
      (J11 (.bool false) .und h))
      (fun t100 t103 h => runD (pickD t100 t103 (.bool false)) h fun t104 h =>
      J10 (.bool false) t104 h))
    (J10 (.bool true) .und h))
    (fun t96 t104 h => runD (pickD t96 (.bool true) t104) h fun t105 h =>
    J9 (.bool true) t105 h))
  (J9 (.bool false) .und h))
  (fun t93 t105 h => runD (pickD t93 t105 (.bool false)) h fun t106 h =>
  K (.ret t106) h))))))
  (fun v h => K (.pan v) h))
  (fun v h => K (.pan v) h)))
  (fun v h => K (.pan v) h))))
  (fun v h => K (.pan v) h)
def lamplighterlaw08_awake.loops : Nat → LInfo
  | _ => ⟨[], [], []⟩
def lamplighterlaw08_awake.H (c : Ctx) (h : List AObj) (K : AOut → List AObj → Prop) : Prop :=
  callW c (.fn (.func 16) [] []) [(.int .i64 2), (.int .i64 1)] h (fun t14 h =>
  runD (extractD t14 0) h fun t15 h =>
  runD (extractD t14 1) h fun t16 h =>
  runD (buildSliceD T_sl_int 0 [] h.length) h fun t18 h =>
  runDM (appendD T_sl_int h t18 t15 h.length) (appendH T_sl_int h t18 t15) h fun t20 h =>
  appendW T_sl_int T_int t20 (.int .i64 16) h fun t21 h =>
  callW c (.fn (.func 18) [] []) [t21] h (fun t22 h =>
  runD (extractD t22 0) h fun t23 h =>
  runD (extractD t22 1) h fun t24 h =>
  runD (extractD t22 2) h fun t25 h =>
  callW c (.fn (.func 18) [] []) [t15] h (fun t28 h =>
  runD (extractD t28 0) h fun t29 h =>
  runD (extractD t28 1) h fun t30 h =>
  runD (extractD t28 2) h fun t31 h =>
  callW c (.fn (.func 20) [] []) [(.int .i64 5), (.int .i64 4)] h (fun t33 h =>
  runD (extractD t33 0) h fun t34 h =>
  runD (extractD t33 1) h fun t35 h =>
  callW c (.fn (.func 16) [] []) [(.int .i64 1), (.int .i64 1)] h (fun t37 h =>
  runD (extractD t37 0) h fun t38 h =>
  runD (extractD t37 1) h fun t39 h =>
  runD (lenD T_sl_int h t15) h fun t41 h =>
  runD (binD T_int .eql t41 (.int .i64 16)) h fun t42 h =>
  joinW (fun (J1 : AV → AV → List AObj → Prop) =>
  guardW t42 true
  (runD (indexAddrD T_sl_int h t15 (.int .i64 0)) h fun t45 h =>
    runD (fitD T_int (loadD h t45)) h fun t46 h =>
    runD (binD T_int .eql t46 (.int .i64 7015)) h fun t47 h =>
    J1 (.bool true) t47 h)
  (J1 (.bool false) .und h))
  (fun t43 t47 h => runD (pickD t43 t47 (.bool false)) h fun t48 h =>
  joinW (fun (J2 : AV → AV → List AObj → Prop) =>
  guardW t48 true
  (runD (binD T_api_Errno .eql t16 (.int .i64 0)) h fun t51 h =>
    J2 (.bool true) t51 h)
  (J2 (.bool false) .und h))
  (fun t49 t51 h => runD (pickD t49 t51 (.bool false)) h fun t52 h =>
  joinW (fun (J3 : AV → AV → List AObj → Prop) =>
  guardW t52 true
  (runD (binD T_int .eql t23 (.int .i64 2)) h fun t55 h =>
    J3 (.bool true) t55 h)
  (J3 (.bool false) .und h))
  (fun t53 t55 h => runD (pickD t53 t55 (.bool false)) h fun t56 h =>
  joinW (fun (J4 : AV → AV → List AObj → Prop) =>
  guardW t56 true
  (runD (binD T_int .eql t24 (.int .i64 1)) h fun t59 h =>
    J4 (.bool true) t59 h)
  (J4 (.bool false) .und h))
  (fun t57 t59 h => runD (pickD t57 t59 (.bool false)) h fun t60 h =>
  joinW (fun (J5 : AV → AV → List AObj → Prop) =>
  guardW t60 true
  (runD (binD T_api_Errno .eql t25 (.int .i64 0)) h fun t63 h =>
    J5 (.bool true) t63 h)
  (J5 (.bool false) .und h))
  (fun t61 t63 h => runD (pickD t61 t63 (.bool false)) h fun t64 h =>
  joinW (fun (J6 : AV → AV → List AObj → Prop) =>
  guardW t64 true
  (runD (binD T_api_Errno .eql t31 (.int .i64 80)) h fun t67 h =>
    J6 (.bool true) t67 h)
  (J6 (.bool false) .und h))
  (fun t65 t67 h => runD (pickD t65 t67 (.bool false)) h fun t68 h =>
  joinW (fun (J7 : AV → AV → List AObj → Prop) =>
  guardW t68 true
  (runD (lenD T_sl_api_Micro h t34) h fun t71 h =>
    runD (binD T_int .eql t71 (.int .i64 2)) h fun t72 h =>
    J7 (.bool true) t72 h)
  (J7 (.bool false) .und h))
  (fun t69 t72 h => runD (pickD t69 t72 (.bool false)) h fun t73 h =>
  joinW (fun (J8 : AV → AV → List AObj → Prop) =>
  guardW t73 true
  (runD (indexAddrD T_sl_api_Micro h t34 (.int .i64 0)) h fun t76 h =>
    runD (fieldAddrD T_api_Micro t76 2) h fun t77 h =>
    runD (fitD T_int (loadD h t77)) h fun t78 h =>
    runD (binD T_int .eql t78 (.int .i64 4)) h fun t79 h =>
    J8 (.bool true) t79 h)
  (J8 (.bool false) .und h))
  (fun t74 t79 h => runD (pickD t74 t79 (.bool false)) h fun t80 h =>
  joinW (fun (J9 : AV → AV → List AObj → Prop) =>
  guardW t80 true
  (runD (binD T_api_Errno .eql t35 (.int .i64 0)) h fun t83 h =>
    J9 (.bool true) t83 h)
  (J9 (.bool false) .und h))
  (fun t81 t83 h => runD (pickD t81 t83 (.bool false)) h fun t84 h =>
  joinW (fun (J10 : AV → AV → List AObj → Prop) =>
  guardW t84 true
  (runD (binD T_api_Errno .eql t39 (.int .i64 1)) h fun t87 h =>
    J10 (.bool true) t87 h)
  (J10 (.bool false) .und h))
  (fun t85 t87 h => runD (pickD t85 t87 (.bool false)) h fun t88 h =>
  runD (pickD t88 (.bool true) (.bool false)) h fun t90 h =>
  K (.ret t90) h)))))))))))
  (fun v h => K (.pan v) h))
  (fun v h => K (.pan v) h))
  (fun v h => K (.pan v) h))
  (fun v h => K (.pan v) h))
  (fun v h => K (.pan v) h)
def super_Words.loops : Nat → LInfo
  | _ => ⟨[], [], []⟩
def super_Words.H (c : Ctx) (t0 : AV) (t1 : AV) (h : List AObj) (K : AOut → List AObj → Prop) : Prop :=
  callW c (.fn (.func 72) [] []) [t0, t1] h (fun t10 h =>
  boxW T_super_head T_super_head.zero h fun t6 h =>
  runH (storeH T_super_head h t6 t10) h fun _ h =>
  runD (fitD T_super_head (loadD h t6)) h fun t11 h =>
  callW c (.fn (.func 73) [] []) [t11] h (fun t12 h =>
  runD (unD .not t12) h fun t13 h =>
  condW t13
  (K (.ret (.tup [(.sl true (.ints .i64 [])), (.int .i64 1)])) h)
  (runD (makeSliceD T_sl_int (.int .i64 16) (.int .i64 16) h.length) h fun t14 h =>
  runD (fieldAddrD T_super_head t6 0) h fun t16 h =>
  runD (fitD T_int (loadD h t16)) h fun t17 h =>
  runD (fieldAddrD T_super_head t6 1) h fun t18 h =>
  runD (fitD T_int (loadD h t18)) h fun t19 h =>
  runD (fieldAddrD T_super_head t6 2) h fun t20 h =>
  runD (fitD T_int (loadD h t20)) h fun t21 h =>
  runD (fieldAddrD T_super_head t6 3) h fun t22 h =>
  runD (fitD T_int (loadD h t22)) h fun t23 h =>
  runD (buildSliceD T_sl_int 4 [(0, t17), (1, t19), (2, t21), (3, t23)] h.length) h fun t24 h =>
  runM (copyH T_sl_int h t14 t24) h fun t25 h =>
  K (.ret (.tup [t14, (.int .i64 0)])) h))
  (fun v h => K (.pan v) h))
  (fun v h => K (.pan v) h)
def lamplighterref08_Words.loops : Nat → LInfo
  | _ => ⟨[], [], []⟩
def lamplighterref08_Words.H (c : Ctx) (t0 : AV) (t1 : AV) (h : List AObj) (K : AOut → List AObj → Prop) : Prop :=
  callW c (.fn (.func 74) [] []) [t0, t1] h (fun t9 h =>
  runD (unD .not t9) h fun t10 h =>
  condW t10
  (K (.ret (.tup [(.sl true (.ints .i64 [])), (.int .i64 1)])) h)
  (runD (buildSliceD T_sl_int 2 [(0, (.int .i64 7015)), (1, t0)] h.length) h fun t12 h =>
  callW c (.fn (.func 75) [] []) [t12] h (fun t13 h =>
  runD (buildSliceD T_sl_int 16 [(0, (.int .i64 7015)), (1, t0), (2, t13), (3, t1), (4, (.int .i64 0)), (5, (.int .i64 0)), (6, (.int .i64 0)), (7, (.int .i64 0)), (8, (.int .i64 0)), (9, (.int .i64 0)), (10, (.int .i64 0)), (11, (.int .i64 0)), (12, (.int .i64 0)), (13, (.int .i64 0)), (14, (.int .i64 0)), (15, (.int .i64 0))] h.length) h fun t17 h =>
  K (.ret (.tup [t17, (.int .i64 0)])) h)
  (fun v h => K (.pan v) h)))
  (fun v h => K (.pan v) h)
def super_Read.loops : Nat → LInfo
  | 6 => ⟨[47], [false], [5, 45, 46]⟩
  | _ => ⟨[], [], []⟩
def super_Read.L1 (c : Ctx) (J1 : List AObj → Prop) (J4 : AV → List AObj → Prop) (K : AOut → List AObj → Prop) (lv : List AV) (h0 : List AObj) (n0 : Nat) (c5 : AV) (c45 : AV) (c46 : AV) : Prop :=
  ∃ I : Nat → List AV → List AObj → Prop, (∃ n, I n lv h0) ∧ ∀ n h, ∀ t47, I n [t47] h →
    runD (binD T_int .lss t47 c46) h fun t48 h =>
    condW t48
    (runD (indexAddrD T_sl_int h c45 t47) h fun t49 h =>
    runD (fitD T_int (loadD h t49)) h fun t50 h =>
    runD (binD T_int .neq t50 (.int .i64 0)) h fun t52 h =>
    condW t52
    (J1 h)
    (runD (binD T_int .add t47 (.int .i64 1)) h fun t53 h =>
    (∃ m, m < n ∧ I m (AV.norms n0 h [t53]) (normH n0 h)) ∧ AV.norms n0 h [c5, c45, c46] = [c5, c45, c46]))
    (J4 c5 h)
def super_Read.H (c : Ctx) (t0 : AV) (h : List AObj) (K : AOut → List AObj → Prop) : Prop :=
  joinW (fun (J1 : List AObj → Prop) =>
  boxW T_super_head T_super_head.zero h fun t5 h =>
  runD (lenD T_sl_int h t0) h fun t9 h =>
  runD (binD T_int .lss t9 (.int .i64 32)) h fun t10 h =>
  condW t10
  (J1 h)
  (runD (indexAddrD T_sl_int h t0 (.int .i64 0)) h fun t12 h =>
  runD (fitD T_int (loadD h t12)) h fun t13 h =>
  runD (indexAddrD T_sl_int h t0 (.int .i64 1)) h fun t15 h =>
  runD (fitD T_int (loadD h t15)) h fun t16 h =>
  runD (indexAddrD T_sl_int h t0 (.int .i64 2)) h fun t18 h =>
  runD (fitD T_int (loadD h t18)) h fun t19 h =>
  runD (indexAddrD T_sl_int h t0 (.int .i64 3)) h fun t21 h =>
  runD (fitD T_int (loadD h t21)) h fun t22 h =>
  runD (buildD T_super_head [(0, t13), (1, t16), (2, t19), (3, t22)]) h fun t23 h =>
  runH (storeH T_super_head h t5 t23) h fun _ h =>
  runD (fitD T_super_head (loadD h t5)) h fun t24 h =>
  runD (fieldAddrD T_super_head t5 1) h fun t25 h =>
  runD (fitD T_int (loadD h t25)) h fun t26 h =>
  runD (fieldAddrD T_super_head t5 3) h fun t27 h =>
  runD (fitD T_int (loadD h t27)) h fun t28 h =>
  callW c.noS (.fn (.func 72) [] []) [t26, t28] h (fun t29 h =>
  runD (binD T_super_head .neq t24 t29) h fun t30 h =>
  joinW (fun (J2 : AV → AV → List AObj → Prop) =>
  guardW t30 false
  (runD (fitD T_super_head (loadD h t5)) h fun t32 h =>
    callW c.noS (.fn (.func 73) [] []) [t32] h (fun t33 h =>
    runD (unD .not t33) h fun t34 h =>
    J2 (.bool false) t34 h)
    (fun _ _ => False))
  (J2 (.bool true) .und h))
  (fun t31 t34 h => runD (pickD t31 (.bool true) t34) h fun t35 h =>
  joinW (fun (J3 : AV → AV → List AObj → Prop) =>
  guardW t35 false
  (runD (fieldAddrD T_super_head t5 1) h fun t37 h =>
    runD (fitD T_int (loadD h t37)) h fun t38 h =>
    runD (lenD T_sl_int h t0) h fun t40 h =>
    runD (binD T_int .quo t40 (.int .i64 16)) h fun t41 h =>
    runD (binD T_int .neq t38 t41) h fun t42 h =>
    J3 (.bool false) t42 h)
  (J3 (.bool true) .und h))
  (fun t36 t42 h => runD (pickD t36 (.bool true) t42) h fun t43 h =>
  condW t43
  (J1 h)
  (runD (sliceD T_sl_int h t0 (some (.int .i64 4)) (some (.int .i64 16)) none) h fun t45 h =>
  runD (lenD T_sl_int h t45) h fun t46 h =>
  joinW (fun (J4 : AV → List AObj → Prop) =>
  promV [false] [(.int .i64 0)] h fun lv h => super_Read.L1 c J1 J4 K (AV.norms h.length h lv) (normH h.length h) h.length (AV.norm h.length h t5) (AV.norm h.length h t45) (AV.norm h.length h t46))
  (fun t5 h => runD (fieldAddrD T_super_head t5 1) h fun t54 h =>
  runD (fitD T_int (loadD h t54)) h fun t55 h =>
  runD (fieldAddrD T_super_head t5 3) h fun t56 h =>
  runD (fitD T_int (loadD h t56)) h fun t57 h =>
  K (.ret (.tup [t55, t57, (.int .i64 0)])) h)))))
  (fun _ _ => False)))
  (fun h => K (.ret (.tup [(.int .i64 0), (.int .i64 0), (.int .i64 80)])) h)
def lamplighterref08_Read.loops : Nat → LInfo
  | _ => ⟨[], [], []⟩
def lamplighterref08_Read.H (c : Ctx) (t0 : AV) (h : List AObj) (K : AOut → List AObj → Prop) : Prop :=
  runD (lenD T_sl_int h t0) h fun t8 h =>
  runD (binD T_int .lss t8 (.int .i64 32)) h fun t9 h =>
  condW t9
  (K (.ret (.tup [(.int .i64 0), (.int .i64 0), (.int .i64 80)])) h)
  (runD (indexAddrD T_sl_int h t0 (.int .i64 1)) h fun t12 h =>
  runD (fitD T_int (loadD h t12)) h fun t13 h =>
  runD (indexAddrD T_sl_int h t0 (.int .i64 3)) h fun t15 h =>
  runD (fitD T_int (loadD h t15)) h fun t16 h =>
  callW c.noS (.fn (.func 17) [] []) [t13, t16] h (fun t17 h =>
  runD (extractD t17 0) h fun t18 h =>
  runD (extractD t17 1) h fun t19 h =>
  runD (binD T_api_Errno .neq t19 (.int .i64 0)) h fun t21 h =>
  joinW (fun (J1 : AV → AV → List AObj → Prop) =>
  guardW t21 false
  (runD (indexAddrD T_sl_int h t0 (.int .i64 1)) h fun t24 h =>
    runD (fitD T_int (loadD h t24)) h fun t25 h =>
    runD (lenD T_sl_int h t0) h fun t27 h =>
    runD (binD T_int .quo t27 (.int .i64 16)) h fun t28 h =>
    runD (binD T_int .neq t25 t28) h fun t29 h =>
    J1 (.bool false) t29 h)
  (J1 (.bool true) .und h))
  (fun t22 t29 h => runD (pickD t22 (.bool true) t29) h fun t30 h =>
  joinW (fun (J2 : AV → AV → List AObj → Prop) =>
  guardW t30 false
  (runD (sliceD T_sl_int h t0 none (some (.int .i64 16)) none) h fun t34 h =>
    callW c (.fn (.func 22) [] []) [t18, t34] h (fun t35 h =>
    runD (unD .not t35) h fun t36 h =>
    J2 (.bool false) t36 h)
    (fun v h => K (.pan v) h))
  (J2 (.bool true) .und h))
  (fun t31 t36 h => runD (pickD t31 (.bool true) t36) h fun t37 h =>
  condW t37
  (K (.ret (.tup [(.int .i64 0), (.int .i64 0), (.int .i64 80)])) h)
  (runD (indexAddrD T_sl_int h t0 (.int .i64 1)) h fun t39 h =>
  runD (fitD T_int (loadD h t39)) h fun t40 h =>
  runD (indexAddrD T_sl_int h t0 (.int .i64 3)) h fun t42 h =>
  runD (fitD T_int (loadD h t42)) h fun t43 h =>
  K (.ret (.tup [t40, t43, (.int .i64 0)])) h))))
  (fun _ _ => False))
def super_Root.loops : Nat → LInfo
  | _ => ⟨[], [], []⟩
def super_Root.H (c : Ctx) (t0 : AV) (t1 : AV) (h : List AObj) (K : AOut → List AObj → Prop) : Prop :=
  runD (buildD T_api_Micro [(0, (.int .i64 1)), (1, (.int .i64 3)), (2, t1)]) h fun t8 h =>
  runD (buildD T_api_Micro [(0, (.int .i64 2))]) h fun t9 h =>
  runD (buildSliceD T_sl_api_Micro 2 [(0, t8), (1, t9)] h.length) h fun t10 h =>
  callW c (.fn (.func 72) [] []) [t0, t1] h (fun t13 h =>
  callW c (.fn (.func 73) [] []) [t13] h (fun t14 h =>
  runD (unD .not t14) h fun t15 h =>
  joinW (fun (J1 : AV → AV → List AObj → Prop) =>
  guardW t15 false
  (callW c (.fn (.func 70) [] []) [t10, (.int .i64 16)] h (fun t18 h =>
    runD (unD .not t18) h fun t19 h =>
    J1 (.bool false) t19 h)
    (fun v h => K (.pan v) h))
  (J1 (.bool true) .und h))
  (fun t16 t19 h => runD (pickD t16 (.bool true) t19) h fun t20 h =>
  condW t20
  (K (.ret (.tup [(.sl true (.mics [])), (.int .i64 1)])) h)
  (K (.ret (.tup [t10, (.int .i64 0)])) h)))
  (fun v h => K (.pan v) h))
  (fun v h => K (.pan v) h)
def lamplighterref08_Root.loops : Nat → LInfo
  | _ => ⟨[], [], []⟩
def lamplighterref08_Root.H (c : Ctx) (t0 : AV) (t1 : AV) (h : List AObj) (K : AOut → List AObj → Prop) : Prop :=
  callW c (.fn (.func 74) [] []) [t0, t1] h (fun t8 h =>
  runD (unD .not t8) h fun t9 h =>
  condW t9
  (K (.ret (.tup [(.sl true (.mics [])), (.int .i64 1)])) h)
  (runD (buildD T_api_Micro [(0, (.int .i64 1)), (1, (.int .i64 3)), (2, t1)]) h fun t11 h =>
  runD (buildD T_api_Micro [(0, (.int .i64 2))]) h fun t12 h =>
  runD (buildSliceD T_sl_api_Micro 2 [(0, t11), (1, t12)] h.length) h fun t13 h =>
  K (.ret (.tup [t13, (.int .i64 0)])) h))
  (fun v h => K (.pan v) h)
def lamplighterref02_Numbers.loops : Nat → LInfo
  | 4 => ⟨[5], [false], [0, 1]⟩
  | _ => ⟨[], [], []⟩
def lamplighterref02_Numbers.L1 (c : Ctx) (J1 : List AObj → Prop) (K : AOut → List AObj → Prop) (lv : List AV) (h0 : List AObj) (n0 : Nat) (c0 : AV) (c1 : AV) : Prop :=
  ∃ I : Nat → List AV → List AObj → Prop, (∃ n, I n lv h0) ∧ ∀ n h, ∀ t5, I n [t5] h →
    runD (lenD T_sl_int h c0) h fun t13 h =>
    runD (binD T_int .lss t5 t13) h fun t14 h =>
    condW t14
    (runD (indexAddrD T_sl_int h c0 t5) h fun t19 h =>
    runD (fitD T_int (loadD h t19)) h fun t20 h =>
    runD (indexAddrD T_sl_int h c1 t5) h fun t23 h =>
    runD (fitD T_int (loadD h t23)) h fun t24 h =>
    runD (binD T_int .neq t20 t24) h fun t25 h =>
    condW t25
    (K (.ret (.bool false)) h)
    (runD (binD T_int .add t5 (.int .i64 1)) h fun t16 h =>
    (∃ m, m < n ∧ I m (AV.norms n0 h [t16]) (normH n0 h)) ∧ AV.norms n0 h [c0, c1] = [c0, c1]))
    (J1 h)
def lamplighterref02_Numbers.H (c : Ctx) (t0 : AV) (t1 : AV) (h : List AObj) (K : AOut → List AObj → Prop) : Prop :=
  runD (lenD T_sl_int h t0) h fun t7 h =>
  runD (lenD T_sl_int h t1) h fun t9 h =>
  runD (binD T_int .neq t7 t9) h fun t10 h =>
  condW t10
  (K (.ret (.bool false)) h)
  (joinW (fun (J1 : List AObj → Prop) =>
  promV [false] [(.int .i64 0)] h fun lv h => lamplighterref02_Numbers.L1 c J1 K (AV.norms h.length h lv) (normH h.length h) h.length (AV.norm h.length h t0) (AV.norm h.length h t1))
  (fun h => K (.ret (.bool true)) h))
def lamplighterref05_Same.loops : Nat → LInfo
  | 4 => ⟨[5], [false], [0, 1]⟩
  | _ => ⟨[], [], []⟩
def lamplighterref05_Same.L1 (c : Ctx) (J1 : List AObj → Prop) (K : AOut → List AObj → Prop) (lv : List AV) (h0 : List AObj) (n0 : Nat) (c0 : AV) (c1 : AV) : Prop :=
  ∃ I : Nat → List AV → List AObj → Prop, (∃ n, I n lv h0) ∧ ∀ n h, ∀ t5, I n [t5] h →
    runD (lenD T_sl_api_Micro h c0) h fun t13 h =>
    runD (binD T_int .lss t5 t13) h fun t14 h =>
    condW t14
    (runD (indexAddrD T_sl_api_Micro h c0 t5) h fun t19 h =>
    runD (fitD T_api_Micro (loadD h t19)) h fun t20 h =>
    runD (indexAddrD T_sl_api_Micro h c1 t5) h fun t23 h =>
    runD (fitD T_api_Micro (loadD h t23)) h fun t24 h =>
    runD (binD T_api_Micro .neq t20 t24) h fun t25 h =>
    condW t25
    (K (.ret (.bool false)) h)
    (runD (binD T_int .add t5 (.int .i64 1)) h fun t16 h =>
    (∃ m, m < n ∧ I m (AV.norms n0 h [t16]) (normH n0 h)) ∧ AV.norms n0 h [c0, c1] = [c0, c1]))
    (J1 h)
def lamplighterref05_Same.H (c : Ctx) (t0 : AV) (t1 : AV) (h : List AObj) (K : AOut → List AObj → Prop) : Prop :=
  runD (lenD T_sl_api_Micro h t0) h fun t7 h =>
  runD (lenD T_sl_api_Micro h t1) h fun t9 h =>
  runD (binD T_int .neq t7 t9) h fun t10 h =>
  condW t10
  (K (.ret (.bool false)) h)
  (joinW (fun (J1 : List AObj → Prop) =>
  promV [false] [(.int .i64 0)] h fun lv h => lamplighterref05_Same.L1 c J1 K (AV.norms h.length h lv) (normH h.length h) h.length (AV.norm h.length h t0) (AV.norm h.length h t1))
  (fun h => K (.ret (.bool true)) h))
def super_of.loops : Nat → LInfo
  | _ => ⟨[], [], []⟩
def super_of.H (c : Ctx) (t0 : AV) (t1 : AV) (h : List AObj) (K : AOut → List AObj → Prop) : Prop :=
  boxW T_super_head T_super_head.zero h fun t4 h =>
  runD (buildSliceD T_sl_int 2 [(0, (.int .i64 7015)), (1, t0)] h.length) h fun t7 h =>
  callW c (.fn (.func 116) [] []) [t7] h (fun t8 h =>
  runD (buildD T_super_head [(0, (.int .i64 7015)), (1, t0), (2, t8), (3, t1)]) h fun t10 h =>
  runH (storeH T_super_head h t4 t10) h fun _ h =>
  loadRes (fitD T_super_head (loadD h t4)) fun r0 => K (.ret r0) h)
  (fun v h => K (.pan v) h)
def super_head_may.loops : Nat → LInfo
  | _ => ⟨[], [], []⟩
def super_head_may.H (c : Ctx) (t0 : AV) (h : List AObj) (K : AOut → List AObj → Prop) : Prop :=
  boxW T_super_head t0 h fun t1 h =>
  runD (fieldAddrD T_super_head t1 1) h fun t3 h =>
  runD (fitD T_int (loadD h t3)) h fun t4 h =>
  runD (binD T_int .geq t4 (.int .i64 2)) h fun t5 h =>
  joinW (fun (J1 : AV → AV → List AObj → Prop) =>
  guardW t5 true
  (runD (fieldAddrD T_super_head t1 1) h fun t7 h =>
    runD (fitD T_int (loadD h t7)) h fun t8 h =>
    runD (binD T_int .leq t8 (.int .i64 256)) h fun t9 h =>
    J1 (.bool true) t9 h)
  (J1 (.bool false) .und h))
  (fun t6 t9 h => runD (pickD t6 t9 (.bool false)) h fun t10 h =>
  joinW (fun (J2 : AV → AV → List AObj → Prop) =>
  guardW t10 true
  (runD (fieldAddrD T_super_head t1 3) h fun t12 h =>
    runD (fitD T_int (loadD h t12)) h fun t13 h =>
    runD (binD T_int .geq t13 (.int .i64 1)) h fun t14 h =>
    J2 (.bool true) t14 h)
  (J2 (.bool false) .und h))
  (fun t11 t14 h => runD (pickD t11 t14 (.bool false)) h fun t15 h =>
  joinW (fun (J3 : AV → AV → List AObj → Prop) =>
  guardW t15 true
  (runD (fieldAddrD T_super_head t1 3) h fun t17 h =>
    runD (fitD T_int (loadD h t17)) h fun t18 h =>
    runD (fieldAddrD T_super_head t1 1) h fun t19 h =>
    runD (fitD T_int (loadD h t19)) h fun t20 h =>
    runD (binD T_int .lss t18 t20) h fun t21 h =>
    J3 (.bool true) t21 h)
  (J3 (.bool false) .und h))
  (fun t16 t21 h => runD (pickD t16 t21 (.bool false)) h fun t22 h =>
  K (.ret t22) h)))
def lamplighterref08_may.loops : Nat → LInfo
  | _ => ⟨[], [], []⟩
def lamplighterref08_may.H (c : Ctx) (t0 : AV) (t1 : AV) (h : List AObj) (K : AOut → List AObj → Prop) : Prop :=
  runD (binD T_int .geq t0 (.int .i64 2)) h fun t6 h =>
  joinW (fun (J1 : AV → AV → List AObj → Prop) =>
  guardW t6 true
  (runD (binD T_int .leq t0 (.int .i64 256)) h fun t9 h =>
    J1 (.bool true) t9 h)
  (J1 (.bool false) .und h))
  (fun t7 t9 h => runD (pickD t7 t9 (.bool false)) h fun t10 h =>
  joinW (fun (J2 : AV → AV → List AObj → Prop) =>
  guardW t10 true
  (runD (binD T_int .geq t1 (.int .i64 1)) h fun t13 h =>
    J2 (.bool true) t13 h)
  (J2 (.bool false) .und h))
  (fun t11 t13 h => runD (pickD t11 t13 (.bool false)) h fun t14 h =>
  joinW (fun (J3 : AV → AV → List AObj → Prop) =>
  guardW t14 true
  (runD (binD T_int .lss t1 t0) h fun t18 h =>
    J3 (.bool true) t18 h)
  (J3 (.bool false) .und h))
  (fun t15 t18 h => runD (pickD t15 t18 (.bool false)) h fun t19 h =>
  K (.ret t19) h)))
def lamplighterref03_Of.loops : Nat → LInfo
  | 3 => ⟨[3, 4], [false, false], [0]⟩
  | _ => ⟨[], [], []⟩
def lamplighterref03_Of.L1 (c : Ctx) (J1 : AV → List AObj → Prop) (K : AOut → List AObj → Prop) (lv : List AV) (h0 : List AObj) (n0 : Nat) (c0 : AV) : Prop :=
  ∃ I : Nat → List AV → List AObj → Prop, (∃ n, I n lv h0) ∧ ∀ n h, ∀ t3, ∀ t4, I n [t3, t4] h →
    runD (lenD T_sl_int h c0) h fun t7 h =>
    runD (binD T_int .lss t4 t7) h fun t8 h =>
    condW t8
    (runD (indexAddrD T_sl_int h c0 t4) h fun t14 h =>
    runD (fitD T_int (loadD h t14)) h fun t15 h =>
    callW c (.fn (.func 117) [] []) [t3, t15] h (fun t16 h =>
    runD (binD T_int .add t4 (.int .i64 1)) h fun t10 h =>
    (∃ m, m < n ∧ I m (AV.norms n0 h [t16, t10]) (normH n0 h)) ∧ AV.norms n0 h [c0] = [c0])
    (fun v h => K (.pan v) h))
    (J1 t3 h)
def lamplighterref03_Of.H (c : Ctx) (t0 : AV) (h : List AObj) (K : AOut → List AObj → Prop) : Prop :=
  joinW (fun (J1 : AV → List AObj → Prop) =>
  promV [false, false] [(.int .u32 4294967295), (.int .i64 0)] h fun lv h => lamplighterref03_Of.L1 c J1 K (AV.norms h.length h lv) (normH h.length h) h.length (AV.norm h.length h t0))
  (fun t3 h => runD (binD T_uint32 .sub (.int .u32 4294967295) t3) h fun t18 h =>
  runD (convD h T_uint32 T_int t18) h fun t19 h =>
  K (.ret t19) h)
def lamplighterref03_Word.loops : Nat → LInfo
  | 4 => ⟨[5, 6, 7], [false, false, false], [0]⟩
  | 9 => ⟨[0, 8], [false, false], [6]⟩
  | _ => ⟨[], [], []⟩
def lamplighterref03_Word.L1 (c : Ctx) (J1 : AV → AV → List AObj → Prop) (K : AOut → List AObj → Prop) (lv : List AV) (h0 : List AObj) (n0 : Nat) (c0 : AV) : Prop :=
  ∃ I : Nat → List AV → List AObj → Prop, (∃ n, I n lv h0) ∧ ∀ n h, ∀ t5, ∀ t6, ∀ t7, I n [t5, t6, t7] h →
    runD (binD T_int .lss t7 (.int .i64 8)) h fun t12 h =>
    condW t12
    (runD (binD T_uint64 .rem t5 (.int .u64 256)) h fun t16 h =>
    runD (convD h T_uint64 T_uint8 t16) h fun t17 h =>
    runD (buildSliceD T_sl_uint8 1 [(0, t17)] h.length) h fun t18 h =>
    runDM (appendD T_sl_uint8 h t18 t6 h.length) (appendH T_sl_uint8 h t18 t6) h fun t20 h =>
    runD (binD T_uint64 .quo t5 (.int .u64 256)) h fun t22 h =>
    runD (binD T_int .add t7 (.int .i64 1)) h fun t14 h =>
    (∃ m, m < n ∧ I m (AV.norms n0 h [t22, t20, t14]) (normH n0 h)) ∧ AV.norms n0 h [c0] = [c0])
    (J1 c0 t6 h)
def lamplighterref03_Word.L2 (c : Ctx) (J2 : AV → List AObj → Prop) (K : AOut → List AObj → Prop) (lv : List AV) (h0 : List AObj) (n0 : Nat) (c6 : AV) : Prop :=
  ∃ I : Nat → List AV → List AObj → Prop, (∃ n, I n lv h0) ∧ ∀ n h, ∀ t0, ∀ t8, I n [t0, t8] h →
    runD (binD T_int .lss t8 (.int .i64 8)) h fun t24 h =>
    condW t24
    (runD (indexAddrD T_sl_uint8 h c6 t8) h fun t30 h =>
    runD (fitD T_uint8 (loadD h t30)) h fun t31 h =>
    callW c (.fn (.func 134) [] []) [t0, t31] h (fun t32 h =>
    runD (binD T_int .add t8 (.int .i64 1)) h fun t26 h =>
    (∃ m, m < n ∧ I m (AV.norms n0 h [t32, t26]) (normH n0 h)) ∧ AV.norms n0 h [c6] = [c6])
    (fun v h => K (.pan v) h))
    (J2 t0 h)
def lamplighterref03_Word.H (c : Ctx) (t0 : AV) (t1 : AV) (h : List AObj) (K : AOut → List AObj → Prop) : Prop :=
  runD (convD h T_int T_uint64 t1) h fun t10 h =>
  joinW (fun (J1 : AV → AV → List AObj → Prop) =>
  promV [false, false, false] [t10, (.sl true (.ints .u8 [])), (.int .i64 0)] h fun lv h => lamplighterref03_Word.L1 c J1 K (AV.norms h.length h lv) (normH h.length h) h.length (AV.norm h.length h t0))
  (fun t0 t6 h => joinW (fun (J2 : AV → List AObj → Prop) =>
  promV [false, false] [t0, (.int .i64 0)] h fun lv h => lamplighterref03_Word.L2 c J2 K (AV.norms h.length h lv) (normH h.length h) h.length (AV.norm h.length h t6))
  (fun t0 h => K (.ret t0) h))
def sum_Of.loops : Nat → LInfo
  | 4 => ⟨[4, 10], [false, false], [3, 8, 9]⟩
  | _ => ⟨[], [], []⟩
def sum_Of.L1 (c : Ctx) (J1 : AV → List AObj → Prop) (K : AOut → List AObj → Prop) (lv : List AV) (h0 : List AObj) (n0 : Nat) (c3 : AV) (c8 : AV) (c9 : AV) : Prop :=
  ∃ I : Nat → List AV → List AObj → Prop, (∃ n, I n lv h0) ∧ ∀ n h, ∀ t4, ∀ t10, I n [t4, t10] h →
    runD (binD T_int .lss t10 c9) h fun t11 h =>
    condW t11
    (runD (indexAddrD T_sl_int h c8 t10) h fun t12 h =>
    runD (fitD T_int (loadD h t12)) h fun t13 h =>
    callW c (.fn (.func 133) [] []) [c3, t4, t13] h (fun t16 h =>
    runD (binD T_int .add t10 (.int .i64 1)) h fun t17 h =>
    (∃ m, m < n ∧ I m (AV.norms n0 h [t16, t17]) (normH n0 h)) ∧ AV.norms n0 h [c3, c8, c9] = [c3, c8, c9])
    (fun v h => K (.pan v) h))
    (J1 t4 h)
def sum_Of.H (c : Ctx) (t0 : AV) (h : List AObj) (K : AOut → List AObj → Prop) : Prop :=
  callW c (.fn (.func 132) [] []) [] h (fun t7 h =>
  boxW T_256_uint32 T_256_uint32.zero h fun t3 h =>
  runH (storeH T_256_uint32 h t3 t7) h fun _ h =>
  runD (lenD T_sl_int h t0) h fun t9 h =>
  joinW (fun (J1 : AV → List AObj → Prop) =>
  promV [false, false] [(.int .u32 4294967295), (.int .i64 0)] h fun lv h => sum_Of.L1 c J1 K (AV.norms h.length h lv) (normH h.length h) h.length (AV.norm h.length h t3) (AV.norm h.length h t0) (AV.norm h.length h t9))
  (fun t4 h => runD (unD .xor t4) h fun t19 h =>
  runD (convD h T_uint32 T_int t19) h fun t20 h =>
  K (.ret t20) h))
  (fun v h => K (.pan v) h)
def sum_table.loops : Nat → LInfo
  | 2 => ⟨[3], [false], [0]⟩
  | 6 => ⟨[2, 8], [false, false], [0, 1, 3]⟩
  | _ => ⟨[], [], []⟩
def sum_table.L2 (c : Ctx) (J3 : AV → AV → AV → AV → List AObj → Prop) (K : AOut → List AObj → Prop) (lv : List AV) (h0 : List AObj) (n0 : Nat) (c0 : AV) (c1 : AV) (c3 : AV) : Prop :=
  ∃ I : Nat → List AV → List AObj → Prop, (∃ n, I n lv h0) ∧ ∀ n h, ∀ t2, ∀ t8, I n [t2, t8] h →
    runD (binD T_int .lss t8 (.int .i64 8)) h fun t9 h =>
    condW t9
    (runD (binD T_uint32 .shr t2 (.int .u64 1)) h fun t11 h =>
    runD (binD T_uint32 .and t2 (.int .u32 1)) h fun t13 h =>
    runD (unD .neg t13) h fun t14 h =>
    runD (binD T_uint32 .and (.int .u32 3988292384) t14) h fun t15 h =>
    runD (binD T_uint32 .xor t11 t15) h fun t16 h =>
    runD (binD T_int .add t8 (.int .i64 1)) h fun t17 h =>
    (∃ m, m < n ∧ I m (AV.norms n0 h [t16, t17]) (normH n0 h)) ∧ AV.norms n0 h [c0, c1, c3] = [c0, c1, c3])
    (J3 c0 c1 t2 c3 h)
def sum_table.L1 (c : Ctx) (J1 : AV → List AObj → Prop) (K : AOut → List AObj → Prop) (lv : List AV) (h0 : List AObj) (n0 : Nat) (c0 : AV) : Prop :=
  ∃ I : Nat → List AV → List AObj → Prop, (∃ n, I n lv h0) ∧ ∀ n h, ∀ t3, I n [t3] h →
    runD (binD T_int .lss t3 (.int .i64 256)) h fun t4 h =>
    condW t4
    (joinW (fun (J2 : AV → AV → List AObj → Prop) =>
    runD (convD h T_int T_uint32 t3) h fun t7 h =>
    joinW (fun (J3 : AV → AV → AV → AV → List AObj → Prop) =>
    promV [false, false] [t7, (.int .i64 0)] h fun lv h => sum_table.L2 c J3 K (AV.norms h.length h lv) (normH h.length h) h.length (AV.norm h.length h c0) (AV.norm h.length h t3) (AV.norm h.length h t3))
    (fun t0 t1 t2 t3 h => runD (indexAddrD T_256_uint32 h t0 t1) h fun t20 h =>
    runH (storeH T_uint32 h t20 t2) h fun _ h =>
    J2 t0 t3 h))
    (fun t0 t3 h => runD (binD T_int .add t3 (.int .i64 1)) h fun t21 h =>
    (∃ m, m < n ∧ I m (AV.norms n0 h [t21]) (normH n0 h)) ∧ AV.norms n0 h [t0] = [c0]))
    (J1 c0 h)
def sum_table.H (c : Ctx) (h : List AObj) (K : AOut → List AObj → Prop) : Prop :=
  boxW T_256_uint32 T_256_uint32.zero h fun t0 h =>
  joinW (fun (J1 : AV → List AObj → Prop) =>
  promV [false] [(.int .i64 0)] h fun lv h => sum_table.L1 c J1 K (AV.norms h.length h lv) (normH h.length h) h.length (AV.norm h.length h t0))
  (fun t0 h => runD (fitD T_256_uint32 (loadD h t0)) h fun t22 h =>
  runH (storeH T_256_uint32 h t0 t22) h fun _ h =>
  loadRes (fitD T_256_uint32 (loadD h t0)) fun r0 => K (.ret r0) h)
def sum_word.loops : Nat → LInfo
  | 2 => ⟨[1, 7], [false, false], [0, 2]⟩
  | _ => ⟨[], [], []⟩
def sum_word.L1 (c : Ctx) (J1 : AV → List AObj → Prop) (K : AOut → List AObj → Prop) (lv : List AV) (h0 : List AObj) (n0 : Nat) (c0 : AV) (c2 : AV) : Prop :=
  ∃ I : Nat → List AV → List AObj → Prop, (∃ n, I n lv h0) ∧ ∀ n h, ∀ t1, ∀ t7, I n [t1, t7] h →
    runD (binD T_int .geq t7 (.int .i64 0)) h fun t9 h =>
    condW t9
    (runD (convD h T_int T_uint64 c2) h fun t15 h =>
    runD (binD T_uint64 .shr t15 t7) h fun t17 h =>
    runD (convD h T_uint64 T_uint8 t17) h fun t18 h =>
    callW c (.fn (.func 138) [] []) [c0, t1, t18] h (fun t19 h =>
    runD (binD T_int .sub t7 (.int .i64 8)) h fun t11 h =>
    (∃ m, m < n ∧ I m (AV.norms n0 h [t19, t11]) (normH n0 h)) ∧ AV.norms n0 h [c0, c2] = [c0, c2])
    (fun v h => K (.pan v) h))
    (J1 t1 h)
def sum_word.H (c : Ctx) (t0 : AV) (t1 : AV) (t2 : AV) (h : List AObj) (K : AOut → List AObj → Prop) : Prop :=
  joinW (fun (J1 : AV → List AObj → Prop) =>
  promV [false, false] [t1, (.int .i64 56)] h fun lv h => sum_word.L1 c J1 K (AV.norms h.length h lv) (normH h.length h) h.length (AV.norm h.length h t0) (AV.norm h.length h t2))
  (fun t1 h => K (.ret t1) h)
def lamplighterref03_Byte.loops : Nat → LInfo
  | 3 => ⟨[0, 5], [false, false], []⟩
  | _ => ⟨[], [], []⟩
def lamplighterref03_Byte.L1 (c : Ctx) (J1 : AV → List AObj → Prop) (K : AOut → List AObj → Prop) (lv : List AV) (h0 : List AObj) (n0 : Nat) : Prop :=
  ∃ I : Nat → List AV → List AObj → Prop, (∃ n, I n lv h0) ∧ ∀ n h, ∀ t0, ∀ t5, I n [t0, t5] h →
    runD (binD T_int .lss t5 (.int .i64 8)) h fun t11 h =>
    condW t11
    (callW c (.fn (.func 140) [] []) [t0] h (fun t15 h =>
    runD (binD T_int .add t5 (.int .i64 1)) h fun t13 h =>
    (∃ m, m < n ∧ I m (AV.norms n0 h [t15, t13]) (normH n0 h)) ∧ AV.norms n0 h [] = [])
    (fun v h => K (.pan v) h))
    (J1 t0 h)
def lamplighterref03_Byte.H (c : Ctx) (t0 : AV) (t1 : AV) (h : List AObj) (K : AOut → List AObj → Prop) : Prop :=
  runD (convD h T_uint8 T_uint32 t1) h fun t8 h =>
  callW c (.fn (.func 139) [] []) [t0, t8] h (fun t9 h =>
  joinW (fun (J1 : AV → List AObj → Prop) =>
  promV [false, false] [t9, (.int .i64 0)] h fun lv h => lamplighterref03_Byte.L1 c J1 K (AV.norms h.length h lv) (normH h.length h) h.length)
  (fun t0 h => K (.ret t0) h))
  (fun v h => K (.pan v) h)
def sum_with.loops : Nat → LInfo
  | _ => ⟨[], [], []⟩
def sum_with.H (c : Ctx) (t0 : AV) (t1 : AV) (t2 : AV) (h : List AObj) (K : AOut → List AObj → Prop) : Prop :=
  runD (binD T_uint32 .shr t1 (.int .u64 8)) h fun t8 h =>
  runD (convD h T_uint32 T_uint8 t1) h fun t11 h =>
  runD (binD T_uint8 .xor t11 t2) h fun t13 h =>
  runD (nilCheckD t0) h fun t14 h =>
  runD (indexAddrD T_256_uint32 h t14 t13) h fun t15 h =>
  runD (fitD T_uint32 (loadD h t15)) h fun t16 h =>
  runD (binD T_uint32 .xor t8 t16) h fun t17 h =>
  K (.ret t17) h
def lamplighterref03_turn.loops : Nat → LInfo
  | _ => ⟨[], [], []⟩
def lamplighterref03_turn.H (c : Ctx) (t0 : AV) (t1 : AV) (h : List AObj) (K : AOut → List AObj → Prop) : Prop :=
  runD (binD T_uint32 .or t0 t1) h fun t7 h =>
  runD (binD T_uint32 .and t0 t1) h fun t10 h =>
  runD (binD T_uint32 .sub t7 t10) h fun t11 h =>
  K (.ret t11) h
def lamplighterref03_move.loops : Nat → LInfo
  | _ => ⟨[], [], []⟩
def lamplighterref03_move.H (c : Ctx) (t0 : AV) (h : List AObj) (K : AOut → List AObj → Prop) : Prop :=
  runD (binD T_uint32 .rem t0 (.int .u32 2)) h fun t4 h =>
  runD (binD T_uint32 .eql t4 (.int .u32 1)) h fun t5 h =>
  condW t5
  (runD (binD T_uint32 .quo t0 (.int .u32 2)) h fun t7 h =>
    callW c (.fn (.func 139) [] []) [t7, (.int .u32 3988292384)] h (fun t8 h =>
    K (.ret t8) h)
    (fun v h => K (.pan v) h))
  (runD (binD T_uint32 .quo t0 (.int .u32 2)) h fun t10 h =>
  K (.ret t10) h)
def micro_Check.loops : Nat → LInfo
  | _ => ⟨[], [], []⟩
def micro_Check.H (c : Ctx) (t0 : AV) (t1 : AV) (h : List AObj) (K : AOut → List AObj → Prop) : Prop :=
  boxW T_int t1 h fun t3 h =>
  runD (fitD T_int (loadD h t3)) h fun t6 h =>
  runD (binD T_int .geq t6 (.int .i64 0)) h fun t7 h =>
  joinW (fun (J1 : AV → AV → List AObj → Prop) =>
  guardW t7 true
  (runD (fitD T_int (loadD h t3)) h fun t9 h =>
    runD (binD T_int .leq t9 (.int .i64 4096)) h fun t10 h =>
    J1 (.bool true) t10 h)
  (J1 (.bool false) .und h))
  (fun t8 t10 h => runD (pickD t8 t10 (.bool false)) h fun t11 h =>
  joinW (fun (J2 : AV → AV → List AObj → Prop) =>
  guardW t11 true
  (runD (fitD T_int (loadD h t3)) h fun t13 h =>
    runD (binD T_int .rem t13 (.int .i64 8)) h fun t14 h =>
    runD (binD T_int .eql t14 (.int .i64 0)) h fun t15 h =>
    J2 (.bool true) t15 h)
  (J2 (.bool false) .und h))
  (fun t12 t15 h => runD (pickD t12 t15 (.bool false)) h fun t16 h =>
  joinW (fun (J3 : AV → AV → List AObj → Prop) =>
  guardW t16 true
  (callW c (.fn (.func 113) [] []) [t0, (.fn (.func 114) [] [t3])] h (fun t21 h =>
    runD (unD .not t21) h fun t22 h =>
    J3 (.bool true) t22 h)
    (fun v h => K (.pan v) h))
  (J3 (.bool false) .und h))
  (fun t18 t22 h => runD (pickD t18 t22 (.bool false)) h fun t23 h =>
  K (.ret t23) h)))
def slices_ContainsFunc_sl_api_Micro_api_Micro.loops : Nat → LInfo
  | _ => ⟨[], [], []⟩
def slices_ContainsFunc_sl_api_Micro_api_Micro.H (c : Ctx) (t0 : AV) (t1 : AV) (h : List AObj) (K : AOut → List AObj → Prop) : Prop :=
  callW c (.fn (.func 131) [] []) [t0, t1] h (fun t7 h =>
  runD (binD T_int .geq t7 (.int .i64 0)) h fun t8 h =>
  K (.ret t8) h)
  (fun v h => K (.pan v) h)
def micro_Check_1.loops : Nat → LInfo
  | _ => ⟨[], [], []⟩
def micro_Check_1.H (c : Ctx) (t0 : AV) (t1 : AV) (h : List AObj) (K : AOut → List AObj → Prop) : Prop :=
  boxW T_api_Micro t0 h fun t2 h =>
  runD (fitD T_api_Micro (loadD h t2)) h fun t4 h =>
  runD (fitD T_int (loadD h t1)) h fun t5 h =>
  callW c (.fn (.func 115) [] []) [t4, t5] h (fun t6 h =>
  runD (unD .not t6) h fun t7 h =>
  K (.ret t7) h)
  (fun v h => K (.pan v) h)
def micro_may.loops : Nat → LInfo
  | _ => ⟨[], [], []⟩
def micro_may.H (c : Ctx) (t0 : AV) (t1 : AV) (h : List AObj) (K : AOut → List AObj → Prop) : Prop :=
  boxW T_api_Micro t0 h fun t2 h =>
  runD (makeMapD T_map_int_int h.length) h fun t6 h =>
  runH (mapSetH T_map_int_int h t6 (.int .i64 1) t1) h fun _ h =>
  runD (binD T_int .quo t1 (.int .i64 8)) h fun t9 h =>
  runH (mapSetH T_map_int_int h t6 (.int .i64 2) t9) h fun _ h =>
  runD (fieldAddrD T_api_Micro t2 1) h fun t11 h =>
  runD (fitD T_int (loadD h t11)) h fun t12 h =>
  runD (binD T_int .geq t12 (.int .i64 0)) h fun t13 h =>
  joinW (fun (J1 : AV → AV → List AObj → Prop) =>
  guardW t13 true
  (runD (fieldAddrD T_api_Micro t2 1) h fun t15 h =>
    runD (fitD T_int (loadD h t15)) h fun t16 h =>
    runD (fieldAddrD T_api_Micro t2 0) h fun t18 h =>
    runD (fitD T_int (loadD h t18)) h fun t19 h =>
    runD (lookupD T_map_int_int h t6 t19) h fun t20 h =>
    runD (binD T_int .lss t16 t20) h fun t21 h =>
    J1 (.bool true) t21 h)
  (J1 (.bool false) .und h))
  (fun t14 t21 h => runD (pickD t14 t21 (.bool false)) h fun t22 h =>
  joinW (fun (J2 : AV → AV → List AObj → Prop) =>
  guardW t22 true
  (runD (fieldAddrD T_api_Micro t2 0) h fun t24 h =>
    runD (fitD T_int (loadD h t24)) h fun t25 h =>
    runD (binD T_int .eql t25 (.int .i64 1)) h fun t26 h =>
    joinW (fun (J3 : AV → AV → List AObj → Prop) =>
    guardW t26 false
    (runD (fieldAddrD T_api_Micro t2 2) h fun t28 h =>
      runD (fitD T_int (loadD h t28)) h fun t29 h =>
      runD (binD T_int .eql t29 (.int .i64 0)) h fun t30 h =>
      J3 (.bool false) t30 h)
    (J3 (.bool true) .und h))
    (fun t27 t30 h => runD (pickD t27 (.bool true) t30) h fun t31 h =>
    J2 (.bool true) t31 h))
  (J2 (.bool false) .und h))
  (fun t23 t31 h => runD (pickD t23 t31 (.bool false)) h fun t32 h =>
  K (.ret t32) h))
def slices_IndexFunc_sl_api_Micro_api_Micro.loops : Nat → LInfo
  | 2 => ⟨[8], [false], [0, 1, 7]⟩
  | _ => ⟨[], [], []⟩
def slices_IndexFunc_sl_api_Micro_api_Micro.L1 (c : Ctx) (J1 : List AObj → Prop) (K : AOut → List AObj → Prop) (lv : List AV) (h0 : List AObj) (n0 : Nat) (c0 : AV) (c1 : AV) (c7 : AV) : Prop :=
  ∃ I : Nat → List AV → List AObj → Prop, (∃ n, I n lv h0) ∧ ∀ n h, ∀ t8, I n [t8] h →
    runD (binD T_int .lss t8 c7) h fun t9 h =>
    condW t9
    (runD (indexAddrD T_sl_api_Micro h c0 t8) h fun t14 h =>
    runD (fitD T_api_Micro (loadD h t14)) h fun t15 h =>
    callW c c1 [t15] h (fun t16 h =>
    condW t16
    (K (.ret t8) h)
    (runD (binD T_int .add t8 (.int .i64 1)) h fun t18 h =>
    (∃ m, m < n ∧ I m (AV.norms n0 h [t18]) (normH n0 h)) ∧ AV.norms n0 h [c0, c1, c7] = [c0, c1, c7]))
    (fun v h => K (.pan v) h))
    (J1 h)
def slices_IndexFunc_sl_api_Micro_api_Micro.H (c : Ctx) (t0 : AV) (t1 : AV) (h : List AObj) (K : AOut → List AObj → Prop) : Prop :=
  runD (lenD T_sl_api_Micro h t0) h fun t7 h =>
  joinW (fun (J1 : List AObj → Prop) =>
  promV [false] [(.int .i64 0)] h fun lv h => slices_IndexFunc_sl_api_Micro_api_Micro.L1 c J1 K (AV.norms h.length h lv) (normH h.length h) h.length (AV.norm h.length h t0) (AV.norm h.length h t1) (AV.norm h.length h t7))
  (fun h => K (.ret (.int .i64 (-1))) h)
def lamplighterref05_Check.loops : Nat → LInfo
  | 4 => ⟨[5], [false], [0, 1]⟩
  | _ => ⟨[], [], []⟩
def lamplighterref05_Check.L1 (c : Ctx) (J3 : List AObj → Prop) (K : AOut → List AObj → Prop) (lv : List AV) (h0 : List AObj) (n0 : Nat) (c0 : AV) (c1 : AV) : Prop :=
  ∃ I : Nat → List AV → List AObj → Prop, (∃ n, I n lv h0) ∧ ∀ n h, ∀ t5, I n [t5] h →
    runD (lenD T_sl_api_Micro h c0) h fun t19 h =>
    runD (binD T_int .lss t5 t19) h fun t20 h =>
    condW t20
    (runD (indexAddrD T_sl_api_Micro h c0 t5) h fun t25 h =>
    runD (fitD T_api_Micro (loadD h t25)) h fun t26 h =>
    callW c (.fn (.func 107) [] []) [t26, c1] h (fun t28 h =>
    runD (unD .not t28) h fun t29 h =>
    condW t29
    (K (.ret (.bool false)) h)
    (runD (binD T_int .add t5 (.int .i64 1)) h fun t22 h =>
    (∃ m, m < n ∧ I m (AV.norms n0 h [t22]) (normH n0 h)) ∧ AV.norms n0 h [c0, c1] = [c0, c1]))
    (fun v h => K (.pan v) h))
    (J3 h)
def lamplighterref05_Check.H (c : Ctx) (t0 : AV) (t1 : AV) (h : List AObj) (K : AOut → List AObj → Prop) : Prop :=
  runD (binD T_int .lss t1 (.int .i64 0)) h fun t7 h =>
  joinW (fun (J1 : AV → AV → List AObj → Prop) =>
  guardW t7 false
  (runD (binD T_int .gtr t1 (.int .i64 4096)) h fun t10 h =>
    J1 (.bool false) t10 h)
  (J1 (.bool true) .und h))
  (fun t8 t10 h => runD (pickD t8 (.bool true) t10) h fun t11 h =>
  joinW (fun (J2 : AV → AV → List AObj → Prop) =>
  guardW t11 false
  (runD (binD T_int .rem t1 (.int .i64 8)) h fun t14 h =>
    runD (binD T_int .neq t14 (.int .i64 0)) h fun t15 h =>
    J2 (.bool false) t15 h)
  (J2 (.bool true) .und h))
  (fun t12 t15 h => runD (pickD t12 (.bool true) t15) h fun t16 h =>
  condW t16
  (K (.ret (.bool false)) h)
  (joinW (fun (J3 : List AObj → Prop) =>
  promV [false] [(.int .i64 0)] h fun lv h => lamplighterref05_Check.L1 c J3 K (AV.norms h.length h lv) (normH h.length h) h.length (AV.norm h.length h t0) (AV.norm h.length h t1))
  (fun h => K (.ret (.bool true)) h))))
def lamplighterref05_may.loops : Nat → LInfo
  | _ => ⟨[], [], []⟩
def lamplighterref05_may.H (c : Ctx) (t0 : AV) (t1 : AV) (h : List AObj) (K : AOut → List AObj → Prop) : Prop :=
  boxW T_api_Micro t0 h fun t2 h =>
  runD (fieldAddrD T_api_Micro t2 0) h fun t5 h =>
  runD (fitD T_int (loadD h t5)) h fun t6 h =>
  runD (binD T_int .eql t6 (.int .i64 1)) h fun t7 h =>
  condW t7
  (runD (fieldAddrD T_api_Micro t2 1) h fun t8 h =>
    runD (fitD T_int (loadD h t8)) h fun t9 h =>
    runD (binD T_int .geq t9 (.int .i64 0)) h fun t10 h =>
    joinW (fun (J1 : AV → AV → List AObj → Prop) =>
    guardW t10 true
    (runD (fieldAddrD T_api_Micro t2 1) h fun t12 h =>
      runD (fitD T_int (loadD h t12)) h fun t13 h =>
      runD (binD T_int .lss t13 t1) h fun t15 h =>
      J1 (.bool true) t15 h)
    (J1 (.bool false) .und h))
    (fun t11 t15 h => runD (pickD t11 t15 (.bool false)) h fun t16 h =>
    K (.ret t16) h))
  (runD (fieldAddrD T_api_Micro t2 0) h fun t17 h =>
  runD (fitD T_int (loadD h t17)) h fun t18 h =>
  runD (binD T_int .eql t18 (.int .i64 2)) h fun t19 h =>
  joinW (fun (J2 : AV → AV → List AObj → Prop) =>
  guardW t19 true
  (runD (fieldAddrD T_api_Micro t2 1) h fun t21 h =>
    runD (fitD T_int (loadD h t21)) h fun t22 h =>
    runD (binD T_int .geq t22 (.int .i64 0)) h fun t23 h =>
    J2 (.bool true) t23 h)
  (J2 (.bool false) .und h))
  (fun t20 t23 h => runD (pickD t20 t23 (.bool false)) h fun t24 h =>
  joinW (fun (J3 : AV → AV → List AObj → Prop) =>
  guardW t24 true
  (runD (fieldAddrD T_api_Micro t2 1) h fun t26 h =>
    runD (fitD T_int (loadD h t26)) h fun t27 h =>
    runD (binD T_int .quo t1 (.int .i64 8)) h fun t29 h =>
    runD (binD T_int .lss t27 t29) h fun t30 h =>
    J3 (.bool true) t30 h)
  (J3 (.bool false) .und h))
  (fun t25 t30 h => runD (pickD t25 t30 (.bool false)) h fun t31 h =>
  joinW (fun (J4 : AV → AV → List AObj → Prop) =>
  guardW t31 true
  (runD (fieldAddrD T_api_Micro t2 2) h fun t33 h =>
    runD (fitD T_int (loadD h t33)) h fun t34 h =>
    runD (binD T_int .eql t34 (.int .i64 0)) h fun t35 h =>
    J4 (.bool true) t35 h)
  (J4 (.bool false) .und h))
  (fun t32 t35 h => runD (pickD t32 t35 (.bool false)) h fun t36 h =>
  K (.ret t36) h))))
theorem lamplighterlaw08_SuperTells.eq (F : List (FuncId × Contract)) (S : List (FuncId × Con)) (t0 t1 t2 : AV) (h : List AObj) (K : AOut → List AObj → Prop) : funW (ctx F S lamplighterlaw08_SuperTells.loops) Try.f3 [t0, t1, t2] h K = lamplighterlaw08_SuperTells.H (ctx F S lamplighterlaw08_SuperTells.loops) t0 t1 t2 h K := by kernel_rfl
theorem lamplighterlaw08_SuperBack.eq (F : List (FuncId × Contract)) (S : List (FuncId × Con)) (t0 t1 t2 t3 : AV) (h : List AObj) (K : AOut → List AObj → Prop) : funW (ctx F S lamplighterlaw08_SuperBack.loops) Try.f4 [t0, t1, t2, t3] h K = lamplighterlaw08_SuperBack.H (ctx F S lamplighterlaw08_SuperBack.loops) t0 t1 t2 t3 h K := by kernel_rfl
theorem lamplighterlaw08_SuperOnly.eq (F : List (FuncId × Contract)) (S : List (FuncId × Con)) (t0 t1 : AV) (h : List AObj) (K : AOut → List AObj → Prop) : funW (ctx F S lamplighterlaw08_SuperOnly.loops) Try.f5 [t0, t1] h K = lamplighterlaw08_SuperOnly.H (ctx F S lamplighterlaw08_SuperOnly.loops) t0 t1 h K := by kernel_rfl
theorem lamplighterlaw08_awake.eq (F : List (FuncId × Contract)) (S : List (FuncId × Con)) (h : List AObj) (K : AOut → List AObj → Prop) : funW (ctx F S lamplighterlaw08_awake.loops) Try.f15 [] h K = lamplighterlaw08_awake.H (ctx F S lamplighterlaw08_awake.loops)  h K := by kernel_rfl
theorem super_Words.eq (F : List (FuncId × Contract)) (S : List (FuncId × Con)) (t0 t1 : AV) (h : List AObj) (K : AOut → List AObj → Prop) : funW (ctx F S super_Words.loops) Try.f16 [t0, t1] h K = super_Words.H (ctx F S super_Words.loops) t0 t1 h K := by kernel_rfl
theorem lamplighterref08_Words.eq (F : List (FuncId × Contract)) (S : List (FuncId × Con)) (t0 t1 : AV) (h : List AObj) (K : AOut → List AObj → Prop) : funW (ctx F S lamplighterref08_Words.loops) Try.f17 [t0, t1] h K = lamplighterref08_Words.H (ctx F S lamplighterref08_Words.loops) t0 t1 h K := by kernel_rfl
theorem super_Read.eq (F : List (FuncId × Contract)) (S : List (FuncId × Con)) (t0 : AV) (h : List AObj) (K : AOut → List AObj → Prop) : funW (ctx F S super_Read.loops) Try.f18 [t0] h K = super_Read.H (ctx F S super_Read.loops) t0 h K := by kernel_rfl
theorem lamplighterref08_Read.eq (F : List (FuncId × Contract)) (S : List (FuncId × Con)) (t0 : AV) (h : List AObj) (K : AOut → List AObj → Prop) : funW (ctx F S lamplighterref08_Read.loops) Try.f19 [t0] h K = lamplighterref08_Read.H (ctx F S lamplighterref08_Read.loops) t0 h K := by kernel_rfl
theorem super_Root.eq (F : List (FuncId × Contract)) (S : List (FuncId × Con)) (t0 t1 : AV) (h : List AObj) (K : AOut → List AObj → Prop) : funW (ctx F S super_Root.loops) Try.f20 [t0, t1] h K = super_Root.H (ctx F S super_Root.loops) t0 t1 h K := by kernel_rfl
theorem lamplighterref08_Root.eq (F : List (FuncId × Contract)) (S : List (FuncId × Con)) (t0 t1 : AV) (h : List AObj) (K : AOut → List AObj → Prop) : funW (ctx F S lamplighterref08_Root.loops) Try.f21 [t0, t1] h K = lamplighterref08_Root.H (ctx F S lamplighterref08_Root.loops) t0 t1 h K := by kernel_rfl
theorem lamplighterref02_Numbers.eq (F : List (FuncId × Contract)) (S : List (FuncId × Con)) (t0 t1 : AV) (h : List AObj) (K : AOut → List AObj → Prop) : funW (ctx F S lamplighterref02_Numbers.loops) Try.f22 [t0, t1] h K = lamplighterref02_Numbers.H (ctx F S lamplighterref02_Numbers.loops) t0 t1 h K := by kernel_rfl
theorem lamplighterref05_Same.eq (F : List (FuncId × Contract)) (S : List (FuncId × Con)) (t0 t1 : AV) (h : List AObj) (K : AOut → List AObj → Prop) : funW (ctx F S lamplighterref05_Same.loops) Try.f23 [t0, t1] h K = lamplighterref05_Same.H (ctx F S lamplighterref05_Same.loops) t0 t1 h K := by kernel_rfl
theorem super_of.eq (F : List (FuncId × Contract)) (S : List (FuncId × Con)) (t0 t1 : AV) (h : List AObj) (K : AOut → List AObj → Prop) : funW (ctx F S super_of.loops) Try.f72 [t0, t1] h K = super_of.H (ctx F S super_of.loops) t0 t1 h K := by kernel_rfl
theorem super_head_may.eq (F : List (FuncId × Contract)) (S : List (FuncId × Con)) (t0 : AV) (h : List AObj) (K : AOut → List AObj → Prop) : funW (ctx F S super_head_may.loops) Try.f73 [t0] h K = super_head_may.H (ctx F S super_head_may.loops) t0 h K := by kernel_rfl
theorem lamplighterref08_may.eq (F : List (FuncId × Contract)) (S : List (FuncId × Con)) (t0 t1 : AV) (h : List AObj) (K : AOut → List AObj → Prop) : funW (ctx F S lamplighterref08_may.loops) Try.f74 [t0, t1] h K = lamplighterref08_may.H (ctx F S lamplighterref08_may.loops) t0 t1 h K := by kernel_rfl
theorem lamplighterref03_Of.eq (F : List (FuncId × Contract)) (S : List (FuncId × Con)) (t0 : AV) (h : List AObj) (K : AOut → List AObj → Prop) : funW (ctx F S lamplighterref03_Of.loops) Try.f75 [t0] h K = lamplighterref03_Of.H (ctx F S lamplighterref03_Of.loops) t0 h K := by kernel_rfl
theorem lamplighterref03_Word.eq (F : List (FuncId × Contract)) (S : List (FuncId × Con)) (t0 t1 : AV) (h : List AObj) (K : AOut → List AObj → Prop) : funW (ctx F S lamplighterref03_Word.loops) Try.f117 [t0, t1] h K = lamplighterref03_Word.H (ctx F S lamplighterref03_Word.loops) t0 t1 h K := by kernel_rfl
theorem sum_Of.eq (F : List (FuncId × Contract)) (S : List (FuncId × Con)) (t0 : AV) (h : List AObj) (K : AOut → List AObj → Prop) : funW (ctx F S sum_Of.loops) Try.f116 [t0] h K = sum_Of.H (ctx F S sum_Of.loops) t0 h K := by kernel_rfl
theorem sum_table.eq (F : List (FuncId × Contract)) (S : List (FuncId × Con)) (h : List AObj) (K : AOut → List AObj → Prop) : funW (ctx F S sum_table.loops) Try.f132 [] h K = sum_table.H (ctx F S sum_table.loops)  h K := by kernel_rfl
theorem sum_word.eq (F : List (FuncId × Contract)) (S : List (FuncId × Con)) (t0 t1 t2 : AV) (h : List AObj) (K : AOut → List AObj → Prop) : funW (ctx F S sum_word.loops) Try.f133 [t0, t1, t2] h K = sum_word.H (ctx F S sum_word.loops) t0 t1 t2 h K := by kernel_rfl
theorem lamplighterref03_Byte.eq (F : List (FuncId × Contract)) (S : List (FuncId × Con)) (t0 t1 : AV) (h : List AObj) (K : AOut → List AObj → Prop) : funW (ctx F S lamplighterref03_Byte.loops) Try.f134 [t0, t1] h K = lamplighterref03_Byte.H (ctx F S lamplighterref03_Byte.loops) t0 t1 h K := by kernel_rfl
theorem sum_with.eq (F : List (FuncId × Contract)) (S : List (FuncId × Con)) (t0 t1 t2 : AV) (h : List AObj) (K : AOut → List AObj → Prop) : funW (ctx F S sum_with.loops) Try.f138 [t0, t1, t2] h K = sum_with.H (ctx F S sum_with.loops) t0 t1 t2 h K := by kernel_rfl
theorem lamplighterref03_turn.eq (F : List (FuncId × Contract)) (S : List (FuncId × Con)) (t0 t1 : AV) (h : List AObj) (K : AOut → List AObj → Prop) : funW (ctx F S lamplighterref03_turn.loops) Try.f139 [t0, t1] h K = lamplighterref03_turn.H (ctx F S lamplighterref03_turn.loops) t0 t1 h K := by kernel_rfl
theorem lamplighterref03_move.eq (F : List (FuncId × Contract)) (S : List (FuncId × Con)) (t0 : AV) (h : List AObj) (K : AOut → List AObj → Prop) : funW (ctx F S lamplighterref03_move.loops) Try.f140 [t0] h K = lamplighterref03_move.H (ctx F S lamplighterref03_move.loops) t0 h K := by kernel_rfl
theorem micro_Check.eq (F : List (FuncId × Contract)) (S : List (FuncId × Con)) (t0 t1 : AV) (h : List AObj) (K : AOut → List AObj → Prop) : funW (ctx F S micro_Check.loops) Try.f70 [t0, t1] h K = micro_Check.H (ctx F S micro_Check.loops) t0 t1 h K := by kernel_rfl
theorem slices_ContainsFunc_sl_api_Micro_api_Micro.eq (F : List (FuncId × Contract)) (S : List (FuncId × Con)) (t0 t1 : AV) (h : List AObj) (K : AOut → List AObj → Prop) : funW (ctx F S slices_ContainsFunc_sl_api_Micro_api_Micro.loops) Try.f113 [t0, t1] h K = slices_ContainsFunc_sl_api_Micro_api_Micro.H (ctx F S slices_ContainsFunc_sl_api_Micro_api_Micro.loops) t0 t1 h K := by kernel_rfl
theorem micro_Check_1.eq (F : List (FuncId × Contract)) (S : List (FuncId × Con)) (t0 t1 : AV) (h : List AObj) (K : AOut → List AObj → Prop) : funW (ctx F S micro_Check_1.loops) Try.f114 [t0, t1] h K = micro_Check_1.H (ctx F S micro_Check_1.loops) t0 t1 h K := by kernel_rfl
theorem micro_may.eq (F : List (FuncId × Contract)) (S : List (FuncId × Con)) (t0 t1 : AV) (h : List AObj) (K : AOut → List AObj → Prop) : funW (ctx F S micro_may.loops) Try.f115 [t0, t1] h K = micro_may.H (ctx F S micro_may.loops) t0 t1 h K := by kernel_rfl
theorem slices_IndexFunc_sl_api_Micro_api_Micro.eq (F : List (FuncId × Contract)) (S : List (FuncId × Con)) (t0 t1 : AV) (h : List AObj) (K : AOut → List AObj → Prop) : funW (ctx F S slices_IndexFunc_sl_api_Micro_api_Micro.loops) Try.f131 [t0, t1] h K = slices_IndexFunc_sl_api_Micro_api_Micro.H (ctx F S slices_IndexFunc_sl_api_Micro_api_Micro.loops) t0 t1 h K := by kernel_rfl
theorem lamplighterref05_Check.eq (F : List (FuncId × Contract)) (S : List (FuncId × Con)) (t0 t1 : AV) (h : List AObj) (K : AOut → List AObj → Prop) : funW (ctx F S lamplighterref05_Check.loops) Try.f71 [t0, t1] h K = lamplighterref05_Check.H (ctx F S lamplighterref05_Check.loops) t0 t1 h K := by kernel_rfl
theorem lamplighterref05_may.eq (F : List (FuncId × Contract)) (S : List (FuncId × Con)) (t0 t1 : AV) (h : List AObj) (K : AOut → List AObj → Prop) : funW (ctx F S lamplighterref05_may.loops) Try.f107 [t0, t1] h K = lamplighterref05_may.H (ctx F S lamplighterref05_may.loops) t0 t1 h K := by kernel_rfl
theorem lamplighterlaw08_SuperTells.at : Try.prog.funcs[3]? = some Try.f3 := by kernel_rfl
theorem lamplighterlaw08_SuperTells.nm : (Try.f3.name == "runtime.NumGoroutine") = false := by kernel_rfl
theorem lamplighterlaw08_SuperTells.bd : Try.f3.body.isNone = false := by kernel_rfl
theorem lamplighterlaw08_SuperBack.at : Try.prog.funcs[4]? = some Try.f4 := by kernel_rfl
theorem lamplighterlaw08_SuperBack.nm : (Try.f4.name == "runtime.NumGoroutine") = false := by kernel_rfl
theorem lamplighterlaw08_SuperBack.bd : Try.f4.body.isNone = false := by kernel_rfl
theorem lamplighterlaw08_SuperOnly.at : Try.prog.funcs[5]? = some Try.f5 := by kernel_rfl
theorem lamplighterlaw08_SuperOnly.nm : (Try.f5.name == "runtime.NumGoroutine") = false := by kernel_rfl
theorem lamplighterlaw08_SuperOnly.bd : Try.f5.body.isNone = false := by kernel_rfl
theorem lamplighterlaw08_awake.at : Try.prog.funcs[15]? = some Try.f15 := by kernel_rfl
theorem lamplighterlaw08_awake.nm : (Try.f15.name == "runtime.NumGoroutine") = false := by kernel_rfl
theorem lamplighterlaw08_awake.bd : Try.f15.body.isNone = false := by kernel_rfl
theorem super_Words.at : Try.prog.funcs[16]? = some Try.f16 := by kernel_rfl
theorem super_Words.nm : (Try.f16.name == "runtime.NumGoroutine") = false := by kernel_rfl
theorem super_Words.bd : Try.f16.body.isNone = false := by kernel_rfl
theorem lamplighterref08_Words.at : Try.prog.funcs[17]? = some Try.f17 := by kernel_rfl
theorem lamplighterref08_Words.nm : (Try.f17.name == "runtime.NumGoroutine") = false := by kernel_rfl
theorem lamplighterref08_Words.bd : Try.f17.body.isNone = false := by kernel_rfl
theorem super_Read.at : Try.prog.funcs[18]? = some Try.f18 := by kernel_rfl
theorem super_Read.nm : (Try.f18.name == "runtime.NumGoroutine") = false := by kernel_rfl
theorem super_Read.bd : Try.f18.body.isNone = false := by kernel_rfl
theorem lamplighterref08_Read.at : Try.prog.funcs[19]? = some Try.f19 := by kernel_rfl
theorem lamplighterref08_Read.nm : (Try.f19.name == "runtime.NumGoroutine") = false := by kernel_rfl
theorem lamplighterref08_Read.bd : Try.f19.body.isNone = false := by kernel_rfl
theorem super_Root.at : Try.prog.funcs[20]? = some Try.f20 := by kernel_rfl
theorem super_Root.nm : (Try.f20.name == "runtime.NumGoroutine") = false := by kernel_rfl
theorem super_Root.bd : Try.f20.body.isNone = false := by kernel_rfl
theorem lamplighterref08_Root.at : Try.prog.funcs[21]? = some Try.f21 := by kernel_rfl
theorem lamplighterref08_Root.nm : (Try.f21.name == "runtime.NumGoroutine") = false := by kernel_rfl
theorem lamplighterref08_Root.bd : Try.f21.body.isNone = false := by kernel_rfl
theorem lamplighterref02_Numbers.at : Try.prog.funcs[22]? = some Try.f22 := by kernel_rfl
theorem lamplighterref02_Numbers.nm : (Try.f22.name == "runtime.NumGoroutine") = false := by kernel_rfl
theorem lamplighterref02_Numbers.bd : Try.f22.body.isNone = false := by kernel_rfl
theorem lamplighterref05_Same.at : Try.prog.funcs[23]? = some Try.f23 := by kernel_rfl
theorem lamplighterref05_Same.nm : (Try.f23.name == "runtime.NumGoroutine") = false := by kernel_rfl
theorem lamplighterref05_Same.bd : Try.f23.body.isNone = false := by kernel_rfl
theorem super_of.at : Try.prog.funcs[72]? = some Try.f72 := by kernel_rfl
theorem super_of.nm : (Try.f72.name == "runtime.NumGoroutine") = false := by kernel_rfl
theorem super_of.bd : Try.f72.body.isNone = false := by kernel_rfl
theorem super_head_may.at : Try.prog.funcs[73]? = some Try.f73 := by kernel_rfl
theorem super_head_may.nm : (Try.f73.name == "runtime.NumGoroutine") = false := by kernel_rfl
theorem super_head_may.bd : Try.f73.body.isNone = false := by kernel_rfl
theorem lamplighterref08_may.at : Try.prog.funcs[74]? = some Try.f74 := by kernel_rfl
theorem lamplighterref08_may.nm : (Try.f74.name == "runtime.NumGoroutine") = false := by kernel_rfl
theorem lamplighterref08_may.bd : Try.f74.body.isNone = false := by kernel_rfl
theorem lamplighterref03_Of.at : Try.prog.funcs[75]? = some Try.f75 := by kernel_rfl
theorem lamplighterref03_Of.nm : (Try.f75.name == "runtime.NumGoroutine") = false := by kernel_rfl
theorem lamplighterref03_Of.bd : Try.f75.body.isNone = false := by kernel_rfl
theorem lamplighterref03_Word.at : Try.prog.funcs[117]? = some Try.f117 := by kernel_rfl
theorem lamplighterref03_Word.nm : (Try.f117.name == "runtime.NumGoroutine") = false := by kernel_rfl
theorem lamplighterref03_Word.bd : Try.f117.body.isNone = false := by kernel_rfl
theorem sum_Of.at : Try.prog.funcs[116]? = some Try.f116 := by kernel_rfl
theorem sum_Of.nm : (Try.f116.name == "runtime.NumGoroutine") = false := by kernel_rfl
theorem sum_Of.bd : Try.f116.body.isNone = false := by kernel_rfl
theorem sum_table.at : Try.prog.funcs[132]? = some Try.f132 := by kernel_rfl
theorem sum_table.nm : (Try.f132.name == "runtime.NumGoroutine") = false := by kernel_rfl
theorem sum_table.bd : Try.f132.body.isNone = false := by kernel_rfl
theorem sum_word.at : Try.prog.funcs[133]? = some Try.f133 := by kernel_rfl
theorem sum_word.nm : (Try.f133.name == "runtime.NumGoroutine") = false := by kernel_rfl
theorem sum_word.bd : Try.f133.body.isNone = false := by kernel_rfl
theorem lamplighterref03_Byte.at : Try.prog.funcs[134]? = some Try.f134 := by kernel_rfl
theorem lamplighterref03_Byte.nm : (Try.f134.name == "runtime.NumGoroutine") = false := by kernel_rfl
theorem lamplighterref03_Byte.bd : Try.f134.body.isNone = false := by kernel_rfl
theorem sum_with.at : Try.prog.funcs[138]? = some Try.f138 := by kernel_rfl
theorem sum_with.nm : (Try.f138.name == "runtime.NumGoroutine") = false := by kernel_rfl
theorem sum_with.bd : Try.f138.body.isNone = false := by kernel_rfl
theorem lamplighterref03_turn.at : Try.prog.funcs[139]? = some Try.f139 := by kernel_rfl
theorem lamplighterref03_turn.nm : (Try.f139.name == "runtime.NumGoroutine") = false := by kernel_rfl
theorem lamplighterref03_turn.bd : Try.f139.body.isNone = false := by kernel_rfl
theorem lamplighterref03_move.at : Try.prog.funcs[140]? = some Try.f140 := by kernel_rfl
theorem lamplighterref03_move.nm : (Try.f140.name == "runtime.NumGoroutine") = false := by kernel_rfl
theorem lamplighterref03_move.bd : Try.f140.body.isNone = false := by kernel_rfl
theorem micro_Check.at : Try.prog.funcs[70]? = some Try.f70 := by kernel_rfl
theorem micro_Check.nm : (Try.f70.name == "runtime.NumGoroutine") = false := by kernel_rfl
theorem micro_Check.bd : Try.f70.body.isNone = false := by kernel_rfl
theorem slices_ContainsFunc_sl_api_Micro_api_Micro.at : Try.prog.funcs[113]? = some Try.f113 := by kernel_rfl
theorem slices_ContainsFunc_sl_api_Micro_api_Micro.nm : (Try.f113.name == "runtime.NumGoroutine") = false := by kernel_rfl
theorem slices_ContainsFunc_sl_api_Micro_api_Micro.bd : Try.f113.body.isNone = false := by kernel_rfl
theorem micro_Check_1.at : Try.prog.funcs[114]? = some Try.f114 := by kernel_rfl
theorem micro_Check_1.nm : (Try.f114.name == "runtime.NumGoroutine") = false := by kernel_rfl
theorem micro_Check_1.bd : Try.f114.body.isNone = false := by kernel_rfl
theorem micro_may.at : Try.prog.funcs[115]? = some Try.f115 := by kernel_rfl
theorem micro_may.nm : (Try.f115.name == "runtime.NumGoroutine") = false := by kernel_rfl
theorem micro_may.bd : Try.f115.body.isNone = false := by kernel_rfl
theorem slices_IndexFunc_sl_api_Micro_api_Micro.at : Try.prog.funcs[131]? = some Try.f131 := by kernel_rfl
theorem slices_IndexFunc_sl_api_Micro_api_Micro.nm : (Try.f131.name == "runtime.NumGoroutine") = false := by kernel_rfl
theorem slices_IndexFunc_sl_api_Micro_api_Micro.bd : Try.f131.body.isNone = false := by kernel_rfl
theorem lamplighterref05_Check.at : Try.prog.funcs[71]? = some Try.f71 := by kernel_rfl
theorem lamplighterref05_Check.nm : (Try.f71.name == "runtime.NumGoroutine") = false := by kernel_rfl
theorem lamplighterref05_Check.bd : Try.f71.body.isNone = false := by kernel_rfl
theorem lamplighterref05_may.at : Try.prog.funcs[107]? = some Try.f107 := by kernel_rfl
theorem lamplighterref05_may.nm : (Try.f107.name == "runtime.NumGoroutine") = false := by kernel_rfl
theorem lamplighterref05_may.bd : Try.f107.body.isNone = false := by kernel_rfl
end Lam
