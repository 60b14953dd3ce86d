/- What functions of the program come to, each proved from its code. -/
import Derived.Test.YtmbmfnmjjelmkabGreatLm5
set_option linter.unusedVariables false
set_option linter.unusedSimpArgs false
set_option linter.unnecessarySimpa false
set_option linter.unusedSectionVars false
open Nat (reduceEqDiff reduceAdd reduceSub reduceLeDiff)
open Int (reduceToNat reduceEq reduceLE reduceLT)
open List (reduceReplicate)
set_option maxRecDepth 20000
namespace Lam
open Go Go.Proofs
def aW.loops : Nat → bX
 | 4 => ⟨[11], [false], [0, 3, 8, 9, 10], [], [], []⟩
 | 8 => ⟨[12], [false], [0, 3, 8, 9], [], [], []⟩
 | _ => ⟨[], [], [], [], [], []⟩
def aW.L1 (c : Ctx) (J1 : AV → AV → AV → AV → AV → List AObj → Prop) (K : AOut → List AObj → Prop) (lv : List AV) (h0 : List AObj) (n0 : Nat) (c0 : AV) (c3 : AV) (c8 : AV) (c9 : AV) (c10 : AV) : Prop :=
 ∃ I : Nat → List AV → List AObj → Prop, (∃ n, I n lv h0) ∧ ∀ n h, ∀ t11, I n [t11] h →
 runD (binD aA .geq t11 (.int .i64 0)) h fun t21 h =>
 aZ t21
 (bB false c (.fn (.func 142) [] []) [c0, t11, c10, c8, c3] h (fun t29 h =>
 runD (binD aA .sub t11 (.int .i64 1)) h fun t23 h =>
 (∃ m, m < n ∧ I m (AV.norms n0 h [t23]) (cG n0 h)) ∧ AV.norms n0 h [c0, c3, c8, c9, c10] = [c0, c3, c8, c9, c10])
 (fun v h => K (.pan v) h))
 (J1 c0 c3 c8 c9 c10 h)
def aW.L2 (c : Ctx) (J2 : List AObj → Prop) (K : AOut → List AObj → Prop) (lv : List AV) (h0 : List AObj) (n0 : Nat) (c0 : AV) (c3 : AV) (c8 : AV) (c9 : AV) : Prop :=
 ∃ I : Nat → List AV → List AObj → Prop, (∃ n, I n lv h0) ∧ ∀ n h, ∀ t12, I n [t12] h →
 runD (binD aA .geq t12 (.int .i64 0)) h fun t33 h =>
 aZ t33
 (runD (binD aA .add c8 t12) h fun t41 h =>
 runD (binD aA .add c8 t12) h fun t45 h =>
 runD (aH aS h c0 t45) h fun t46 h =>
 runD (fitD aK (aD h t46)) h fun t47 h =>
 runD (aH aS h c0 c8) h fun t50 h =>
 runD (fitD aK (aD h t50)) h fun t51 h =>
 runD (aH aS h c0 c8) h fun t52 h =>
 runH (aQ aK h t52 t47) h fun _ h =>
 runD (aH aS h c0 t41) h fun t53 h =>
 runH (aQ aK h t53 t51) h fun _ h =>
 bB false c (.fn (.func 142) [] []) [c0, c9, t12, c8, c3] h (fun t59 h =>
 runD (binD aA .sub t12 (.int .i64 1)) h fun t35 h =>
 (∃ m, m < n ∧ I m (AV.norms n0 h [t35]) (cG n0 h)) ∧ AV.norms n0 h [c0, c3, c8, c9] = [c0, c3, c8, c9])
 (fun v h => K (.pan v) h))
 (J2 h)
def aW.H (c : Ctx) (t0 : AV) (t1 : AV) (t2 : AV) (t3 : AV) (h : List AObj) (K : AOut → List AObj → Prop) : Prop :=
 runD (binD aA .sub t2 t1) h fun t16 h =>
 runD (binD aA .sub t16 (.int .i64 1)) h fun t18 h =>
 runD (binD aA .quo t18 (.int .i64 2)) h fun t19 h =>
 aM (fun (J1 : AV → AV → AV → AV → AV → List AObj → Prop) =>
 dE [false] [t19] h fun lv h => aW.L1 c J1 K (AV.norms h.length h lv) (cG h.length h) h.length (AV.norm h.length h t0) (AV.norm h.length h t3) (AV.norm h.length h t1) (AV.norm h.length h (.int .i64 0)) (AV.norm h.length h t16))
 (fun t0 t3 t8 t9 t10 h => runD (binD aA .sub t10 (.int .i64 1)) h fun t31 h =>
 aM (fun (J2 : List AObj → Prop) =>
 dE [false] [t31] h fun lv h => aW.L2 c J2 K (AV.norms h.length h lv) (cG h.length h) h.length (AV.norm h.length h t0) (AV.norm h.length h t3) (AV.norm h.length h t8) (AV.norm h.length h t9))
 (fun h => K (.ret (.tup [])) h))
def aT.loops : Nat → bX
 | 5 => ⟨[11], [false], [0, 1, 8, 9, 10], [], [], []⟩
 | _ => ⟨[], [], [], [], [], []⟩
def aT.L1 (c : Ctx) (J2 : List AObj → Prop) (K : AOut → List AObj → Prop) (lv : List AV) (h0 : List AObj) (n0 : Nat) (c0 : AV) (c1 : AV) (c8 : AV) (c9 : AV) (c10 : AV) : Prop :=
 ∃ I : Nat → List AV → List AObj → Prop, (∃ n, I n lv h0) ∧ ∀ n h, ∀ t11, I n [t11] h →
 runD (binD aA .quo c8 (.int .i64 4)) h fun t31 h =>
 runD (binD aA .mul t31 (.int .i64 2)) h fun t32 h =>
 runD (binD aA .add c1 t32) h fun t33 h =>
 runD (binD aA .add t33 (.int .i64 1)) h fun t34 h =>
 runD (binD aA .leq t11 t34) h fun t35 h =>
 aZ t35
 (bB false c (.fn (.func 144) [] []) [c9] h (fun t38 h =>
 runD (binD qI .sub c10 (.int .u64 1)) h fun t40 h =>
 runD (binD qI .and t38 t40) h fun t41 h =>
 runD (iI h qI aA t41) h fun t42 h =>
 runD (binD aA .geq t42 c8) h fun t45 h =>
 aM (fun (J3 : AV → List AObj → Prop) =>
 aZ t45
 (runD (binD aA .sub t42 c8) h fun t48 h =>
 J3 t48 h)
 (J3 t42 h))
 (fun t12 h => runD (binD aA .add c1 t12) h fun t54 h =>
 runD (binD aA .add c1 t12) h fun t58 h =>
 runD (aH aS h c0 t58) h fun t59 h =>
 runD (fitD aK (aD h t59)) h fun t60 h =>
 runD (aH aS h c0 t11) h fun t63 h =>
 runD (fitD aK (aD h t63)) h fun t64 h =>
 runD (aH aS h c0 t11) h fun t65 h =>
 runH (aQ aK h t65 t60) h fun _ h =>
 runD (aH aS h c0 t54) h fun t66 h =>
 runH (aQ aK h t66 t64) h fun _ h =>
 runD (binD aA .add t11 (.int .i64 1)) h fun t37 h =>
 (∃ m, m < n ∧ I m (AV.norms n0 h [t37]) (cG n0 h)) ∧ AV.norms n0 h [c0, c1, c8, c9, c10] = [c0, c1, c8, c9, c10]))
 (fun v h => K (.pan v) h))
 (J2 h)
def aT.H (c : Ctx) (t0 : AV) (t1 : AV) (t2 : AV) (t3 : AV) (h : List AObj) (K : AOut → List AObj → Prop) : Prop :=
 runD (binD aA .sub t2 t1) h fun t15 h =>
 runD (binD aA .geq t15 (.int .i64 8)) h fun t17 h =>
 aM (fun (J1 : List AObj → Prop) =>
 aZ t17
 (runD (iI h aA cQ t15) h fun t19 h =>
 cK cQ h fun t9 h =>
 runH (aQ cQ h t9 t19) h fun _ h =>
 bB false c (.fn (.func 143) [] []) [t15] h (fun t21 h =>
 runD (binD aA .quo t15 (.int .i64 4)) h fun t24 h =>
 runD (binD aA .mul t24 (.int .i64 2)) h fun t25 h =>
 runD (binD aA .add t1 t25) h fun t26 h =>
 runD (binD aA .sub t26 (.int .i64 1)) h fun t27 h =>
 aM (fun (J2 : List AObj → Prop) =>
 dE [false] [t27] h fun lv h => aT.L1 c J2 K (AV.norms h.length h lv) (cG h.length h) h.length (AV.norm h.length h t0) (AV.norm h.length h t1) (AV.norm h.length h t15) (AV.norm h.length h t9) (AV.norm h.length h t21))
 (fun h => J1 h))
 (fun v h => K (.pan v) h))
 (J1 h))
 (fun h => K (.ret (.tup [])) h)
def aU.loops : Nat → bX
 | 2 => ⟨[8, 9], [false, false], [0], [], [], []⟩
 | _ => ⟨[], [], [], [], [], []⟩
def aU.L1 (c : Ctx) (J1 : List AObj → Prop) (K : AOut → List AObj → Prop) (lv : List AV) (h0 : List AObj) (n0 : Nat) (c0 : AV) : Prop :=
 ∃ I : Nat → List AV → List AObj → Prop, (∃ n, I n lv h0) ∧ ∀ n h, ∀ t8, ∀ t9, I n [t8, t9] h →
 runD (binD aA .lss t8 t9) h fun t15 h =>
 aZ t15
 (runD (aH aS h c0 t9) h fun t22 h =>
 runD (fitD aK (aD h t22)) h fun t23 h =>
 runD (aH aS h c0 t8) h fun t26 h =>
 runD (fitD aK (aD h t26)) h fun t27 h =>
 runD (aH aS h c0 t8) h fun t28 h =>
 runH (aQ aK h t28 t23) h fun _ h =>
 runD (aH aS h c0 t9) h fun t29 h =>
 runH (aQ aK h t29 t27) h fun _ h =>
 runD (binD aA .add t8 (.int .i64 1)) h fun t31 h =>
 runD (binD aA .sub t9 (.int .i64 1)) h fun t33 h =>
 (∃ m, m < n ∧ I m (AV.norms n0 h [t31, t33]) (cG n0 h)) ∧ AV.norms n0 h [c0] = [c0])
 (J1 h)
def aU.H (c : Ctx) (t0 : AV) (t1 : AV) (t2 : AV) (t3 : AV) (h : List AObj) (K : AOut → List AObj → Prop) : Prop :=
 runD (binD aA .sub t2 (.int .i64 1)) h fun t12 h =>
 aM (fun (J1 : List AObj → Prop) =>
 dE [false, false] [t1, t12] h fun lv h => aU.L1 c J1 K (AV.norms h.length h lv) (cG h.length h) h.length (AV.norm h.length h t0))
 (fun h => K (.ret (.tup [])) h)
def bC.loops : Nat → bX
 | 1 => ⟨[10], [false], [0, 2, 3, 4], [], [], []⟩
 | _ => ⟨[], [], [], [], [], []⟩
def bC.L1 (c : Ctx) (J1 : List AObj → Prop) (K : AOut → List AObj → Prop) (lv : List AV) (h0 : List AObj) (n0 : Nat) (c0 : AV) (c2 : AV) (c3 : AV) (c4 : AV) : Prop :=
 ∃ I : Nat → List AV → List AObj → Prop, (∃ n, I n lv h0) ∧ ∀ n h, ∀ t10, I n [t10] h →
 runD (binD aA .mul (.int .i64 2) t10) h fun t14 h =>
 runD (binD aA .add t14 (.int .i64 1)) h fun t15 h =>
 runD (binD aA .geq t15 c2) h fun t18 h =>
 aZ t18
 (J1 h)
 (runD (binD aA .add t15 (.int .i64 1)) h fun t20 h =>
 runD (binD aA .lss t20 c2) h fun t22 h =>
 aM (fun (J2 : AV → AV → List AObj → Prop) =>
 aX t22 true
 (runD (binD aA .add c3 t15) h fun t28 h =>
 runD (aH aS h c0 t28) h fun t29 h =>
 runD (fitD aK (aD h t29)) h fun t30 h =>
 runD (binD aA .add c3 t15) h fun t34 h =>
 runD (binD aA .add t34 (.int .i64 1)) h fun t35 h =>
 runD (aH aS h c0 t35) h fun t36 h =>
 runD (fitD aK (aD h t36)) h fun t37 h =>
 bB false c.noS c4 [t30, t37] h (fun t38 h =>
 runD (binD aA .lss t38 (.int .i64 0)) h fun t39 h =>
 J2 (.bool true) t39 h)
 (fun _ _ => False))
 (J2 (.bool false) .und h))
 (fun t23 t39 h => runD (bP t23 t39 (.bool false)) h fun t40 h =>
 aM (fun (J3 : AV → List AObj → Prop) =>
 aZ t40
 (runD (binD aA .add t15 (.int .i64 1)) h fun t42 h =>
 J3 t42 h)
 (J3 t15 h))
 (fun t11 h => runD (binD aA .add c3 t10) h fun t47 h =>
 runD (aH aS h c0 t47) h fun t48 h =>
 runD (fitD aK (aD h t48)) h fun t49 h =>
 runD (binD aA .add c3 t11) h fun t53 h =>
 runD (aH aS h c0 t53) h fun t54 h =>
 runD (fitD aK (aD h t54)) h fun t55 h =>
 bB false c.noS c4 [t49, t55] h (fun t56 h =>
 runD (binD aA .lss t56 (.int .i64 0)) h fun t57 h =>
 runD (unD .not t57) h fun t58 h =>
 aZ t58
 (K (.ret (.tup [])) h)
 (runD (binD aA .add c3 t10) h fun t62 h =>
 runD (binD aA .add c3 t11) h fun t66 h =>
 runD (binD aA .add c3 t11) h fun t70 h =>
 runD (aH aS h c0 t70) h fun t71 h =>
 runD (fitD aK (aD h t71)) h fun t72 h =>
 runD (binD aA .add c3 t10) h fun t76 h =>
 runD (aH aS h c0 t76) h fun t77 h =>
 runD (fitD aK (aD h t77)) h fun t78 h =>
 runD (aH aS h c0 t62) h fun t79 h =>
 runH (aQ aK h t79 t72) h fun _ h =>
 runD (aH aS h c0 t66) h fun t80 h =>
 runH (aQ aK h t80 t78) h fun _ h =>
 (∃ m, m < n ∧ I m (AV.norms n0 h [t11]) (cG n0 h)) ∧ AV.norms n0 h [c0, c2, c3, c4] = [c0, c2, c3, c4]))
 (fun _ _ => False))))
def bC.H (c : Ctx) (t0 : AV) (t1 : AV) (t2 : AV) (t3 : AV) (t4 : AV) (h : List AObj) (K : AOut → List AObj → Prop) : Prop :=
 aM (fun (J1 : List AObj → Prop) =>
 dE [false] [t1] h fun lv h => bC.L1 c J1 K (AV.norms h.length h lv) (cG h.length h) h.length (AV.norm h.length h t0) (AV.norm h.length h t2) (AV.norm h.length h t3) (AV.norm h.length h t4))
 (fun h => K (.ret (.tup [])) h)
def cF.loops : Nat → bX
 | _ => ⟨[], [], [], [], [], []⟩
def cF.H (c : Ctx) (t0 : AV) (h : List AObj) (K : AOut → List AObj → Prop) : Prop :=
 runD (iI h aA qI t0) h fun t4 h =>
 bB false c (.fn (.func 120) [] []) [t4] h (fun t5 h =>
 runD (binD qI .shl (.int .u64 1) t5) h fun t6 h =>
 K (.ret t6) h)
 (fun v h => K (.pan v) h)
def cC.loops : Nat → bX
 | _ => ⟨[], [], [], [], [], []⟩
def cC.H (c : Ctx) (t0 : AV) (h : List AObj) (K : AOut → List AObj → Prop) : Prop :=
 runD (cJ t0) h fun t4 h =>
 runD (fitD cQ (aD h t4)) h fun t5 h =>
 runD (cJ t0) h fun t7 h =>
 runD (fitD cQ (aD h t7)) h fun t8 h =>
 runD (binD cQ .shl t8 (.int .u64 13)) h fun t9 h =>
 runD (binD cQ .xor t5 t9) h fun t10 h =>
 runD (cJ t0) h fun t11 h =>
 runH (aQ cQ h t11 t10) h fun _ h =>
 runD (cJ t0) h fun t13 h =>
 runD (fitD cQ (aD h t13)) h fun t14 h =>
 runD (cJ t0) h fun t16 h =>
 runD (fitD cQ (aD h t16)) h fun t17 h =>
 runD (binD cQ .shr t17 (.int .u64 7)) h fun t18 h =>
 runD (binD cQ .xor t14 t18) h fun t19 h =>
 runD (cJ t0) h fun t20 h =>
 runH (aQ cQ h t20 t19) h fun _ h =>
 runD (cJ t0) h fun t22 h =>
 runD (fitD cQ (aD h t22)) h fun t23 h =>
 runD (cJ t0) h fun t25 h =>
 runD (fitD cQ (aD h t25)) h fun t26 h =>
 runD (binD cQ .shl t26 (.int .u64 17)) h fun t27 h =>
 runD (binD cQ .xor t23 t27) h fun t28 h =>
 runD (cJ t0) h fun t29 h =>
 runH (aQ cQ h t29 t28) h fun _ h =>
 runD (cJ t0) h fun t31 h =>
 runD (fitD cQ (aD h t31)) h fun t32 h =>
 K (.ret t32) h
def aV.loops : Nat → bX
 | _ => ⟨[], [], [], [], [], []⟩
def aV.H (c : Ctx) (t0 : AV) (t1 : AV) (t2 : AV) (t3 : AV) (h : List AObj) (K : AOut → List AObj → Prop) : Prop :=
 runD (binD aA .sub t1 (.int .i64 1)) h fun t11 h =>
 runD (binD aA .add t1 (.int .i64 1)) h fun t14 h =>
 bB false c (.fn (.func 146) [] []) [t0, t11, t1, t14, t2, t3] h (fun t17 h =>
 K (.ret t17) h)
 (fun v h => K (.pan v) h)
theorem aW.eq (F : List (FuncId × aF)) (S : List (FuncId × Con)) (t0 t1 t2 t3 : AV) (h : List AObj) (K : AOut → List AObj → Prop) : funW (ctx F S aW.loops) Tryz.f127 [t0, t1, t2, t3] h K = aW.H (ctx F S aW.loops) t0 t1 t2 t3 h K := by kernel_rfl
theorem aT.eq (F : List (FuncId × aF)) (S : List (FuncId × Con)) (t0 t1 t2 t3 : AV) (h : List AObj) (K : AOut → List AObj → Prop) : funW (ctx F S aT.loops) Tryz.f128 [t0, t1, t2, t3] h K = aT.H (ctx F S aT.loops) t0 t1 t2 t3 h K := by kernel_rfl
theorem aU.eq (F : List (FuncId × aF)) (S : List (FuncId × Con)) (t0 t1 t2 t3 : AV) (h : List AObj) (K : AOut → List AObj → Prop) : funW (ctx F S aU.loops) Tryz.f130 [t0, t1, t2, t3] h K = aU.H (ctx F S aU.loops) t0 t1 t2 t3 h K := by kernel_rfl
theorem bC.eq (F : List (FuncId × aF)) (S : List (FuncId × Con)) (t0 t1 t2 t3 t4 : AV) (h : List AObj) (K : AOut → List AObj → Prop) : funW (ctx F S bC.loops) Tryz.f142 [t0, t1, t2, t3, t4] h K = bC.H (ctx F S bC.loops) t0 t1 t2 t3 t4 h K := by kernel_rfl
theorem cF.eq (F : List (FuncId × aF)) (S : List (FuncId × Con)) (t0 : AV) (h : List AObj) (K : AOut → List AObj → Prop) : funW (ctx F S cF.loops) Tryz.f143 [t0] h K = cF.H (ctx F S cF.loops) t0 h K := by kernel_rfl
theorem cC.eq (F : List (FuncId × aF)) (S : List (FuncId × Con)) (t0 : AV) (h : List AObj) (K : AOut → List AObj → Prop) : funW (ctx F S cC.loops) Tryz.f144 [t0] h K = cC.H (ctx F S cC.loops) t0 h K := by kernel_rfl
theorem aV.eq (F : List (FuncId × aF)) (S : List (FuncId × Con)) (t0 t1 t2 t3 : AV) (h : List AObj) (K : AOut → List AObj → Prop) : funW (ctx F S aV.loops) Tryz.f145 [t0, t1, t2, t3] h K = aV.H (ctx F S aV.loops) t0 t1 t2 t3 h K := by kernel_rfl
theorem aW.at : Tryz.prog.funcs[127]? = some Tryz.f127 := by kernel_rfl
theorem aW.nm : (Tryz.f127.name == "runtime.NumGoroutine") = false := by kernel_rfl
theorem aW.bd : Tryz.f127.body.isNone = false := by kernel_rfl
theorem aT.at : Tryz.prog.funcs[128]? = some Tryz.f128 := by kernel_rfl
theorem aT.nm : (Tryz.f128.name == "runtime.NumGoroutine") = false := by kernel_rfl
theorem aT.bd : Tryz.f128.body.isNone = false := by kernel_rfl
theorem aU.at : Tryz.prog.funcs[130]? = some Tryz.f130 := by kernel_rfl
theorem aU.nm : (Tryz.f130.name == "runtime.NumGoroutine") = false := by kernel_rfl
theorem aU.bd : Tryz.f130.body.isNone = false := by kernel_rfl
theorem bC.at : Tryz.prog.funcs[142]? = some Tryz.f142 := by kernel_rfl
theorem bC.nm : (Tryz.f142.name == "runtime.NumGoroutine") = false := by kernel_rfl
theorem bC.bd : Tryz.f142.body.isNone = false := by kernel_rfl
theorem cF.at : Tryz.prog.funcs[143]? = some Tryz.f143 := by kernel_rfl
theorem cF.nm : (Tryz.f143.name == "runtime.NumGoroutine") = false := by kernel_rfl
theorem cF.bd : Tryz.f143.body.isNone = false := by kernel_rfl
theorem cC.at : Tryz.prog.funcs[144]? = some Tryz.f144 := by kernel_rfl
theorem cC.nm : (Tryz.f144.name == "runtime.NumGoroutine") = false := by kernel_rfl
theorem cC.bd : Tryz.f144.body.isNone = false := by kernel_rfl
theorem aV.at : Tryz.prog.funcs[145]? = some Tryz.f145 := by kernel_rfl
theorem aV.nm : (Tryz.f145.name == "runtime.NumGoroutine") = false := by kernel_rfl
theorem aV.bd : Tryz.f145.body.isNone = false := by kernel_rfl
end Lam
namespace Lam
open Go Go.Proofs
def cM.loops : Nat → bX
 | _ => ⟨[], [], [], [], [], []⟩
def cM.H (c : Ctx) (t0 : AV) (t1 : AV) (h : List AObj) (K : AOut → List AObj → Prop) : Prop :=
 bB false c (.fn (.func 121) [] []) [t0] h (fun t8 h =>
 bB false c (.fn (.func 121) [] []) [t1] h (fun t10 h =>
 aZ t8
 (aZ t10
 (K (.ret (.int .i64 0)) h)
 (K (.ret (.int .i64 (-1))) h))
 (aZ t10
 (K (.ret (.int .i64 1)) h)
 (runD (binD bS .lss t0 t1) h fun t16 h =>
 aZ t16
 (K (.ret (.int .i64 (-1))) h)
 (runD (binD bS .gtr t0 t1) h fun t19 h =>
 aZ t19
 (K (.ret (.int .i64 1)) h)
 (K (.ret (.int .i64 0)) h)))))
 (fun v h => K (.pan v) h))
 (fun v h => K (.pan v) h)
def cU.loops : Nat → bX
 | _ => ⟨[], [], [], [], [], []⟩
def cU.H (c : Ctx) (t0 : AV) (h : List AObj) (K : AOut → List AObj → Prop) : Prop :=
 runD (binD bS .neq t0 t0) h fun t5 h =>
 K (.ret t5) h
theorem cM.eq (F : List (FuncId × aF)) (S : List (FuncId × Con)) (t0 t1 : AV) (h : List AObj) (K : AOut → List AObj → Prop) : funW (ctx F S cM.loops) Tryz.f110 [t0, t1] h K = cM.H (ctx F S cM.loops) t0 t1 h K := by kernel_rfl
theorem cU.eq (F : List (FuncId × aF)) (S : List (FuncId × Con)) (t0 : AV) (h : List AObj) (K : AOut → List AObj → Prop) : funW (ctx F S cU.loops) Tryz.f121 [t0] h K = cU.H (ctx F S cU.loops) t0 h K := by kernel_rfl
theorem cM.at : Tryz.prog.funcs[110]? = some Tryz.f110 := by kernel_rfl
theorem cM.nm : (Tryz.f110.name == "runtime.NumGoroutine") = false := by kernel_rfl
theorem cM.bd : Tryz.f110.body.isNone = false := by kernel_rfl
theorem cU.at : Tryz.prog.funcs[121]? = some Tryz.f121 := by kernel_rfl
theorem cU.nm : (Tryz.f121.name == "runtime.NumGoroutine") = false := by kernel_rfl
theorem cU.bd : Tryz.f121.body.isNone = false := by kernel_rfl
end Lam
namespace Lam
open Go Go.Proofs
def cV.loops : Nat → bX
 | _ => ⟨[], [], [], [], [], []⟩
def cV.H (c : Ctx) (t0 : AV) (h : List AObj) (K : AOut → List AObj → Prop) : Prop :=
 aZ (.bool false)
 (runD (iI h qI jH t0) h fun t4 h =>
 bB false c (.fn (.func 134) [] []) [t4] h (fun t5 h =>
 K (.ret t5) h)
 (fun v h => K (.pan v) h))
 (bB false c (.fn (.func 135) [] []) [t0] h (fun t7 h =>
 K (.ret t7) h)
 (fun v h => K (.pan v) h))
def dA.loops : Nat → bX
 | _ => ⟨[], [], [], [], [], []⟩
def dA.H (c : Ctx) (t0 : AV) (h : List AObj) (K : AOut → List AObj → Prop) : Prop :=
 runD (binD kJ .geq t0 (.int .u64 4294967296)) h fun t4 h =>
 aM (fun (J1 : AV → AV → List AObj → Prop) =>
 aZ t4
 (runD (binD kJ .shr t0 (.int .u64 32)) h fun t6 h =>
 J1 t6 (.int .i64 32) h)
 (J1 t0 (.int .i64 0) h))
 (fun t0 t2 h => runD (binD kJ .geq t0 (.int .u64 65536)) h fun t8 h =>
 aM (fun (J2 : AV → AV → List AObj → Prop) =>
 aZ t8
 (runD (binD kJ .shr t0 (.int .u64 16)) h fun t10 h =>
 runD (binD aA .add t2 (.int .i64 16)) h fun t12 h =>
 J2 t10 t12 h)
 (J2 t0 t2 h))
 (fun t0 t2 h => runD (binD kJ .geq t0 (.int .u64 256)) h fun t14 h =>
 aM (fun (J3 : AV → AV → List AObj → Prop) =>
 aZ t14
 (runD (binD kJ .shr t0 (.int .u64 8)) h fun t16 h =>
 runD (binD aA .add t2 (.int .i64 8)) h fun t18 h =>
 J3 t16 t18 h)
 (J3 t0 t2 h))
 (fun t0 t2 h => runD (iI h kJ kU t0) h fun t21 h =>
 runD (rM bS (.str [0, 1, 2, 2, 3, 3, 3, 3, 4, 4, 4, 4, 4, 4, 4, 4, 5, 5, 5, 5, 5, 5, 5, 5, 5, 5, 5, 5, 5, 5, 5, 5, 6, 6, 6, 6, 6, 6, 6, 6, 6, 6, 6, 6, 6, 6, 6, 6, 6, 6, 6, 6, 6, 6, 6, 6, 6, 6, 6, 6, 6, 6, 6, 6, 7, 7, 7, 7, 7, 7, 7, 7, 7, 7, 7, 7, 7, 7, 7, 7, 7, 7, 7, 7, 7, 7, 7, 7, 7, 7, 7, 7, 7, 7, 7, 7, 7, 7, 7, 7, 7, 7, 7, 7, 7, 7, 7, 7, 7, 7, 7, 7, 7, 7, 7, 7, 7, 7, 7, 7, 7, 7, 7, 7, 7, 7, 7, 7, 8, 8, 8, 8, 8, 8, 8, 8, 8, 8, 8, 8, 8, 8, 8, 8, 8, 8, 8, 8, 8, 8, 8, 8, 8, 8, 8, 8, 8, 8, 8, 8, 8, 8, 8, 8, 8, 8, 8, 8, 8, 8, 8, 8, 8, 8, 8, 8, 8, 8, 8, 8, 8, 8, 8, 8, 8, 8, 8, 8, 8, 8, 8, 8, 8, 8, 8, 8, 8, 8, 8, 8, 8, 8, 8, 8, 8, 8, 8, 8, 8, 8, 8, 8, 8, 8, 8, 8, 8, 8, 8, 8, 8, 8, 8, 8, 8, 8, 8, 8, 8, 8, 8, 8, 8, 8, 8, 8, 8, 8, 8, 8, 8, 8, 8, 8, 8, 8, 8, 8, 8, 8, 8, 8, 8, 8, 8, 8]) t21) h fun t22 h =>
 runD (iI h kU aA t22) h fun t23 h =>
 runD (binD aA .add t2 t23) h fun t24 h =>
 K (.ret t24) h)))
theorem cV.eq (F : List (FuncId × aF)) (S : List (FuncId × Con)) (t0 : AV) (h : List AObj) (K : AOut → List AObj → Prop) : funW (ctx F S cV.loops) Tryz.f120 [t0] h K = cV.H (ctx F S cV.loops) t0 h K := by kernel_rfl
theorem dA.eq (F : List (FuncId × aF)) (S : List (FuncId × Con)) (t0 : AV) (h : List AObj) (K : AOut → List AObj → Prop) : funW (ctx F S dA.loops) Tryz.f135 [t0] h K = dA.H (ctx F S dA.loops) t0 h K := by kernel_rfl
theorem cV.at : Tryz.prog.funcs[120]? = some Tryz.f120 := by kernel_rfl
theorem cV.nm : (Tryz.f120.name == "runtime.NumGoroutine") = false := by kernel_rfl
theorem cV.bd : Tryz.f120.body.isNone = false := by kernel_rfl
theorem dA.at : Tryz.prog.funcs[135]? = some Tryz.f135 := by kernel_rfl
theorem dA.nm : (Tryz.f135.name == "runtime.NumGoroutine") = false := by kernel_rfl
theorem dA.bd : Tryz.f135.body.isNone = false := by kernel_rfl
end Lam
namespace Lam
open Go Go.Proofs
def fO.loops : Nat → bX
 | 2 => ⟨[], [], [], [(3, none), (2, some [17, 19])], [], []⟩
 | _ => ⟨[], [], [], [], [], []⟩
def fO.H (c : Ctx) (t0 : AV) (t1 : AV) (h : List AObj) (K : AOut → List AObj → Prop) : Prop :=
 cK bW h fun t4 h =>
 bB false c (.fn (.func 46) [] []) [t0, t1] h (fun t12 h =>
 runD (bM t12 0) h fun t13 h =>
 runD (bM t12 1) h fun t14 h =>
 cK bK h fun t6 h =>
 runH (aQ bK h t6 t13) h fun _ h =>
 runD (binD dD .neq t14 (.int .i64 0)) h fun t16 h =>
 aM (fun (J1 : AV → AV → List AObj → Prop) =>
 aX t16 false
 (runD (binD aA .geq t1 (.int .i64 256)) h fun t19 h =>
 J1 (.bool false) t19 h)
 (J1 (.bool true) .und h))
 (fun t17 t19 h => runD (bP t17 (.bool true) t19) h fun t20 h =>
 aZ t20
 (runD (gC bW []) h fun t21 h =>
 runH (aQ bW h t4 t21) h fun _ h =>
 cL (fitD bW (aD h t4)) fun r0 => K (.ret (.tup [r0, (.int .i64 90)])) h)
 (runD (aC bK t6 1) h fun t23 h =>
 runD (fitD aA (aD h t23)) h fun t24 h =>
 runD (gC bW [(0, t1), (1, t24)]) h fun t25 h =>
 cK bW h fun t8 h =>
 runH (aQ bW h t8 t25) h fun _ h =>
 runD (fitD bW (aD h t8)) h fun t26 h =>
 bB false c (.fn (.func 67) [] []) [t26] h (fun t27 h =>
 aM (fun (J2 : List AObj → Prop) =>
 aZ t27
 (runD (aC bW t8 2) h fun t28 h =>
 runH (aQ aA h t28 (.int .i64 12)) h fun _ h =>
 J2 h)
 (J2 h))
 (fun h => runD (fitD bW (aD h t8)) h fun t29 h =>
 runH (aQ bW h t4 t29) h fun _ h =>
 cL (fitD bW (aD h t4)) fun r0 => K (.ret (.tup [r0, (.int .i64 0)])) h))
 (fun v h => K (.pan v) h))))
 (fun v h => K (.pan v) h)
def gH.loops : Nat → bX
 | 2 => ⟨[], [], [], [(4, none), (3, some [12, 15]), (2, none), (6, some [17, 23])], [], []⟩
 | 4 => ⟨[], [], [], [(3, none), (2, some [33, 35])], [], []⟩
 | _ => ⟨[], [], [], [], [], []⟩
def gH.H (c : Ctx) (t0 : AV) (t1 : AV) (h : List AObj) (K : AOut → List AObj → Prop) : Prop :=
 boxW bW t1 h fun t3 h =>
 cK bW h fun t4 h =>
 runD (aC bW t3 0) h fun t9 h =>
 runD (fitD aA (aD h t9)) h fun t10 h =>
 runD (binD aA .geq t10 (.int .i64 0)) h fun t11 h =>
 aM (fun (J1 : AV → AV → List AObj → Prop) =>
 aX t11 true
 (runD (aC bW t3 0) h fun t13 h =>
 runD (fitD aA (aD h t13)) h fun t14 h =>
 runD (binD aA .lss t14 (.int .i64 256)) h fun t15 h =>
 J1 (.bool true) t15 h)
 (J1 (.bool false) .und h))
 (fun t12 t15 h => runD (bP t12 t15 (.bool false)) h fun t16 h =>
 aM (fun (J2 : AV → AV → List AObj → Prop) =>
 aX t16 true
 (runD (aC bW t3 0) h fun t18 h =>
 runD (fitD aA (aD h t18)) h fun t19 h =>
 runD (lenD aP h t0) h fun t21 h =>
 runD (binD aA .quo t21 (.int .i64 16)) h fun t22 h =>
 runD (binD aA .lss t19 t22) h fun t23 h =>
 J2 (.bool true) t23 h)
 (J2 (.bool false) .und h))
 (fun t17 t23 h => runD (bP t17 t23 (.bool false)) h fun t24 h =>
 aM (fun (J3 : AV → List AObj → Prop) =>
 aZ t24
 (runD (aC bW t3 0) h fun t25 h =>
 runD (fitD aA (aD h t25)) h fun t26 h =>
 runD (binD aA .mul (.int .i64 16) t26) h fun t27 h =>
 runD (aC bW t3 2) h fun t28 h =>
 runD (fitD aA (aD h t28)) h fun t29 h =>
 bB false c (.fn (.func 68) [] []) [t27, t29] h (fun t30 h =>
 J3 t30 h)
 (fun v h => K (.pan v) h))
 (J3 (.int .i64 (-1)) h))
 (fun t5 h => runD (aC bW t3 4) h fun t31 h =>
 runD (fitD lT (aD h t31)) h fun t32 h =>
 aM (fun (J4 : AV → AV → List AObj → Prop) =>
 aX t32 false
 (runD (binD aA .lss t5 (.int .i64 0)) h fun t35 h =>
 J4 (.bool false) t35 h)
 (J4 (.bool true) .und h))
 (fun t33 t35 h => runD (bP t33 (.bool true) t35) h fun t36 h =>
 aZ t36
 (runD (fitD bW (aD h t3)) h fun t37 h =>
 runH (aQ bW h t4 t37) h fun _ h =>
 cL (fitD bW (aD h t4)) fun r0 => K (.ret r0) h)
 (runD (fitD bW (aD h t3)) h fun t38 h =>
 runD (aH aP h t0 t5) h fun t41 h =>
 runD (fitD aA (aD h t41)) h fun t42 h =>
 runD (gC eE [(0, t38), (1, t42)]) h fun t43 h =>
 boxW eE t43 h fun t44 h =>
 runD (aC bW t3 3) h fun t46 h =>
 runD (fitD aP (aD h t46)) h fun t47 h =>
 bB false c (.fn (.func 34) [] []) [t47] h (fun t48 h =>
 runD (cJ t44) h fun t49 h =>
 runD (aC eE t49 0) h fun t50 h =>
 runD (aC bW t50 3) h fun t51 h =>
 runH (aQ aP h t51 t48) h fun _ h =>
 runD (aC bW t3 3) h fun t52 h =>
 runD (fitD aP (aD h t52)) h fun t53 h =>
 runD (lenD aP h t53) h fun t54 h =>
 runD (cJ t44) h fun t56 h =>
 runD (aC eE t56 1) h fun t57 h =>
 runD (fitD aA (aD h t57)) h fun t58 h =>
 runD (binD aA .gtr t58 (.int .i64 0)) h fun t59 h =>
 aM (fun (J5 : AV → AV → List AObj → Prop) =>
 aX t59 true
 (runD (binD aA .eql t54 (.int .i64 0)) h fun t62 h =>
 aM (fun (J6 : AV → AV → List AObj → Prop) =>
 aX t62 false
 (runD (aC bW t3 3) h fun t64 h =>
 runD (fitD aP (aD h t64)) h fun t65 h =>
 runD (binD aA .sub t54 (.int .i64 1)) h fun t67 h =>
 runD (aH aP h t65 t67) h fun t68 h =>
 runD (fitD aA (aD h t68)) h fun t69 h =>
 runD (cJ t44) h fun t71 h =>
 runD (aC eE t71 1) h fun t72 h =>
 runD (fitD aA (aD h t72)) h fun t73 h =>
 runD (binD aA .neq t69 t73) h fun t74 h =>
 J6 (.bool false) t74 h)
 (J6 (.bool true) .und h))
 (fun t63 t74 h => runD (bP t63 (.bool true) t74) h fun t75 h =>
 J5 (.bool true) t75 h))
 (J5 (.bool false) .und h))
 (fun t60 t75 h => runD (bP t60 t75 (.bool false)) h fun t76 h =>
 aM (fun (J7 : List AObj → Prop) =>
 aZ t76
 (runD (cJ t44) h fun t79 h =>
 runD (aC eE t79 0) h fun t80 h =>
 runD (aC bW t80 3) h fun t81 h =>
 runD (fitD aP (aD h t81)) h fun t82 h =>
 runD (cJ t44) h fun t84 h =>
 runD (aC eE t84 1) h fun t85 h =>
 runD (fitD aA (aD h t85)) h fun t86 h =>
 runD (fD aP 1 [(0, t86)] h.length) h fun t87 h =>
 jE (fT aP h t82 t87 h.length) (gJ aP h t82 t87) h fun t88 h =>
 runD (cJ t44) h fun t89 h =>
 runD (aC eE t89 0) h fun t90 h =>
 runD (aC bW t90 3) h fun t91 h =>
 runH (aQ aP h t91 t88) h fun _ h =>
 J7 h)
 (J7 h))
 (fun h => runD (fitD bW (aD h t3)) h fun t94 h =>
 bB false c (.fn (.func 67) [] []) [t94] h (fun t95 h =>
 aM (fun (J8 : AV → List AObj → Prop) =>
 aZ t95
 (J8 (.fn (.func 70) [t44] []) h)
 (J8 (.fn (.func 69) [t44] []) h))
 (fun t8 h => bB false c t8 [] h (fun t99 h =>
 runD (cJ t44) h fun t101 h =>
 runD (aC eE t101 0) h fun t102 h =>
 runD (fitD bW (aD h t102)) h fun t103 h =>
 runH (aQ bW h t4 t103) h fun _ h =>
 cL (fitD bW (aD h t4)) fun r0 => K (.ret r0) h)
 (fun v h => K (.pan v) h)))
 (fun v h => K (.pan v) h))))
 (fun v h => K (.pan v) h))))))
def dU.loops : Nat → bX
 | _ => ⟨[], [], [], [], [], []⟩
def dU.H (c : Ctx) (t0 : AV) (h : List AObj) (K : AOut → List AObj → Prop) : Prop :=
 boxW bW t0 h fun t1 h =>
 runD (aC bW t1 1) h fun t3 h =>
 runD (fitD aA (aD h t3)) h fun t4 h =>
 runD (binD aA .and t4 (.int .i64 1)) h fun t5 h =>
 runD (binD aA .eql t5 (.int .i64 1)) h fun t6 h =>
 K (.ret t6) h
def cT.loops : Nat → bX
 | 0 => ⟨[], [], [], [(7, none), (6, some [8, 14])], [], []⟩
 | _ => ⟨[], [], [], [], [], []⟩
def cT.H (c : Ctx) (t0 : AV) (h : List AObj) (K : AOut → List AObj → Prop) : Prop :=
 runD (cJ t0) h fun t4 h =>
 runD (aC eE t4 1) h fun t5 h =>
 runD (fitD aA (aD h t5)) h fun t6 h =>
 runD (binD aA .lss t6 (.int .i64 1)) h fun t7 h =>
 aM (fun (J1 : AV → AV → List AObj → Prop) =>
 aX t7 false
 (runD (cJ t0) h fun t10 h =>
 runD (aC eE t10 0) h fun t11 h =>
 runD (aC bW t11 2) h fun t12 h =>
 runD (fitD aA (aD h t12)) h fun t13 h =>
 runD (binD aA .eql t13 (.int .i64 12)) h fun t14 h =>
 J1 (.bool false) t14 h)
 (J1 (.bool true) .und h))
 (fun t8 t14 h => runD (bP t8 (.bool true) t14) h fun t15 h =>
 runD (cJ t0) h fun t16 h =>
 runD (aC eE t16 0) h fun t17 h =>
 runD (aC bW t17 4) h fun t18 h =>
 runH (aQ lT h t18 t15) h fun _ h =>
 runD (cJ t0) h fun t20 h =>
 runD (aC eE t20 0) h fun t21 h =>
 runD (aC bW t21 4) h fun t22 h =>
 runD (fitD lT (aD h t22)) h fun t23 h =>
 runD (unD .not t23) h fun t24 h =>
 aM (fun (J2 : List AObj → Prop) =>
 aZ t24
 (runD (cJ t0) h fun t26 h =>
 runD (aC eE t26 0) h fun t27 h =>
 runD (aC bW t27 2) h fun t28 h =>
 runD (fitD aA (aD h t28)) h fun t29 h =>
 runD (binD aA .add t29 (.int .i64 1)) h fun t30 h =>
 runD (cJ t0) h fun t31 h =>
 runD (aC eE t31 0) h fun t32 h =>
 runD (aC bW t32 2) h fun t33 h =>
 runH (aQ aA h t33 t30) h fun _ h =>
 J2 h)
 (J2 h))
 (fun h => K (.ret (.tup [])) h))
def cI.loops : Nat → bX
 | _ => ⟨[], [], [], [], [], []⟩
def cI.H (c : Ctx) (t0 : AV) (h : List AObj) (K : AOut → List AObj → Prop) : Prop :=
 runD (cJ t0) h fun t4 h =>
 runD (aC eE t4 0) h fun t5 h =>
 runD (aC bW t5 2) h fun t6 h =>
 runD (fitD aA (aD h t6)) h fun t7 h =>
 runD (binD aA .eql t7 (.int .i64 0)) h fun t8 h =>
 runD (cJ t0) h fun t9 h =>
 runD (aC eE t9 0) h fun t10 h =>
 runD (aC bW t10 4) h fun t11 h =>
 runH (aQ lT h t11 t8) h fun _ h =>
 runD (cJ t0) h fun t13 h =>
 runD (aC eE t13 0) h fun t14 h =>
 runD (aC bW t14 4) h fun t15 h =>
 runD (fitD lT (aD h t15)) h fun t16 h =>
 runD (unD .not t16) h fun t17 h =>
 aM (fun (J1 : List AObj → Prop) =>
 aZ t17
 (runD (cJ t0) h fun t19 h =>
 runD (aC eE t19 0) h fun t20 h =>
 runD (aC bW t20 2) h fun t21 h =>
 runD (fitD aA (aD h t21)) h fun t22 h =>
 runD (binD aA .sub t22 (.int .i64 1)) h fun t23 h =>
 runD (cJ t0) h fun t24 h =>
 runD (aC eE t24 0) h fun t25 h =>
 runD (aC bW t25 2) h fun t26 h =>
 runH (aQ aA h t26 t23) h fun _ h =>
 J1 h)
 (J1 h))
 (fun h => K (.ret (.tup [])) h)
def fP.loops : Nat → bX
 | 2 => ⟨[], [], [], [(3, none), (5, some [16, 21])], [], []⟩
 | _ => ⟨[], [], [], [], [], []⟩
def fP.H (c : Ctx) (t0 : AV) (t1 : AV) (h : List AObj) (K : AOut → List AObj → Prop) : Prop :=
 boxW bW t1 h fun t3 h =>
 runD (aC bW t3 0) h fun t9 h =>
 runD (fitD aA (aD h t9)) h fun t10 h =>
 bB false c (.fn (.func 46) [] []) [t0, t10] h (fun t11 h =>
 runD (bM t11 0) h fun t12 h =>
 runD (bM t11 1) h fun t13 h =>
 cK bK h fun t5 h =>
 runH (aQ bK h t5 t12) h fun _ h =>
 runD (binD dD .eql t13 (.int .i64 0)) h fun t15 h =>
 aM (fun (J1 : AV → AV → List AObj → Prop) =>
 aX t15 true
 (runD (aC bK t5 1) h fun t17 h =>
 runD (fitD aA (aD h t17)) h fun t18 h =>
 runD (aC bW t3 1) h fun t19 h =>
 runD (fitD aA (aD h t19)) h fun t20 h =>
 runD (binD aA .eql t18 t20) h fun t21 h =>
 J1 (.bool true) t21 h)
 (J1 (.bool false) .und h))
 (fun t16 t21 h => runD (bP t16 t21 (.bool false)) h fun t22 h =>
 K (.ret t22) h))
 (fun v h => K (.pan v) h)
def fB.loops : Nat → bX
 | 3 => ⟨[4, 14], [true, false], [0, 5, 12, 13], [], [], []⟩
 | 6 => ⟨[], [], [], [(3, none), (5, some [26, 31])], [], []⟩
 | _ => ⟨[], [], [], [], [], []⟩
def fB.L1 (c : Ctx) (J1 : AV → List AObj → Prop) (K : AOut → List AObj → Prop) (lv : List AV) (h0 : List AObj) (n0 : Nat) (c0 : AV) (c5 : AV) (c12 : AV) (c13 : AV) : Prop :=
 ∃ I : Nat → List AV → List AObj → Prop, (∃ n, I n lv h0) ∧ ∀ n h, ∀ t4, ∀ t14, I n [t4, t14] h →
 runD (binD aA .lss t14 c13) h fun t15 h =>
 aZ t15
 (runD (aH aP h c12 t14) h fun t16 h =>
 runD (fitD aA (aD h t16)) h fun t17 h =>
 bB false c (.fn (.func 79) [] []) [c0, t17] h (fun t21 h =>
 runD (bM t21 0) h fun t22 h =>
 runD (bM t21 1) h fun t23 h =>
 cK aK h fun t8 h =>
 runH (aQ aK h t8 t22) h fun _ h =>
 runD (binD dD .eql t23 (.int .i64 0)) h fun t25 h =>
 aM (fun (J2 : AV → AV → List AObj → Prop) =>
 aX t25 true
 (runD (aC aK t8 1) h fun t28 h =>
 runD (fitD bS (aD h t28)) h fun t29 h =>
 runD (kS kL h c5 t29) h fun t30 h =>
 runD (unD .not t30) h fun t31 h =>
 J2 (.bool true) t31 h)
 (J2 (.bool false) .und h))
 (fun t26 t31 h => runD (bP t26 t31 (.bool false)) h fun t32 h =>
 aM (fun (J3 : AV → List AObj → Prop) =>
 aZ t32
 (runD (aC aK t8 1) h fun t34 h =>
 runD (fitD bS (aD h t34)) h fun t35 h =>
 runH (iQ kL h c5 t35 (.bool true)) h fun _ h =>
 runD (fitD aK (aD h t8)) h fun t37 h =>
 runD (fD aS 1 [(0, t37)] h.length) h fun t38 h =>
 jE (fT aS h t4 t38 h.length) (gJ aS h t4 t38) h fun t39 h =>
 J3 t39 h)
 (J3 t4 h))
 (fun t4 h => runD (binD aA .add t14 (.int .i64 1)) h fun t40 h =>
 (∃ m, m < n ∧ I m (AV.norms n0 h [t4, t40]) (cG n0 h)) ∧ AV.norms n0 h [c0, c5, c12, c13] = [c0, c5, c12, c13])))
 (fun v h => K (.pan v) h))
 (J1 t4 h)
def fB.H (c : Ctx) (t0 : AV) (t1 : AV) (h : List AObj) (K : AOut → List AObj → Prop) : Prop :=
 boxW bW t1 h fun t3 h =>
 runD (jP kL h.length) h fun t10 h =>
 runD (aC bW t3 3) h fun t11 h =>
 runD (fitD aP (aD h t11)) h fun t12 h =>
 runD (lenD aP h t12) h fun t13 h =>
 aM (fun (J1 : AV → List AObj → Prop) =>
 dE [true, false] [(.sl true (.recs [])), (.int .i64 0)] h fun lv h => fB.L1 c J1 K (AV.norms h.length h lv) (cG h.length h) h.length (AV.norm h.length h t0) (AV.norm h.length h t10) (AV.norm h.length h t12) (AV.norm h.length h t13))
 (fun t4 h => bB false c (.fn (.func 108) [] []) [t4, (.fn (.func 109) [] [])] h (fun t42 h =>
 K (.ret t4) h)
 (fun v h => K (.pan v) h))
def bT.loops : Nat → bX
 | _ => ⟨[], [], [], [], [], []⟩
def bT.H (c : Ctx) (t0 : AV) (t1 : AV) (h : List AObj) (K : AOut → List AObj → Prop) : Prop :=
 boxW aK t0 h fun t2 h =>
 boxW aK t1 h fun t3 h =>
 runD (aC aK t2 1) h fun t5 h =>
 runD (fitD bS (aD h t5)) h fun t6 h =>
 runD (aC aK t3 1) h fun t7 h =>
 runD (fitD bS (aD h t7)) h fun t8 h =>
 bB false c (.fn (.func 110) [] []) [t6, t8] h (fun t9 h =>
 K (.ret t9) h)
 (fun v h => K (.pan v) h)
theorem fO.eq (F : List (FuncId × aF)) (S : List (FuncId × Con)) (t0 t1 : AV) (h : List AObj) (K : AOut → List AObj → Prop) : funW (ctx F S fO.loops) Tryz.f40 [t0, t1] h K = fO.H (ctx F S fO.loops) t0 t1 h K := by kernel_rfl
theorem gH.eq (F : List (FuncId × aF)) (S : List (FuncId × Con)) (t0 t1 : AV) (h : List AObj) (K : AOut → List AObj → Prop) : funW (ctx F S gH.loops) Tryz.f41 [t0, t1] h K = gH.H (ctx F S gH.loops) t0 t1 h K := by kernel_rfl
theorem dU.eq (F : List (FuncId × aF)) (S : List (FuncId × Con)) (t0 : AV) (h : List AObj) (K : AOut → List AObj → Prop) : funW (ctx F S dU.loops) Tryz.f67 [t0] h K = dU.H (ctx F S dU.loops) t0 h K := by kernel_rfl
theorem cT.eq (F : List (FuncId × aF)) (S : List (FuncId × Con)) (t0 : AV) (h : List AObj) (K : AOut → List AObj → Prop) : funW (ctx F S cT.loops) Tryz.f69 [t0] h K = cT.H (ctx F S cT.loops) t0 h K := by kernel_rfl
theorem cI.eq (F : List (FuncId × aF)) (S : List (FuncId × Con)) (t0 : AV) (h : List AObj) (K : AOut → List AObj → Prop) : funW (ctx F S cI.loops) Tryz.f70 [t0] h K = cI.H (ctx F S cI.loops) t0 h K := by kernel_rfl
theorem fP.eq (F : List (FuncId × aF)) (S : List (FuncId × Con)) (t0 t1 : AV) (h : List AObj) (K : AOut → List AObj → Prop) : funW (ctx F S fP.loops) Tryz.f71 [t0, t1] h K = fP.H (ctx F S fP.loops) t0 t1 h K := by kernel_rfl
theorem fB.eq (F : List (FuncId × aF)) (S : List (FuncId × Con)) (t0 t1 : AV) (h : List AObj) (K : AOut → List AObj → Prop) : funW (ctx F S fB.loops) Tryz.f89 [t0, t1] h K = fB.H (ctx F S fB.loops) t0 t1 h K := by kernel_rfl
theorem bT.eq (F : List (FuncId × aF)) (S : List (FuncId × Con)) (t0 t1 : AV) (h : List AObj) (K : AOut → List AObj → Prop) : funW (ctx F S bT.loops) Tryz.f109 [t0, t1] h K = bT.H (ctx F S bT.loops) t0 t1 h K := by kernel_rfl
theorem fO.at : Tryz.prog.funcs[40]? = some Tryz.f40 := by kernel_rfl
theorem fO.nm : (Tryz.f40.name == "runtime.NumGoroutine") = false := by kernel_rfl
theorem fO.bd : Tryz.f40.body.isNone = false := by kernel_rfl
theorem gH.at : Tryz.prog.funcs[41]? = some Tryz.f41 := by kernel_rfl
theorem gH.nm : (Tryz.f41.name == "runtime.NumGoroutine") = false := by kernel_rfl
theorem gH.bd : Tryz.f41.body.isNone = false := by kernel_rfl
theorem dU.at : Tryz.prog.funcs[67]? = some Tryz.f67 := by kernel_rfl
theorem dU.nm : (Tryz.f67.name == "runtime.NumGoroutine") = false := by kernel_rfl
theorem dU.bd : Tryz.f67.body.isNone = false := by kernel_rfl
theorem cT.at : Tryz.prog.funcs[69]? = some Tryz.f69 := by kernel_rfl
theorem cT.nm : (Tryz.f69.name == "runtime.NumGoroutine") = false := by kernel_rfl
theorem cT.bd : Tryz.f69.body.isNone = false := by kernel_rfl
theorem cI.at : Tryz.prog.funcs[70]? = some Tryz.f70 := by kernel_rfl
theorem cI.nm : (Tryz.f70.name == "runtime.NumGoroutine") = false := by kernel_rfl
theorem cI.bd : Tryz.f70.body.isNone = false := by kernel_rfl
theorem fP.at : Tryz.prog.funcs[71]? = some Tryz.f71 := by kernel_rfl
theorem fP.nm : (Tryz.f71.name == "runtime.NumGoroutine") = false := by kernel_rfl
theorem fP.bd : Tryz.f71.body.isNone = false := by kernel_rfl
theorem fB.at : Tryz.prog.funcs[89]? = some Tryz.f89 := by kernel_rfl
theorem fB.nm : (Tryz.f89.name == "runtime.NumGoroutine") = false := by kernel_rfl
theorem fB.bd : Tryz.f89.body.isNone = false := by kernel_rfl
theorem bT.at : Tryz.prog.funcs[109]? = some Tryz.f109 := by kernel_rfl
theorem bT.nm : (Tryz.f109.name == "runtime.NumGoroutine") = false := by kernel_rfl
theorem bT.bd : Tryz.f109.body.isNone = false := by kernel_rfl
end Lam
namespace Lam
open Go Go.Proofs
def cmpI (a b : bF) : Int := if ltB a b = true then -1 else if ltB b a = true then 1 else 0
theorem iE {a b : bF} : (cmpI a b < 0) ↔ ltB a b = true := by
  unfold cmpI
  split
  · rename_i h; simp [h]
  · rename_i h
    split
    · simp [h]
    · simp [h]
def cU.C : aF
  | [.str _] => some (false, pD True (.bool false))
  | _ => none
theorem cU.spec : bJ Tryz.prog 121 cU.C := by
  refine bJ.of (bU (F := []) (S := []) (by simp) (by simp) cU.loops) cU.at cU.nm cU.bd ?_
  intro vs b S v news e hS
  unfold cU.C at e
  split at e
  rotate_left
  · cases e
  cases e
  rw [cU.eq]
  unfold cU.H
  simp (maxSteps := 4000000) only [go_sem, reduceEqDiff, Nat.reduceLT, reduceAdd, reduceSub, reduceLeDiff, reduceReplicate, reduceToNat]
  exact aJ rfl rfl
def cM.C : aF
  | [.str a, .str b] => some (false, pD True (.int .i64 (cmpI a b)))
  | _ => none
theorem cM.spec : bJ Tryz.prog 110 cM.C := by
  refine bJ.of (bU (F := [(121, cU.C)]) (S := []) (by simpa using cU.spec) (by simp) cM.loops) cM.at cM.nm cM.bd ?_
  intro vs b S v news e hS
  unfold cM.C at e
  split at e
  rotate_left
  · cases e
  cases e
  rw [cM.eq]
  unfold cM.H
  simp (maxSteps := 4000000) only [go_sem, reduceEqDiff, Nat.reduceLT, reduceAdd, reduceSub, reduceLeDiff, reduceReplicate, reduceToNat, cU.C]
  rename_i a b
  unfold cmpI
  refine ⟨fun h => ?_, fun h => ⟨fun h2 => ?_, fun h2 => ?_⟩⟩
  · rw [h]; exact aJ rfl rfl
  · rw [h, h2]; exact aJ rfl rfl
  · rw [h, h2]; exact aJ rfl rfl
def bT.C : aF
  | [.agg [.int .i64 a, .str b, .str c, .int .i64 d], .agg [.int .i64 e, .str f, .str g, .int .i64 i]] => some (false, pD True (.int .i64 (cmpI b f)))
  | _ => none
theorem bT.spec : bJ Tryz.prog 109 bT.C := by
  refine bJ.of (bU (F := [(110, cM.C)]) (S := []) (by simpa using cM.spec) (by simp) bT.loops) bT.at bT.nm bT.bd ?_
  intro vs b S v news e hS
  unfold bT.C at e
  split at e
  rotate_left
  · cases e
  cases e
  rw [bT.eq]
  unfold bT.H
  simp (maxSteps := 4000000) only [go_sem, reduceEqDiff, Nat.reduceLT, reduceAdd, reduceSub, reduceLeDiff, reduceReplicate, reduceToNat, cM.C]
  exact aJ rfl rfl
structure SkT where
  block : Int
  turn : Int
  at_ : Int
  refs : List Int
  over : Bool
def SkT.V (s : SkT) : AV := .agg [.int .i64 s.block, .int .i64 s.turn, .int .i64 s.at_, .sl false (.ints .i64 s.refs), .bool s.over]
theorem SkT.norm (s : SkT) (n : Nat) (h : List AObj) : AV.norm n h s.V = s.V := by simp only [SkT.V, go_sem, reduceEqDiff, Nat.reduceLT, reduceAdd, reduceSub, reduceLeDiff, reduceReplicate, reduceToNat]
def hpS (A : SkT) (m : bF → Bool) (v : Nat) (l : List RecT) (T : List AObj) : List AObj := .box A.V :: .map (.sb m) :: .row .own v (.recs l) :: T
def OkT (T : List AObj) : Prop := ∀ k h, T.map (pS k h) = T
theorem OkT.nil : OkT [] := fun _ _ => rfl
theorem OkT.snoc {T : List AObj} (h : OkT T) (k : IntKind) (n : Int) : OkT (T ++ [.box (.int k n)]) := fun i g => by
  rw [List.map_append, h i g]; rfl
theorem pG (T : List AObj) (y : AObj) : (T ++ [y])[T.length]? = some y := by simp
theorem xT : ∀ (T : List AObj) (y z : AObj), (T ++ [y]).set T.length z = T ++ [z]
  | [], _, _ => rfl
  | a :: T, y, z => congrArg (a :: ·) (xT T y z)
abbrev hitF : AV := .fn (.func 109) [] []
theorem gX : (⟨0, [], [], 0⟩ : RecT) = d0 := rfl
theorem iR (l : List RecT) (i : Nat) : (⟨(l.getD i d0).kind, kyL l i, (l.getD i d0).val, (l.getD i d0).child⟩ : RecT) = l.getD i d0 := rfl
theorem gW (l : List RecT) (i : Nat) : (l.getD i d0).key = kyL l i := rfl
theorem gT (l : List RecT) (i j : Nat) : (l.set i (l.getD j d0)).set j (l.getD i d0) = fY l i j := rfl
def bN.K : Con := fun args h K => match args with
  | [a0, a1, a2, a3, a4] => bN.H (ctx [(109, bT.C)] [] bN.loops) a0 a1 a2 a3 a4 h K
  | _ => False
theorem bN.spec : dB Tryz.prog 151 bN.K := by
  refine dB.of (bU (F := [(109, bT.C)]) (S := []) (by simpa using bT.spec) (by simp) bN.loops) bN.at bN.nm bN.bd ?_
  intro args h K hC
  unfold bN.K at hC
  split at hC
  · rw [bN.eq]; exact hC
  · exact hC.elim
theorem aBD (A : SkT) (m : bF → Bool) (v : Nat) (l : List RecT) (T : List AObj) (hT : OkT T) (s : Nat) (n a b : Nat) (hs : s < 100000) (hn : n = l.length) (ha : a < n) (hb : b < n) (hr : roomy n) (K : AOut → List AObj → Prop)
    (hK : ∀ (a' b' : Nat) (s' : Nat), a' < n → b' < n → (s' = s ∨ s' = s + 1) → (a' = a ∨ a' = b) → (b' = a ∨ b' = b) → K (.ret (.tup [.int .i64 a', .int .i64 b'])) (hpS A m v l (T ++ [.box (.int .i64 (s' : Int))]))) :
    bN.K [.sref false 2 v 0 n, .int .i64 a, .int .i64 b, .ptr (T.length + 1 + 1 + 1) [], hitF] (hpS A m v l (T ++ [.box (.int .i64 (s : Int))])) K := by
  unfold bN.K bN.H hpS
  simp only [pG, xT, List.map_cons, List.map_nil, bT.C, gX, gW, iE, aB, gq, reduceEq, reduceLT, reduceLE, implies_true, reduceCtorEq, if_true, if_false, go_sem, reduceEqDiff, Nat.reduceLT, reduceAdd, reduceSub, reduceLeDiff, reduceReplicate, reduceToNat]
  refine ⟨⟨by omega, by omega⟩, by omega, ⟨by omega, by omega⟩, by omega, fun h => ?_, fun h => ?_⟩
  · rw [eX (by omega)]
    exact hK b a (s + 1) hb ha (.inr rfl) (.inr rfl) (.inl rfl)
  · exact hK a b s ha hb (.inl rfl) (.inl rfl) (.inr rfl)
def bH.K : Con := fun args h K => match args with
  | [a0, a1, a2, a3, a4, a5] => bH.H (ctx [(109, bT.C)] [(151, bN.K)] bH.loops) a0 a1 a2 a3 a4 a5 h K
  | _ => False
theorem bH.spec : dB Tryz.prog 146 bH.K := by
  refine dB.of (bU (F := [(109, bT.C)]) (S := [(151, bN.K)]) (by simpa using bT.spec) (by simpa using bN.spec) bH.loops) bH.at bH.nm bH.bd ?_
  intro args h K hC
  unfold bH.K at hC
  split at hC
  · rw [bH.eq]; exact hC
  · exact hC.elim
theorem aBE (A : SkT) (m : bF → Bool) (v : Nat) (l : List RecT) (T : List AObj) (hT : OkT T) (s : Nat) (n a b d : Nat) (hs : s < 90000) (hn : n = l.length) (ha : a < n) (hb : b < n) (hd : d < n) (hr : roomy n) (K : AOut → List AObj → Prop)
    (hK : ∀ (a' : Nat) (s' : Nat), (a' = a ∨ a' = b ∨ a' = d) → s' ≤ s + 3 → K (.ret (.int .i64 a')) (hpS A m v l (T ++ [.box (.int .i64 (s' : Int))]))) :
    bH.K [.sref false 2 v 0 n, .int .i64 a, .int .i64 b, .int .i64 d, .ptr (T.length + 1 + 1 + 1) [], hitF] (hpS A m v l (T ++ [.box (.int .i64 (s : Int))])) K := by
  unfold bH.K bH.H
  simp only [hpS, List.map_cons, List.map_nil, aB, gq, reduceEq, reduceLT, reduceLE, implies_true, reduceCtorEq, if_true, if_false, go_sem, reduceEqDiff, Nat.reduceLT, reduceAdd, reduceSub, reduceLeDiff, reduceReplicate, reduceToNat]
  refine aBD A m v l T hT s n a b (by omega) hn ha hb hr _ fun a1 b1 s1 h1 h2 h3 h4 h5 => ?_
  simp only [hpS, List.map_cons, List.map_nil, aB, gq, reduceEq, reduceLT, reduceLE, implies_true, reduceCtorEq, if_true, if_false, go_sem, reduceEqDiff, Nat.reduceLT, reduceAdd, reduceSub, reduceLeDiff, reduceReplicate, reduceToNat]
  refine aBD A m v l T hT s1 n b1 d (by omega) hn h2 hd hr _ fun b2 d2 s2 g1 g2 g3 g4 g5 => ?_
  simp only [hpS, List.map_cons, List.map_nil, aB, gq, reduceEq, reduceLT, reduceLE, implies_true, reduceCtorEq, if_true, if_false, go_sem, reduceEqDiff, Nat.reduceLT, reduceAdd, reduceSub, reduceLeDiff, reduceReplicate, reduceToNat]
  refine aBD A m v l T hT s2 n a1 b2 (by omega) hn h1 g1 hr _ fun a3 b3 s3 k1 k2 k3 k4 k5 => ?_
  simp only [hpS, List.map_cons, List.map_nil, aB, gq, reduceEq, reduceLT, reduceLE, implies_true, reduceCtorEq, if_true, if_false, go_sem, reduceEqDiff, Nat.reduceLT, reduceAdd, reduceSub, reduceLeDiff, reduceReplicate, reduceToNat]
  exact hK b3 s3 (by omega) (by omega)
def aV.K : Con := fun args h K => match args with
  | [a0, a1, a2, a3] => aV.H (ctx [] [(146, bH.K)] aV.loops) a0 a1 a2 a3 h K
  | _ => False
theorem aV.spec : dB Tryz.prog 145 aV.K := by
  refine dB.of (bU (F := []) (S := [(146, bH.K)]) (by simp) (by simpa using bH.spec) aV.loops) aV.at aV.nm aV.bd ?_
  intro args h K hC
  unfold aV.K at hC
  split at hC
  · rw [aV.eq]; exact hC
  · exact hC.elim
theorem xU (A : SkT) (m : bF → Bool) (v : Nat) (l : List RecT) (T : List AObj) (hT : OkT T) (s : Nat) (n a : Nat) (hs : s < 80000) (hn : n = l.length) (ha : 0 < a) (ha2 : a + 1 < n) (hr : roomy n) (K : AOut → List AObj → Prop)
    (hK : ∀ (a' : Nat) (s' : Nat), a ≤ a' + 1 → a' ≤ a + 1 → s' ≤ s + 3 → K (.ret (.int .i64 a')) (hpS A m v l (T ++ [.box (.int .i64 (s' : Int))]))) :
    aV.K [.sref false 2 v 0 n, .int .i64 a, .ptr (T.length + 1 + 1 + 1) [], hitF] (hpS A m v l (T ++ [.box (.int .i64 (s : Int))])) K := by
  have hr' := hr
  unfold roomy at hr'
  have e1 : IntKind.i64.wrap ((a : Int) - 1) = ((a - 1 : Nat) : Int) := by rw [w64 (by omega) (by omega)]; omega
  unfold aV.K aV.H
  simp only [hpS, List.map_cons, List.map_nil, e1, eX (show a < 4611686018427387904 by omega), aB, gq, reduceEq, reduceLT, reduceLE, implies_true, reduceCtorEq, if_true, if_false, go_sem, reduceEqDiff, Nat.reduceLT, reduceAdd, reduceSub, reduceLeDiff, reduceReplicate, reduceToNat]
  refine aBE A m v l T hT s n _ _ _ (by omega) hn (by omega) (by omega) (by omega) hr _ fun a1 s1 h1 h2 => ?_
  simp only [hpS, List.map_cons, List.map_nil, aB, gq, reduceEq, reduceLT, reduceLE, implies_true, reduceCtorEq, if_true, if_false, go_sem, reduceEqDiff, Nat.reduceLT, reduceAdd, reduceSub, reduceLeDiff, reduceReplicate, reduceToNat]
  exact hK a1 s1 (by omega) (by omega) h2
def bG.K : Con := fun args h K => match args with
  | [a0, a1, a2, a3] => bG.H (ctx [] [(145, aV.K), (146, bH.K)] bG.loops) a0 a1 a2 a3 h K
  | _ => False
theorem bG.spec : dB Tryz.prog 129 bG.K := by
  refine dB.of (bU (F := []) (S := [(145, aV.K), (146, bH.K)]) (by simp) (by simpa using ⟨aV.spec, bH.spec⟩) bG.loops) bG.at bG.nm bG.bd ?_
  intro args h K hC
  unfold bG.K at hC
  split at hC
  · rw [bG.eq]; exact hC
  · exact hC.elim
theorem aLb (A : SkT) (m : bF → Bool) (v : Nat) (l : List RecT) (T : List AObj) (hT : OkT T) (n a b : Nat) (hn : n = l.length) (hab : a < b) (hbn : b ≤ n) (hr : roomy n) (K : AOut → List AObj → Prop)
    (hK : ∀ (p : Nat) (e : Nat) (s : Int), a ≤ p → p < b → e ≤ 2 → K (.ret (.tup [.int .i64 p, .int .i64 e])) (hpS A m v l (T ++ [.box (.int .i64 s)]))) :
    bG.K [.sref false 2 v 0 n, .int .i64 a, .int .i64 b, hitF] (hpS A m v l T) K := by
  unfold bG.K bG.H
  have hr' := hr
  unfold roomy at hr'
  have e0 : IntKind.i64.wrap ((b : Int) - a) = ((b - a : Nat) : Int) := by rw [w64 (by omega) (by omega)]; omega
  have e1 : ((b - a : Nat) : Int).tdiv 4 = (((b - a) / 4 : Nat) : Int) := by rw [Int.tdiv_eq_ediv_of_nonneg (by omega)]; omega
  obtain ⟨q, hq⟩ : ∃ q, (b - a) / 4 = q := ⟨_, rfl⟩
  have e2 : IntKind.i64.wrap (q : Int) = q := w64 (by omega) (by omega)
  have e3 : ∀ k : Nat, k ≤ 3 → IntKind.i64.wrap ((a : Int) + IntKind.i64.wrap ((q : Int) * k)) = ((a + q * k : Nat) : Int) := fun k hk => by
    have : q * k ≤ q * 3 := Nat.mul_le_mul_left q hk
    rw [w64 (n := (q : Int) * k) (by rw [← Int.natCast_mul]; omega) (by rw [← Int.natCast_mul]; omega), ← Int.natCast_mul, w64 (by omega) (by omega)]; omega
  have e31 := e3 1 (by decide)
  have e32 := e3 2 (by decide)
  have e33 := e3 3 (by decide)
  simp only [Int.natCast_one, Int.cast_ofNat_Int] at e31 e32 e33
  simp only [hpS, List.map_cons, List.map_nil, List.cons_append, e0, e1, hq, e2, e31, e32, e33, aB, gq, reduceEq, reduceLT, reduceLE, implies_true, reduceCtorEq, if_true, if_false, go_sem, reduceEqDiff, Nat.reduceLT, reduceAdd, reduceSub, reduceLeDiff, reduceReplicate, reduceToNat]
  have hfin : ∀ (p : Nat) (s : Int), a ≤ p → p < b → ((s = 0 → K (.ret (.tup [.int .i64 p, .int .i64 1])) (hpS A m v l (T ++ [.box (.int .i64 s)]))) ∧ (¬ s = 0 → (s = 12 → K (.ret (.tup [.int .i64 p, .int .i64 2])) (hpS A m v l (T ++ [.box (.int .i64 s)]))) ∧ (¬ s = 12 → K (.ret (.tup [.int .i64 p, .int .i64 0])) (hpS A m v l (T ++ [.box (.int .i64 s)]))))) := fun p s h1 h2 => ⟨fun _ => hK p 1 s h1 h2 (by decide), fun _ => ⟨fun _ => hK p 2 s h1 h2 (by decide), fun _ => hK p 0 s h1 h2 (by decide)⟩⟩
  refine ⟨fun h8 => ⟨fun h50 => ?_, fun _ => ?_⟩, fun h8 => ?_⟩
  · refine xU A m v l T hT 0 n _ (by decide) hn (by omega) (by omega) hr _ fun p1 s1 h1 h2 h3 => ?_
    simp only [hpS, aB, gq, reduceEq, reduceLT, reduceLE, implies_true, reduceCtorEq, if_true, if_false, go_sem, reduceEqDiff, Nat.reduceLT, reduceAdd, reduceSub, reduceLeDiff, reduceReplicate, reduceToNat]
    refine xU A m v l T hT s1 n _ (by omega) hn (by omega) (by omega) hr _ fun p2 s2 g1 g2 g3 => ?_
    simp only [hpS, aB, gq, reduceEq, reduceLT, reduceLE, implies_true, reduceCtorEq, if_true, if_false, go_sem, reduceEqDiff, Nat.reduceLT, reduceAdd, reduceSub, reduceLeDiff, reduceReplicate, reduceToNat]
    refine xU A m v l T hT s2 n _ (by omega) hn (by omega) (by omega) hr _ fun p3 s3 k1 k2 k3 => ?_
    simp only [hpS, aB, gq, reduceEq, reduceLT, reduceLE, implies_true, reduceCtorEq, if_true, if_false, go_sem, reduceEqDiff, Nat.reduceLT, reduceAdd, reduceSub, reduceLeDiff, reduceReplicate, reduceToNat]
    refine aBE A m v l T hT s3 n _ _ _ (by omega) hn (by omega) (by omega) (by omega) hr _ fun p s hp hs => ?_
    simp only [hpS, pG, aB, gq, reduceEq, reduceLT, reduceLE, implies_true, reduceCtorEq, if_true, if_false, go_sem, reduceEqDiff, Nat.reduceLT, reduceAdd, reduceSub, reduceLeDiff, reduceReplicate, reduceToNat]
    exact hfin p s (by omega) (by omega)
  · refine aBE A m v l T hT 0 n _ _ _ (by decide) hn (by omega) (by omega) (by omega) hr _ fun p s hp hs => ?_
    simp only [hpS, pG, aB, gq, reduceEq, reduceLT, reduceLE, implies_true, reduceCtorEq, if_true, if_false, go_sem, reduceEqDiff, Nat.reduceLT, reduceAdd, reduceSub, reduceLeDiff, reduceReplicate, reduceToNat]
    exact hfin p s (by omega) (by omega)
  · simp only [hpS, pG, aB, gq, reduceEq, reduceLT, reduceLE, implies_true, reduceCtorEq, if_true, if_false, go_sem, reduceEqDiff, Nat.reduceLT, reduceAdd, reduceSub, reduceLeDiff, reduceReplicate, reduceToNat]
    exact hK (a + q * 2) 1 0 (by omega) (by omega) (by decide)
def aO.K : Con := fun args h K => match args with
  | [a0, a1, a2, a3] => aO.H (ctx [(109, bT.C)] [] aO.loops) a0 a1 a2 a3 h K
  | _ => False
theorem aO.spec : dB Tryz.prog 126 aO.K := by
  refine dB.of (bU (F := [(109, bT.C)]) (S := []) (by simpa using bT.spec) (by simp) aO.loops) aO.at aO.nm aO.bd ?_
  intro args h K hC
  unfold aO.K at hC
  split at hC
  · rw [aO.eq]; exact hC
  · exact hC.elim
theorem aRA (A : SkT) (m : bF → Bool) (v : Nat) (l : List RecT) (T : List AObj) (hTn : OkT T) (n a b : Nat) (hn : n = l.length) (hab : a ≤ b) (hbn : b ≤ n) (hr : roomy n) (K : AOut → List AObj → Prop)
    (hK : ∀ l', SegP a b l l' → SegS a b l' → K (.ret (.tup [])) (hpS A m v l' T)) :
    aO.K [.sref false 2 v 0 n, .int .i64 a, .int .i64 b, hitF] (hpS A m v l T) K := by
  have hr' := hr
  unfold roomy at hr'
  have h2 : 2 < T.length + 1 + 1 + 1 := by omega
  unfold aO.K aO.H
  simp only [hpS, hTn _ _, SkT.norm, h2, aB, gq, reduceEq, reduceLT, reduceLE, implies_true, reduceCtorEq, if_true, if_false, go_sem, reduceEqDiff, Nat.reduceLT, reduceAdd, reduceSub, reduceLeDiff, reduceReplicate, reduceToNat] at hK ⊢
  rw [eX (by omega)]
  unfold aO.L1
  refine lD (σ := List RecT × Nat) (fun s => .int .i64 s.2) (fun s => .box A.V :: .map (.sb m) :: .row .own v (.recs s.1) :: T) (fun s => n + 1 - s.2) (fun s => a + 1 ≤ s.2 ∧ (s.2 ≤ b ∨ s.2 = a + 1) ∧ SegP a b l s.1 ∧ SegS a s.2 s.1) (l, a + 1) rfl rfl ⟨by simp, by simp, SegP.refl, SegS.one (by simp)⟩ ?_
  rintro I back ⟨l1, i⟩ ⟨hi1, hi2, hp, hs⟩
  simp only at hi1 hi2 hp hs ⊢
  have hl1 := hp.len
  simp only [hTn _ _, SkT.norm, h2, aB, aB, gq, reduceEq, reduceLT, reduceLE, implies_true, reduceCtorEq, if_true, if_false, go_sem, reduceEqDiff, Nat.reduceLT, reduceAdd, reduceSub, reduceLeDiff, reduceReplicate, reduceToNat]
  refine ⟨fun hlt => ?_, fun hge => hK l1 hp fun p q h1 h2 h3 => hs p q h1 h2 (by omega)⟩
  unfold aO.L2
  refine lD (σ := List RecT × Nat) (fun s => .int .i64 s.2) (fun s => .box A.V :: .map (.sb m) :: .row .own v (.recs s.1) :: T) (fun s => s.2) (fun s => a ≤ s.2 ∧ s.2 ≤ i ∧ SegP a b l s.1 ∧ InsS a s.2 (i + 1) s.1) (l1, i) rfl rfl ⟨by simp only; omega, by simp, hp, InsS.begin hs⟩ ?_
  rintro I2 back2 ⟨l2, j⟩ ⟨hj1, hj2, hp2, hs2⟩
  simp only at hj1 hj2 hp2 hs2 ⊢
  have hl2 := hp2.len
  have hnx : SegS a (i + 1) l2 → ∃ m1, m1 < n + 1 - i ∧ I m1 [.int .i64 (IntKind.i64.wrap ((i : Int) + 1))] (.box A.V :: .map (.sb m) :: .row .own v (.recs l2) :: T) := fun h => back (l2, i + 1) (by simp only; omega) (by simp only; rw [eX (by omega)]) rfl ⟨by simp only; omega, .inl (by simp only; omega), hp2, h⟩
  by_cases hja : a < j
  · have e1 : IntKind.i64.wrap ((j : Int) - 1) = ((j - 1 : Nat) : Int) := by rw [w64 (by omega) (by omega)]; omega
    have d1 : decide ((a : Int) < (j : Int)) = true := decide_eq_true (by omega)
    simp only [hTn _ _, SkT.norm, h2, aB, d1, e1, Int.toNat_natCast, bT.C, gX, gW, iE, iR, gT, List.length_set, aB, gq, reduceEq, reduceLT, reduceLE, implies_true, reduceCtorEq, if_true, if_false, go_sem, reduceEqDiff, Nat.reduceLT, reduceAdd, reduceSub, reduceLeDiff, reduceReplicate, reduceToNat]
    refine ⟨⟨by omega, by omega⟩, by omega, ⟨by omega, by omega⟩, by omega, fun h => ⟨⟨by omega, by omega⟩, by omega, ⟨by omega, by omega⟩, by omega, ⟨by omega, by omega⟩, by omega, ⟨by omega, by omega⟩, by omega, back2 (fY l2 j (j - 1), j - 1) (by simp only; omega) rfl rfl ⟨by simp only; omega, by simp only; omega, hp2.trans (SegP.swap (by omega) (by omega) (by omega) (by omega) (by omega)), hs2.step hja (by omega) (by omega) h⟩⟩, fun h => hnx (hs2.done hj1 (by omega) (.inr (by unfold leB; simpa using h)))⟩
  · obtain rfl : j = a := by omega
    have d1 : decide ((j : Int) < (j : Int)) = false := decide_eq_false (by omega)
    simp only [hTn _ _, SkT.norm, h2, aB, d1, aB, gq, reduceEq, reduceLT, reduceLE, implies_true, reduceCtorEq, if_true, if_false, go_sem, reduceEqDiff, Nat.reduceLT, reduceAdd, reduceSub, reduceLeDiff, reduceReplicate, reduceToNat]
    exact hnx (hs2.done (Nat.le_refl _) (by omega) (.inl rfl))
def aE.K : Con := fun args h K => match args with
  | [a0, a1, a2, a3] => aE.H (ctx [(109, bT.C)] [] aE.loops) a0 a1 a2 a3 h K
  | _ => False
theorem aE.spec : dB Tryz.prog 131 aE.K := by
  refine dB.of (bU (F := [(109, bT.C)]) (S := []) (by simpa using bT.spec) (by simp) aE.loops) aE.at aE.nm aE.bd ?_
  intro args h K hC
  unfold aE.K at hC
  split at hC
  · rw [aE.eq]; exact hC
  · exact hC.elim
def PreS (a b : Nat) (l : List RecT) : Prop := a = 0 ∨ ∀ k, a ≤ k → k < b → leB (kyL l (a - 1)) (kyL l k)
theorem PreS.keep {a b : Nat} {l l' : List RecT} (h : PreS a b l) (s : SegP a b l l') : PreS a b l' := by
  rcases Nat.eq_zero_or_pos a with h0 | h0
  · exact .inl h0
  · rcases h with h | h
    · exact .inl h
    · refine .inr fun k h1 h2 => ?_
      rw [s.same (k := a - 1) (by omega)]
      exact s.le (x := kyL l (a - 1)) h k h1 h2
theorem aKc (c : Ctx) (hd : c.drawn = false) (hf : c.envF 109 = bT.C) (A : SkT) (m : bF → Bool) (v : Nat) (l : List RecT) (T : List AObj) (n a b i jc : Nat) (hTn : OkT T) (hn : n = l.length) (ha : a + 1 < i) (hi : i < n) (hp : PreS a i l) (hr : roomy n) (h0 : InsS a (i - 1) i l)
    (J : AV → AV → AV → AV → AV → AV → List AObj → Prop) (K : AOut → List AObj → Prop)
    (hJ : ∀ l', SegP a i l l' → SegS a i l' → J (.sref false 2 v 0 n) (.int .i64 a) (.int .i64 b) hitF (.int .i64 i) (.int .i64 jc) (.box A.V :: .map (.sb m) :: .row .own v (.recs l') :: T)) :
    aE.L3 c J K [.int .i64 ((i - 1 : Nat) : Int)] (.box A.V :: .map (.sb m) :: .row .own v (.recs l) :: T) (T.length + 1 + 1 + 1) (.sref false 2 v 0 n) (.int .i64 a) (.int .i64 b) hitF (.int .i64 i) (.int .i64 jc) := by
  have hr' := hr
  unfold roomy at hr'
  have h2 : 2 < T.length + 1 + 1 + 1 := by omega
  unfold aE.L3
  refine lD (σ := List RecT × Nat) (fun s => .int .i64 s.2) (fun s => .box A.V :: .map (.sb m) :: .row .own v (.recs s.1) :: T) (fun s => s.2) (fun s => a ≤ s.2 ∧ s.2 < i ∧ SegP a i l s.1 ∧ InsS a s.2 i s.1) (l, i - 1) rfl rfl ⟨by simp only; omega, by simp only; omega, SegP.refl, h0⟩ ?_
  rintro I back ⟨l2, j⟩ ⟨hj1, hj2, hp2, hs2⟩
  simp only at hj1 hj2 hp2 hs2 ⊢
  have hl2 := hp2.len
  by_cases hj0 : 1 ≤ j
  · have e1 : IntKind.i64.wrap ((j : Int) - 1) = ((j - 1 : Nat) : Int) := by rw [w64 (by omega) (by omega)]; omega
    have d1 : decide ((1 : Int) ≤ (j : Int)) = true := decide_eq_true (by omega)
    cases hlt : ltB (kyL l2 j) (kyL l2 (j - 1)) with
    | false =>
      simp only [hTn _ _, SkT.norm, h2, aB, d1, e1, hd, hf, hlt, Int.toNat_natCast, bT.C, gX, gW, iE, aB, gq, reduceEq, reduceLT, reduceLE, implies_true, reduceCtorEq, if_true, if_false, go_sem, reduceEqDiff, Nat.reduceLT, reduceAdd, reduceSub, reduceLeDiff, reduceReplicate, reduceToNat]
      refine ⟨⟨by omega, by omega⟩, by omega, ⟨by omega, by omega⟩, by omega, hJ l2 hp2 (hs2.done hj1 hj2 ?_)⟩
      rcases Nat.eq_or_lt_of_le hj1 with h | h
      · exact .inl h.symm
      · exact .inr hlt
    | true =>
      have hja : a < j := by
        rcases Nat.eq_or_lt_of_le hj1 with h | h
        · subst h
          rcases hp.keep hp2 with h | h
          · omega
          · have := h a (Nat.le_refl _) hj2
            unfold leB at this
            rw [hlt] at this; cases this
        · exact h
      simp only [hTn _ _, SkT.norm, h2, aB, d1, e1, hd, hf, hlt, Int.toNat_natCast, bT.C, gX, gW, iE, iR, gT, List.length_set, aB, gq, reduceEq, reduceLT, reduceLE, implies_true, reduceCtorEq, if_true, if_false, go_sem, reduceEqDiff, Nat.reduceLT, reduceAdd, reduceSub, reduceLeDiff, reduceReplicate, reduceToNat]
      refine ⟨⟨by omega, by omega⟩, by omega, ⟨by omega, by omega⟩, by omega, ⟨by omega, by omega⟩, by omega, ⟨by omega, by omega⟩, by omega, ⟨by omega, by omega⟩, by omega, ⟨by omega, by omega⟩, by omega, back (fY l2 j (j - 1), j - 1) (by simp only; omega) rfl rfl ⟨by simp only; omega, by simp only; omega, hp2.trans (SegP.swap (by omega) (by omega) (by omega) (by omega) (by omega)), hs2.step hja hj2 (by omega) hlt⟩⟩
  · have d1 : decide ((1 : Int) ≤ (j : Int)) = false := decide_eq_false (by omega)
    simp only [hTn _ _, SkT.norm, h2, aB, d1, aB, gq, reduceEq, reduceLT, reduceLE, implies_true, reduceCtorEq, if_true, if_false, go_sem, reduceEqDiff, Nat.reduceLT, reduceAdd, reduceSub, reduceLeDiff, reduceReplicate, reduceToNat]
    exact hJ l2 hp2 (hs2.done hj1 hj2 (.inl (by omega)))
theorem aIJ (c : Ctx) (hd : c.drawn = false) (hf : c.envF 109 = bT.C) (A : SkT) (m : bF → Bool) (v : Nat) (l : List RecT) (T : List AObj) (n a b i jc : Nat) (hTn : OkT T) (hn : n = l.length) (hi : i + 1 < b) (hb : b ≤ n) (hr : roomy n)
    (J : AV → AV → AV → AV → AV → AV → List AObj → Prop) (K : AOut → List AObj → Prop)
    (hJ : ∀ l', SegP i b l l' → J (.sref false 2 v 0 n) (.int .i64 a) (.int .i64 b) hitF (.int .i64 i) (.int .i64 jc) (.box A.V :: .map (.sb m) :: .row .own v (.recs l') :: T)) :
    aE.L4 c J K [.int .i64 ((i + 1 : Nat) : Int)] (.box A.V :: .map (.sb m) :: .row .own v (.recs l) :: T) (T.length + 1 + 1 + 1) (.sref false 2 v 0 n) (.int .i64 a) (.int .i64 b) hitF (.int .i64 i) (.int .i64 jc) := by
  have hr' := hr
  unfold roomy at hr'
  have h2 : 2 < T.length + 1 + 1 + 1 := by omega
  unfold aE.L4
  refine lD (σ := List RecT × Nat) (fun s => .int .i64 s.2) (fun s => .box A.V :: .map (.sb m) :: .row .own v (.recs s.1) :: T) (fun s => b - s.2) (fun s => i + 1 ≤ s.2 ∧ s.2 ≤ b ∧ SegP i b l s.1) (l, i + 1) rfl rfl ⟨Nat.le_refl _, by simp only; omega, SegP.refl⟩ ?_
  rintro I back ⟨l2, j⟩ ⟨hj1, hj2, hp2⟩
  simp only at hj1 hj2 hp2 ⊢
  have hl2 := hp2.len
  by_cases hj0 : j < b
  · have e1 : IntKind.i64.wrap ((j : Int) - 1) = ((j - 1 : Nat) : Int) := by rw [w64 (by omega) (by omega)]; omega
    have d1 : decide ((j : Int) < (b : Int)) = true := decide_eq_true (by omega)
    cases hlt : ltB (kyL l2 j) (kyL l2 (j - 1)) with
    | false =>
      simp only [hTn _ _, SkT.norm, h2, aB, d1, e1, hd, hf, hlt, Int.toNat_natCast, bT.C, gX, gW, iE, aB, gq, reduceEq, reduceLT, reduceLE, implies_true, reduceCtorEq, if_true, if_false, go_sem, reduceEqDiff, Nat.reduceLT, reduceAdd, reduceSub, reduceLeDiff, reduceReplicate, reduceToNat]
      exact ⟨⟨by omega, by omega⟩, by omega, ⟨by omega, by omega⟩, by omega, hJ l2 hp2⟩
    | true =>
      simp only [hTn _ _, SkT.norm, h2, aB, d1, e1, hd, hf, hlt, Int.toNat_natCast, bT.C, gX, gW, iE, iR, gT, List.length_set, aB, gq, reduceEq, reduceLT, reduceLE, implies_true, reduceCtorEq, if_true, if_false, go_sem, reduceEqDiff, Nat.reduceLT, reduceAdd, reduceSub, reduceLeDiff, reduceReplicate, reduceToNat]
      refine ⟨⟨by omega, by omega⟩, by omega, ⟨by omega, by omega⟩, by omega, ⟨by omega, by omega⟩, by omega, ⟨by omega, by omega⟩, by omega, ⟨by omega, by omega⟩, by omega, ⟨by omega, by omega⟩, by omega, back (fY l2 j (j - 1), j + 1) (by simp only; omega) (by rw [eX (by omega)]) rfl ⟨by simp only; omega, by simp only; omega, hp2.trans (SegP.swap (by omega) (by omega) (by omega) (by omega) (by omega))⟩⟩
  · have d1 : decide ((j : Int) < (b : Int)) = false := decide_eq_false (by omega)
    simp only [hTn _ _, SkT.norm, h2, aB, d1, aB, gq, reduceEq, reduceLT, reduceLE, implies_true, reduceCtorEq, if_true, if_false, go_sem, reduceEqDiff, Nat.reduceLT, reduceAdd, reduceSub, reduceLeDiff, reduceReplicate, reduceToNat]
    exact hJ l2 hp2
theorem aNc (A : SkT) (m : bF → Bool) (v : Nat) (l : List RecT) (T : List AObj) (hTn : OkT T) (n a b : Nat) (hn : n = l.length) (hab : a < b) (hbn : b ≤ n) (hpre : PreS a b l) (hr : roomy n) (K : AOut → List AObj → Prop)
    (hK1 : ∀ l', SegP a b l l' → SegS a b l' → K (.ret (.bool true)) (hpS A m v l' T)) (hK2 : ∀ l', SegP a b l l' → K (.ret (.bool false)) (hpS A m v l' T)) :
    aE.K [.sref false 2 v 0 n, .int .i64 a, .int .i64 b, hitF] (hpS A m v l T) K := by
  have hr' := hr
  unfold roomy at hr'
  have h2 : 2 < T.length + 1 + 1 + 1 := by omega
  unfold aE.K aE.H
  simp only [hpS, hTn _ _, SkT.norm, h2, aB, gq, reduceEq, reduceLT, reduceLE, implies_true, reduceCtorEq, if_true, if_false, go_sem, reduceEqDiff, Nat.reduceLT, reduceAdd, reduceSub, reduceLeDiff, reduceReplicate, reduceToNat] at hK1 hK2 ⊢
  rw [eX (by omega)]
  unfold aE.L1
  refine aAu (σ := List RecT × Nat × Nat) (fun s => .int .i64 s.2.1) (fun s => .int .i64 s.2.2) (fun s => .box A.V :: .map (.sb m) :: .row .own v (.recs s.1) :: T) (fun s => 5 - s.2.2) (fun s => s.2.2 ≤ 5 ∧ a + 1 ≤ s.2.1 ∧ s.2.1 ≤ b ∧ SegP a b l s.1 ∧ SegS a s.2.1 s.1) (l, a + 1, 0) rfl rfl ⟨Nat.zero_le _, Nat.le_refl _, by simp only; omega, SegP.refl, SegS.one (Nat.le_refl _)⟩ ?_
  rintro I back ⟨l1, i0, jc⟩ ⟨hjc, hi1, hi2, hp, hs⟩
  simp only at hjc hi1 hi2 hp hs ⊢
  have hl1 := hp.len
  by_cases hj5 : jc < 5
  rotate_left
  · have d1 : decide ((jc : Int) < 5) = false := decide_eq_false (by omega)
    simp only [hTn _ _, SkT.norm, h2, aB, d1, aB, gq, reduceEq, reduceLT, reduceLE, implies_true, reduceCtorEq, if_true, if_false, go_sem, reduceEqDiff, Nat.reduceLT, reduceAdd, reduceSub, reduceLeDiff, reduceReplicate, reduceToNat]
    exact hK2 l1 hp
  have d0 : decide ((jc : Int) < 5) = true := decide_eq_true (by omega)
  simp only [hTn _ _, SkT.norm, h2, aB, d0, aB, gq, reduceEq, reduceLT, reduceLE, implies_true, reduceCtorEq, if_true, if_false, go_sem, reduceEqDiff, Nat.reduceLT, reduceAdd, reduceSub, reduceLeDiff, reduceReplicate, reduceToNat]
  unfold aE.L2
  refine lD (σ := Nat) (fun i => .int .i64 i) (fun s => .box A.V :: .map (.sb m) :: .row .own v (.recs l1) :: T) (fun i => b - i) (fun i => a + 1 ≤ i ∧ i ≤ b ∧ SegS a i l1) i0 rfl rfl ⟨hi1, hi2, hs⟩ ?_
  rintro I2 back2 i ⟨hi1, hi2, hs⟩
  have e1 : IntKind.i64.wrap ((i : Int) - 1) = ((i - 1 : Nat) : Int) := by rw [w64 (by omega) (by omega)]; omega
  have e2 : IntKind.i64.wrap ((b : Int) - a) = ((b - a : Nat) : Int) := by rw [w64 (by omega) (by omega)]; omega
  have e3 : IntKind.i64.wrap ((i : Int) - a) = ((i - a : Nat) : Int) := by rw [w64 (by omega) (by omega)]; omega
  have e4 : IntKind.i64.wrap ((b : Int) - i) = ((b - i : Nat) : Int) := by rw [w64 (by omega) (by omega)]; omega
  by_cases hib : i < b
  · have d1 : decide ((i : Int) < (b : Int)) = true := decide_eq_true (by omega)
    have d2 : decide ((i : Int) = (b : Int)) = false := decide_eq_false (by omega)
    cases hlt : ltB (kyL l1 i) (kyL l1 (i - 1)) with
    | false =>
      simp only [hTn _ _, SkT.norm, h2, aB, d1, e1, e2, hlt, Int.toNat_natCast, bT.C, gX, gW, iE, iR, gT, List.length_set, aB, gq, reduceEq, reduceLT, reduceLE, implies_true, reduceCtorEq, if_true, if_false, go_sem, reduceEqDiff, Nat.reduceLT, reduceAdd, reduceSub, reduceLeDiff, reduceReplicate, reduceToNat]
      refine ⟨⟨by omega, by omega⟩, by omega, ⟨by omega, by omega⟩, by omega, ?_⟩
      refine back2 (i + 1) (by omega) (by rw [eX (by omega)]) rfl ⟨by omega, by omega, ?_⟩
      intro p q h1 h2 h3
      by_cases hq : q = i
      · subst hq
        by_cases hp : p = q - 1
        · subst hp; exact hlt
        · exact rX (hs p (q - 1) h1 (by omega) (by omega)) hlt
      · exact hs p q h1 h2 (by omega)
    | true =>
      have hsw : SegP a b l (fY l1 i (i - 1)) := hp.trans (SegP.swap (by omega) (by omega) (by omega) (by omega) (by omega))
      have hins : InsS a (i - 1) i (fY l1 i (i - 1)) := fun p q h1 h2 h3 h4 => by
        rw [iN (by omega) (by omega), iN (by omega) (by omega), if_neg (by omega), if_neg (by omega), if_neg (by omega), if_neg (by omega)]
        exact hs p q h1 h2 (by omega)
      have hsl : (fY l1 i (i - 1)).length = n := by rw [mI]; omega
      simp only [hTn _ _, SkT.norm, h2, aB, d1, d2, e1, e2, e3, e4, hlt, Int.toNat_natCast, bT.C, gX, gW, iE, iR, gT, List.length_set, eX (show i < 4611686018427387904 by omega), aB, gq, reduceEq, reduceLT, reduceLE, implies_true, reduceCtorEq, if_true, if_false, go_sem, reduceEqDiff, Nat.reduceLT, reduceAdd, reduceSub, reduceLeDiff, reduceReplicate, reduceToNat]
      generalize fY l1 i (i - 1) = l2 at *
      have hend : ∀ l3, SegP a b l l3 → SegS a i l3 → ∃ m_1, m_1 < 5 - jc ∧ I m_1 [.int .i64 i, .int .i64 ((jc + 1 : Nat) : Int)] (.box A.V :: .map (.sb m) :: .row .own v (.recs l3) :: T) := fun l3 p3 s3 => back (l3, i, jc + 1) (by simp only; omega) rfl rfl ⟨by simp only; omega, hi1, hi2, p3, s3⟩
      have hright : ∀ (c : Ctx), c.drawn = false → c.envF 109 = bT.C → ∀ l3, SegP a b l l3 → SegS a i l3 → ∀ (J : AV → AV → AV → AV → AV → AV → List AObj → Prop) (K : AOut → List AObj → Prop), i + 1 < b → (∀ l4, SegP a b l l4 → SegS a i l4 → J (.sref false 2 v 0 n) (.int .i64 a) (.int .i64 b) hitF (.int .i64 i) (.int .i64 jc) (.box A.V :: .map (.sb m) :: .row .own v (.recs l4) :: T)) → aE.L4 c J K [.int .i64 ((i + 1 : Nat) : Int)] (.box A.V :: .map (.sb m) :: .row .own v (.recs l3) :: T) (T.length + 1 + 1 + 1) (.sref false 2 v 0 n) (.int .i64 a) (.int .i64 b) hitF (.int .i64 i) (.int .i64 jc) := fun c hd hf l3 p3 s3 J K h1 hJ =>
        aIJ c hd hf A m v l3 T n a b i jc hTn (by rw [p3.len]; exact hn) h1 hbn hr J K fun l4 p4 => hJ l4 (p3.trans (p4.mono (by omega) (Nat.le_refl _))) (s3.keep p4 (.inl (Nat.le_refl _)))
      refine ⟨⟨by omega, by omega⟩, by omega, ⟨by omega, by omega⟩, by omega, fun h50 => hK2 l1 hp, fun h50 => ⟨⟨by omega, by omega⟩, by omega, ⟨by omega, by omega⟩, by omega, ⟨by omega, by omega⟩, by omega, ⟨by omega, by omega⟩, by omega, fun hge => ?_, fun hge => ?_⟩⟩
      · have hpr : PreS a i l2 := (hpre.keep hsw).imp id fun h k k1 k2 => h k k1 (by omega)
        refine aKc _ rfl rfl A m v l2 T n a b i jc hTn hsl.symm (by omega) (by omega) hpr hr hins _ _ fun l3 p3 s3 => ?_
        have p3' : SegP a b l l3 := hsw.trans (p3.mono (Nat.le_refl _) (by omega))
        simp only [hTn _ _, SkT.norm, h2, e4, eX (show i < 4611686018427387904 by omega), eX (show jc < 4611686018427387904 by omega), aB, gq, reduceEq, reduceLT, reduceLE, implies_true, reduceCtorEq, if_true, if_false, go_sem, reduceEqDiff, Nat.reduceLT, reduceAdd, reduceSub, reduceLeDiff, reduceReplicate, reduceToNat]
        refine ⟨fun hge2 => hright _ rfl rfl l3 p3' s3 _ _ (by omega) fun l4 p4 s4 => ?_, fun _ => hend l3 p3' s3⟩
        simp only [hTn _ _, SkT.norm, h2, eX (show jc < 4611686018427387904 by omega), aB, gq, reduceEq, reduceLT, reduceLE, implies_true, reduceCtorEq, if_true, if_false, go_sem, reduceEqDiff, Nat.reduceLT, reduceAdd, reduceSub, reduceLeDiff, reduceReplicate, reduceToNat]
        exact hend l4 p4 s4
      · refine ⟨fun hge2 => hright _ rfl rfl l2 hsw (SegS.one (by omega)) _ _ (by omega) fun l4 p4 s4 => ?_, fun _ => by rw [eX (by omega)]; exact hend l2 hsw (SegS.one (by omega))⟩
        simp only [hTn _ _, SkT.norm, h2, eX (show jc < 4611686018427387904 by omega), aB, gq, reduceEq, reduceLT, reduceLE, implies_true, reduceCtorEq, if_true, if_false, go_sem, reduceEqDiff, Nat.reduceLT, reduceAdd, reduceSub, reduceLeDiff, reduceReplicate, reduceToNat]
        exact hend l4 p4 s4
  · obtain rfl : i = b := by omega
    have d1 : decide ((i : Int) < (i : Int)) = false := decide_eq_false (by omega)
    simp only [hTn _ _, SkT.norm, h2, aB, d1, decide_true, aB, gq, reduceEq, reduceLT, reduceLE, implies_true, reduceCtorEq, if_true, if_false, go_sem, reduceEqDiff, Nat.reduceLT, reduceAdd, reduceSub, reduceLeDiff, reduceReplicate, reduceToNat]
    exact hK1 l1 hp hs
def aI.K : Con := fun args h K => match args with
  | [a0, a1, a2, a3, a4] => aI.H (ctx [(109, bT.C)] [] aI.loops) a0 a1 a2 a3 a4 h K
  | _ => False
theorem aI.spec : dB Tryz.prog 133 aI.K := by
  refine dB.of (bU (F := [(109, bT.C)]) (S := []) (by simpa using bT.spec) (by simp) aI.loops) aI.at aI.nm aI.bd ?_
  intro args h K hC
  unfold aI.K at hC
  split at hC
  · rw [aI.eq]; exact hC
  · exact hC.elim
def uU (a b i j : Nat) (l : List RecT) : Prop := a + 1 ≤ i ∧ i ≤ j + 1 ∧ j < b ∧ a ≤ j ∧ (∀ k, a < k → k < i → leB (kyL l k) (kyL l a)) ∧ ∀ k, j < k → k < b → leB (kyL l a) (kyL l k)
theorem uU.swap {a b i j : Nat} {l : List RecT} (h : uU a b i j l) (hij : i < j) (hb : b ≤ l.length) (h1 : leB (kyL l a) (kyL l i)) (h2 : leB (kyL l j) (kyL l a)) : uU a b (i + 1) (j - 1) (fY l i j) := by
  obtain ⟨q1, q2, q3, q4, q5, q6⟩ := h
  have hil : i < l.length := by omega
  have hjl : j < l.length := by omega
  have ea : kyL (fY l i j) a = kyL l a := by rw [iN hil hjl, if_neg (by omega), if_neg (by omega)]
  refine ⟨by omega, by omega, by omega, by omega, fun k k1 k2 => ?_, fun k k1 k2 => ?_⟩
  · rw [ea, iN hil hjl, if_neg (by omega)]
    by_cases e : k = i
    · rw [if_pos e]; exact h2
    · rw [if_neg e]; exact q5 k k1 (by omega)
  · rw [ea, iN hil hjl]
    by_cases e : k = j
    · rw [if_pos e]; exact h1
    · rw [if_neg e, if_neg (by omega)]; exact q6 k (by omega) k2
theorem uU.fin {a b i j : Nat} {l : List RecT} (h : uU a b i j l) (hij : j < i) (hb : b ≤ l.length) : oM a j b (fY l a j) := by
  obtain ⟨q1, q2, q3, q4, q5, q6⟩ := h
  have hal : a < l.length := by omega
  have hjl : j < l.length := by omega
  have ej : kyL (fY l a j) j = kyL l a := by rw [iN hal hjl, if_pos rfl]
  refine ⟨fun k k1 k2 => ?_, fun k k1 k2 => ?_⟩
  · rw [ej, iN hal hjl, if_neg (by omega)]
    by_cases e : k = a
    · rw [if_pos e]; exact q5 j (by omega) (by omega)
    · rw [if_neg e]; exact q5 k (by omega) (by omega)
  · rw [ej, iN hal hjl, if_neg (by omega), if_neg (by omega)]; exact q6 k k1 k2
theorem aCM {l : List RecT} {i j : Nat} (hi : i < l.length) (hj : j < l.length) : fY l i j = fY l j i := by
  refine List.ext_getElem? fun k => ?_
  have h : ∀ k, (fY l i j).getD k d0 = (fY l j i).getD k d0 := fun k => by
    rw [rY hi hj, rY hj hi]
    by_cases e1 : k = j
    · by_cases e2 : k = i
      · rw [if_pos e1, if_pos e2, ← e1, ← e2]
      · rw [if_pos e1, if_neg e2, if_pos e1]
    · rw [if_neg e1, if_neg e1]
  rcases Nat.lt_or_ge k l.length with hk | hk
  · have := h k
    rw [List.getD_eq_getElem?_getD, List.getD_eq_getElem?_getD, List.getElem?_eq_getElem (by rw [mI]; exact hk), List.getElem?_eq_getElem (by rw [mI]; exact hk)] at this
    rw [List.getElem?_eq_getElem (by rw [mI]; exact hk), List.getElem?_eq_getElem (by rw [mI]; exact hk)]
    exact congrArg some this
  · rw [List.getElem?_eq_none (by rw [mI]; exact hk), List.getElem?_eq_none (by rw [mI]; exact hk)]
theorem aFN : aI.L4 = aI.L1 := rfl
theorem aFO : aI.L5 = aI.L2 := rfl
theorem aAc (c : Ctx) (hd : c.drawn = false) (hf : c.envF 109 = bT.C) (A : SkT) (m : bF → Bool) (v : Nat) (l : List RecT) (T : List AObj) (n a j i0 : Nat) (hTn : OkT T) (hn : n = l.length) (ha : a < i0) (hj : j < n) (hij : i0 ≤ j + 1) (hr : roomy n)
    (J : AV → AV → AV → AV → AV → List AObj → Prop) (K : AOut → List AObj → Prop)
    (hJ : ∀ i : Nat, i0 ≤ i → i ≤ j + 1 → (∀ k, i0 ≤ k → k < i → leB (kyL l k) (kyL l a)) → (i ≤ j → leB (kyL l a) (kyL l i)) → J (.sref false 2 v 0 n) (.int .i64 a) hitF (.int .i64 i) (.int .i64 j) (.box A.V :: .map (.sb m) :: .row .own v (.recs l) :: T)) :
    aI.L1 c J K [.int .i64 i0] (.box A.V :: .map (.sb m) :: .row .own v (.recs l) :: T) (T.length + 1 + 1 + 1) (.sref false 2 v 0 n) (.int .i64 a) hitF (.int .i64 j) := by
  have hr' := hr
  unfold roomy at hr'
  have h2 : 2 < T.length + 1 + 1 + 1 := by omega
  unfold aI.L1
  refine lD (σ := Nat) (fun i => .int .i64 i) (fun s => .box A.V :: .map (.sb m) :: .row .own v (.recs l) :: T) (fun i => j + 1 - i) (fun i => i0 ≤ i ∧ i ≤ j + 1 ∧ ∀ k, i0 ≤ k → k < i → leB (kyL l k) (kyL l a)) i0 rfl rfl ⟨Nat.le_refl _, hij, fun k h1 h2 => by omega⟩ ?_
  rintro I back i ⟨hi1, hi2, hall⟩
  by_cases hle : i ≤ j
  · have d1 : decide ((i : Int) ≤ (j : Int)) = true := decide_eq_true (by omega)
    simp only [hTn _ _, SkT.norm, h2, aB, d1, hd, hf, Int.toNat_natCast, bT.C, gX, gW, iE, aB, gq, reduceEq, reduceLT, reduceLE, implies_true, reduceCtorEq, if_true, if_false, go_sem, reduceEqDiff, Nat.reduceLT, reduceAdd, reduceSub, reduceLeDiff, reduceReplicate, reduceToNat]
    refine ⟨⟨by omega, by omega⟩, by omega, ⟨by omega, by omega⟩, by omega, fun h => ?_, fun h => hJ i hi1 hi2 hall fun _ => by unfold leB; simpa using h⟩
    refine back (i + 1) (by omega) (by rw [eX (by omega)]) rfl ⟨by omega, by omega, fun k k1 k2 => ?_⟩
    by_cases e : k = i
    · subst e; exact pM h
    · exact hall k k1 (by omega)
  · have d1 : decide ((i : Int) ≤ (j : Int)) = false := decide_eq_false (by omega)
    simp only [hTn _ _, SkT.norm, h2, aB, d1, aB, gq, reduceEq, reduceLT, reduceLE, implies_true, reduceCtorEq, if_true, if_false, go_sem, reduceEqDiff, Nat.reduceLT, reduceAdd, reduceSub, reduceLeDiff, reduceReplicate, reduceToNat]
    exact hJ i hi1 hi2 hall fun h => absurd h hle
theorem wS (c : Ctx) (hd : c.drawn = false) (hf : c.envF 109 = bT.C) (A : SkT) (m : bF → Bool) (v : Nat) (l : List RecT) (T : List AObj) (n a i j0 : Nat) (hTn : OkT T) (hn : n = l.length) (ha : a < i) (hj : j0 < n) (hij : i ≤ j0 + 1) (hr : roomy n)
    (J : AV → AV → AV → AV → AV → List AObj → Prop) (K : AOut → List AObj → Prop)
    (hJ : ∀ j : Nat, j ≤ j0 → i ≤ j + 1 → (∀ k, j < k → k ≤ j0 → leB (kyL l a) (kyL l k)) → (i ≤ j → ltB (kyL l j) (kyL l a) = true) → J (.sref false 2 v 0 n) (.int .i64 a) hitF (.int .i64 i) (.int .i64 j) (.box A.V :: .map (.sb m) :: .row .own v (.recs l) :: T)) :
    aI.L2 c J K [.int .i64 j0] (.box A.V :: .map (.sb m) :: .row .own v (.recs l) :: T) (T.length + 1 + 1 + 1) (.sref false 2 v 0 n) (.int .i64 a) hitF (.int .i64 i) := by
  have hr' := hr
  unfold roomy at hr'
  have h2 : 2 < T.length + 1 + 1 + 1 := by omega
  unfold aI.L2
  refine lD (σ := Nat) (fun i => .int .i64 i) (fun s => .box A.V :: .map (.sb m) :: .row .own v (.recs l) :: T) (fun j => j) (fun j => j ≤ j0 ∧ i ≤ j + 1 ∧ ∀ k, j < k → k ≤ j0 → leB (kyL l a) (kyL l k)) j0 rfl rfl ⟨Nat.le_refl _, hij, fun k h1 h2 => by omega⟩ ?_
  rintro I back j ⟨hj1, hj2, hall⟩
  by_cases hle : i ≤ j
  · have d1 : decide ((i : Int) ≤ (j : Int)) = true := decide_eq_true (by omega)
    have e1 : IntKind.i64.wrap ((j : Int) - 1) = ((j - 1 : Nat) : Int) := by rw [w64 (by omega) (by omega)]; omega
    simp only [hTn _ _, SkT.norm, h2, aB, d1, e1, hd, hf, Int.toNat_natCast, bT.C, gX, gW, iE, aB, gq, reduceEq, reduceLT, reduceLE, implies_true, reduceCtorEq, if_true, if_false, go_sem, reduceEqDiff, Nat.reduceLT, reduceAdd, reduceSub, reduceLeDiff, reduceReplicate, reduceToNat]
    refine ⟨⟨by omega, by omega⟩, by omega, ⟨by omega, by omega⟩, by omega, ?_⟩
    cases hlt : ltB (kyL l j) (kyL l a) with
    | false =>
      simp only [aB, gq, reduceEq, reduceLT, reduceLE, implies_true, reduceCtorEq, if_true, if_false, go_sem, reduceEqDiff, Nat.reduceLT, reduceAdd, reduceSub, reduceLeDiff, reduceReplicate, reduceToNat]
      refine back (j - 1) (by omega) rfl rfl ⟨by omega, by omega, fun k k1 k2 => ?_⟩
      by_cases e : k = j
      · subst e; exact hlt
      · exact hall k (by omega) k2
    | true =>
      simp only [aB, gq, reduceEq, reduceLT, reduceLE, implies_true, reduceCtorEq, if_true, if_false, go_sem, reduceEqDiff, Nat.reduceLT, reduceAdd, reduceSub, reduceLeDiff, reduceReplicate, reduceToNat]
      exact hJ j hj1 hj2 hall fun _ => hlt
  · have d1 : decide ((i : Int) ≤ (j : Int)) = false := decide_eq_false (by omega)
    simp only [hTn _ _, SkT.norm, h2, aB, d1, aB, gq, reduceEq, reduceLT, reduceLE, implies_true, reduceCtorEq, if_true, if_false, go_sem, reduceEqDiff, Nat.reduceLT, reduceAdd, reduceSub, reduceLeDiff, reduceReplicate, reduceToNat]
    exact hJ j hj1 hj2 hall fun h => absurd h hle
theorem aGO (A : SkT) (m : bF → Bool) (v : Nat) (l : List RecT) (T : List AObj) (hTn : OkT T) (n a b p : Nat) (hn : n = l.length) (hab : a + 1 < b) (hbn : b ≤ n) (hp : a ≤ p) (hpb : p < b) (hr : roomy n) (K : AOut → List AObj → Prop)
    (hK : ∀ l' q al, SegP a b l l' → a ≤ q → q < b → oM a q b l' → K (.ret (.tup [.int .i64 q, .bool al])) (hpS A m v l' T)) :
    aI.K [.sref false 2 v 0 n, .int .i64 a, .int .i64 b, .int .i64 p, hitF] (hpS A m v l T) K := by
  have hr' := hr
  unfold roomy at hr'
  have h2 : 2 < T.length + 1 + 1 + 1 := by omega
  have e1 : IntKind.i64.wrap ((b : Int) - 1) = ((b - 1 : Nat) : Int) := by rw [w64 (by omega) (by omega)]; omega
  unfold aI.K aI.H
  simp only [hpS, hTn _ _, SkT.norm, h2, e1, eX (show a < 4611686018427387904 by omega), aB, Int.toNat_natCast, gX, gW, iR, gT, List.length_set, aB, gq, reduceEq, reduceLT, reduceLE, implies_true, reduceCtorEq, if_true, if_false, go_sem, reduceEqDiff, Nat.reduceLT, reduceAdd, reduceSub, reduceLeDiff, reduceReplicate, reduceToNat] at hK ⊢
  refine ⟨⟨by omega, by omega⟩, by omega, ⟨by omega, by omega⟩, by omega, ⟨by omega, by omega⟩, by omega, ⟨by omega, by omega⟩, by omega, ?_⟩
  have hp1 : SegP a b l (fY l a p) := SegP.swap (by omega) (by omega) (by omega) (by omega) (by omega)
  generalize fY l a p = l1 at *
  have hl1 := hp1.len
  refine aAc _ rfl rfl A m v l1 T n a (b - 1) (a + 1) hTn (by omega) (by omega) (by omega) (by omega) hr _ _ fun i hi1 hi2 hi3 hi4 => ?_
  simp only [hTn _ _, SkT.norm, h2, aB, gq, reduceEq, reduceLT, reduceLE, implies_true, reduceCtorEq, if_true, if_false, go_sem, reduceEqDiff, Nat.reduceLT, reduceAdd, reduceSub, reduceLeDiff, reduceReplicate, reduceToNat]
  refine wS _ rfl rfl A m v l1 T n a i (b - 1) hTn (by omega) (by omega) (by omega) (by omega) hr _ _ fun j hj1 hj2 hj3 hj4 => ?_
  have hS : uU a b i j l1 := ⟨hi1, hj2, by omega, by omega, fun k k1 k2 => hi3 k (by omega) k2, fun k k1 k2 => hj3 k k1 (by omega)⟩
  have e2 : j ≠ 0 → IntKind.i64.wrap ((j : Int) - 1) = ((j - 1 : Nat) : Int) := fun h => by rw [w64 (by omega) (by omega)]; omega
  simp only [hTn _ _, SkT.norm, h2, eX (show i < 4611686018427387904 by omega), aB, Int.toNat_natCast, gX, gW, iR, gT, List.length_set, aB, gq, reduceEq, reduceLT, reduceLE, implies_true, reduceCtorEq, if_true, if_false, go_sem, reduceEqDiff, Nat.reduceLT, reduceAdd, reduceSub, reduceLeDiff, reduceReplicate, reduceToNat]
  refine ⟨fun hgt => ⟨⟨by omega, by omega⟩, by omega, ⟨by omega, by omega⟩, by omega, ⟨by omega, by omega⟩, by omega, ⟨by omega, by omega⟩, by omega, ?_⟩, fun hle => ⟨⟨by omega, by omega⟩, by omega, ⟨by omega, by omega⟩, by omega, ⟨by omega, by omega⟩, by omega, ⟨by omega, by omega⟩, by omega, ?_⟩⟩
  · rw [aCM (by omega) (by omega)]
    exact hK _ j true (hp1.trans (SegP.swap (by omega) (by omega) (by omega) (by omega) (by omega))) (by omega) (by omega) (hS.fin (by omega) (by omega))
  have hij : i < j := by
    rcases Nat.lt_or_ge i j with h | h
    · exact h
    · exfalso
      obtain rfl : i = j := by omega
      have := hj4 (Nat.le_refl _)
      have h' := hi4 (by omega)
      unfold leB at h'
      rw [this] at h'; cases h'
  have hS2 := hS.swap hij (by omega) (hi4 (by omega)) (pM (hj4 (by omega)))
  have hp2 : SegP a b l (fY l1 i j) := hp1.trans (SegP.swap (by omega) (by omega) (by omega) (by omega) (by omega))
  generalize fY l1 i j = l2 at *
  rw [e2 (by omega)]
  unfold aI.L3
  refine aAu (σ := List RecT × Nat × Nat) (fun s => .int .i64 s.2.1) (fun s => .int .i64 s.2.2) (fun s => .box A.V :: .map (.sb m) :: .row .own v (.recs s.1) :: T) (fun s => s.2.2) (fun s => SegP a b l s.1 ∧ uU a b s.2.1 s.2.2 s.1) (l2, i + 1, j - 1) rfl rfl ⟨hp2, hS2⟩ ?_
  rintro I back ⟨l3, i3, j3⟩ ⟨hp3, q1, q2, q3, q4, q5, q6⟩
  simp only at hp3 q1 q2 q3 q4 q5 q6 ⊢
  have hl3 := hp3.len
  simp only [hTn _ _, SkT.norm, h2, aB, aFN, aFO, aB, gq, reduceEq, reduceLT, reduceLE, implies_true, reduceCtorEq, if_true, if_false, go_sem, reduceEqDiff, Nat.reduceLT, reduceAdd, reduceSub, reduceLeDiff, reduceReplicate, reduceToNat]
  refine aAc _ rfl rfl A m v l3 T n a j3 i3 hTn (by omega) (by omega) (by omega) (by omega) hr _ _ fun i4 g1 g2 g3 g4 => ?_
  simp only [hTn _ _, SkT.norm, h2, aB, gq, reduceEq, reduceLT, reduceLE, implies_true, reduceCtorEq, if_true, if_false, go_sem, reduceEqDiff, Nat.reduceLT, reduceAdd, reduceSub, reduceLeDiff, reduceReplicate, reduceToNat]
  refine wS _ rfl rfl A m v l3 T n a i4 j3 hTn (by omega) (by omega) (by omega) (by omega) hr _ _ fun j4 k1 k2 k3 k4 => ?_
  have hS4 : uU a b i4 j4 l3 := ⟨by omega, k2, by omega, by omega, fun k z1 z2 => by
    by_cases e : k < i3
    · exact q5 k z1 e
    · exact g3 k (by omega) z2, fun k z1 z2 => by
    by_cases e : j3 < k
    · exact q6 k e z2
    · exact k3 k z1 (by omega)⟩
  have e4 : j4 ≠ 0 → IntKind.i64.wrap ((j4 : Int) - 1) = ((j4 - 1 : Nat) : Int) := fun h => by rw [w64 (by omega) (by omega)]; omega
  simp only [hTn _ _, SkT.norm, h2, eX (show i4 < 4611686018427387904 by omega), aB, Int.toNat_natCast, gX, gW, iR, gT, List.length_set, aB, gq, reduceEq, reduceLT, reduceLE, implies_true, reduceCtorEq, if_true, if_false, go_sem, reduceEqDiff, Nat.reduceLT, reduceAdd, reduceSub, reduceLeDiff, reduceReplicate, reduceToNat]
  refine ⟨fun hgt => ⟨⟨by omega, by omega⟩, by omega, ⟨by omega, by omega⟩, by omega, ⟨by omega, by omega⟩, by omega, ⟨by omega, by omega⟩, by omega, ?_⟩, fun hle => ⟨⟨by omega, by omega⟩, by omega, ⟨by omega, by omega⟩, by omega, ⟨by omega, by omega⟩, by omega, ⟨by omega, by omega⟩, by omega, ?_⟩⟩
  · rw [aCM (by omega) (by omega)]
    exact hK _ j4 false (hp3.trans (SegP.swap (by omega) (by omega) (by omega) (by omega) (by omega))) (by omega) (by omega) (hS4.fin (by omega) (by omega))
  · have hij4 : i4 < j4 := by
      rcases Nat.lt_or_ge i4 j4 with h | h
      · exact h
      · exfalso
        obtain rfl : i4 = j4 := by omega
        have := k4 (Nat.le_refl _)
        have h' := g4 (by omega)
        unfold leB at h'
        rw [this] at h'; cases h'
    rw [e4 (by omega)]
    exact back (fY l3 i4 j4, i4 + 1, j4 - 1) (by simp only; omega) rfl rfl ⟨hp3.trans (SegP.swap (by omega) (by omega) (by omega) (by omega) (by omega)), hS4.swap hij4 (by omega) (g4 (by omega)) (pM (k4 (by omega)))⟩
end Lam
namespace Lam
open Go Go.Proofs
def aU.K : Con := fun args h K => match args with
  | [a0, a1, a2, a3] => aU.H (ctx [] [] aU.loops) a0 a1 a2 a3 h K
  | _ => False
theorem aU.spec : dB Tryz.prog 130 aU.K := by
  refine dB.of (bU (F := []) (S := []) (by simp) (by simp) aU.loops) aU.at aU.nm aU.bd ?_
  intro args h K hC
  unfold aU.K at hC
  split at hC
  · rw [aU.eq]; exact hC
  · exact hC.elim
theorem aKd (A : SkT) (m : bF → Bool) (v : Nat) (l : List RecT) (T : List AObj) (hTn : OkT T) (n a b : Nat) (hn : n = l.length) (hab : a < b) (hbn : b ≤ n) (hr : roomy n) (K : AOut → List AObj → Prop)
    (hK : ∀ l', SegP a b l l' → K (.ret (.tup [])) (hpS A m v l' T)) :
    aU.K [.sref false 2 v 0 n, .int .i64 a, .int .i64 b, hitF] (hpS A m v l T) K := by
  have hr' := hr
  unfold roomy at hr'
  have h2 : 2 < T.length + 1 + 1 + 1 := by omega
  have e1 : IntKind.i64.wrap ((b : Int) - 1) = ((b - 1 : Nat) : Int) := by rw [w64 (by omega) (by omega)]; omega
  unfold aU.K aU.H
  simp only [hpS, hTn _ _, SkT.norm, h2, e1, aB, gq, reduceEq, reduceLT, reduceLE, implies_true, reduceCtorEq, if_true, if_false, go_sem, reduceEqDiff, Nat.reduceLT, reduceAdd, reduceSub, reduceLeDiff, reduceReplicate, reduceToNat] at hK ⊢
  unfold aU.L1
  refine aAu (σ := List RecT × Nat × Nat) (fun s => .int .i64 s.2.1) (fun s => .int .i64 s.2.2) (fun s => .box A.V :: .map (.sb m) :: .row .own v (.recs s.1) :: T) (fun s => s.2.2) (fun s => a ≤ s.2.1 ∧ s.2.2 < b ∧ s.2.1 ≤ n ∧ SegP a b l s.1) (l, a, b - 1) rfl rfl ⟨Nat.le_refl _, by simp only; omega, by simp only; omega, SegP.refl⟩ ?_
  rintro I back ⟨l1, i, j⟩ ⟨hi, hj, hin, hp⟩
  simp only at hi hj hin hp ⊢
  have hl1 := hp.len
  by_cases hij : i < j
  · have e2 : IntKind.i64.wrap ((j : Int) - 1) = ((j - 1 : Nat) : Int) := by rw [w64 (by omega) (by omega)]; omega
    have d1 : decide ((i : Int) < (j : Int)) = true := decide_eq_true (by omega)
    simp only [hTn _ _, SkT.norm, h2, aB, d1, e2, eX (show i < 4611686018427387904 by omega), Int.toNat_natCast, gX, iR, gT, List.length_set, aB, gq, reduceEq, reduceLT, reduceLE, implies_true, reduceCtorEq, if_true, if_false, go_sem, reduceEqDiff, Nat.reduceLT, reduceAdd, reduceSub, reduceLeDiff, reduceReplicate, reduceToNat]
    exact ⟨⟨by omega, by omega⟩, by omega, ⟨by omega, by omega⟩, by omega, ⟨by omega, by omega⟩, by omega, ⟨by omega, by omega⟩, by omega, back (fY l1 i j, i + 1, j - 1) (by simp only; omega) rfl rfl ⟨by simp only; omega, by simp only; omega, by simp only; omega, hp.trans (SegP.swap (by omega) (by omega) (by omega) (by omega) (by omega))⟩⟩
  · have d1 : decide ((i : Int) < (j : Int)) = false := decide_eq_false (by omega)
    simp only [hTn _ _, SkT.norm, h2, aB, d1, aB, gq, reduceEq, reduceLT, reduceLE, implies_true, reduceCtorEq, if_true, if_false, go_sem, reduceEqDiff, Nat.reduceLT, reduceAdd, reduceSub, reduceLeDiff, reduceReplicate, reduceToNat]
    exact hK l1 hp
def bC.K : Con := fun args h K => match args with
  | [a0, a1, a2, a3, a4] => bC.H (ctx [(109, bT.C)] [] bC.loops) a0 a1 a2 a3 a4 h K
  | _ => False
theorem bC.spec : dB Tryz.prog 142 bC.K := by
  refine dB.of (bU (F := [(109, bT.C)]) (S := []) (by simpa using bT.spec) (by simp) bC.loops) bC.at bC.nm bC.bd ?_
  intro args h K hC
  unfold bC.K at hC
  split at hC
  · rw [bC.eq]; exact hC
  · exact hC.elim
theorem aKe (A : SkT) (m : bF → Bool) (v : Nat) (l : List RecT) (T : List AObj) (hTn : OkT T) (n lo hi a : Nat) (hn : n = l.length) (hlo : lo ≤ n) (hah : a + hi ≤ n) (hr : roomy n) (hh : oX a (lo + 1) hi l) (K : AOut → List AObj → Prop)
    (hK : ∀ l', SegP a (a + hi) l l' → oX a lo hi l' → K (.ret (.tup [])) (hpS A m v l' T)) :
    bC.K [.sref false 2 v 0 n, .int .i64 lo, .int .i64 hi, .int .i64 a, hitF] (hpS A m v l T) K := by
  have hr' := hr
  unfold roomy at hr'
  have h2 : 2 < T.length + 1 + 1 + 1 := by omega
  unfold bC.K bC.H
  simp only [hpS, hTn _ _, SkT.norm, h2, aB, gq, reduceEq, reduceLT, reduceLE, implies_true, reduceCtorEq, if_true, if_false, go_sem, reduceEqDiff, Nat.reduceLT, reduceAdd, reduceSub, reduceLeDiff, reduceReplicate, reduceToNat] at hK ⊢
  unfold bC.L1
  refine lD (σ := List RecT × Nat) (fun s => .int .i64 s.2) (fun s => .box A.V :: .map (.sb m) :: .row .own v (.recs s.1) :: T) (fun s => n + 1 - s.2) (fun s => lo ≤ s.2 ∧ s.2 ≤ n ∧ SegP a (a + hi) l s.1 ∧ sZ a lo s.2 hi s.1) (l, lo) rfl rfl ⟨Nat.le_refl _, hlo, SegP.refl, sZ.begin hh⟩ ?_
  rintro I back ⟨l1, r⟩ ⟨hr1, hr2, hp, hs⟩
  simp only at hr1 hr2 hp hs ⊢
  have hl1 := hp.len
  have e1 : IntKind.i64.wrap (2 * (r : Int)) = ((2 * r : Nat) : Int) := by rw [w64 (by omega) (by omega)]; omega
  have e2 : ∀ k : Nat, k ≤ 4 * n + 4 → IntKind.i64.wrap ((a : Int) + (k : Int)) = ((a + k : Nat) : Int) := fun k hk => by rw [w64 (by omega) (by omega)]; omega
  simp only [hTn _ _, SkT.norm, h2, aB, e1, eX (show 2 * r < 4611686018427387904 by omega), eX (show 2 * r + 1 < 4611686018427387904 by omega), e2 (2 * r + 1) (by omega), e2 r (by omega), eX (show a + (2 * r + 1) < 4611686018427387904 by omega), aB, gq, reduceEq, reduceLT, reduceLE, implies_true, reduceCtorEq, if_true, if_false, go_sem, reduceEqDiff, Nat.reduceLT, reduceAdd, reduceSub, reduceLeDiff, reduceReplicate, reduceToNat]
  refine ⟨fun hge => hK l1 hp (hs.done fun c hc hch => by omega), fun hlt => ?_⟩
  have e3 : ∀ c : Nat, c ≤ 2 * r + 2 → IntKind.i64.wrap ((a : Int) + (c : Int)) = ((a + c : Nat) : Int) := fun c hc => e2 c (by omega)
  have hfin : ∀ c : Nat, (c = 2 * r + 1 ∨ c = 2 * r + 2) → c < hi → (∀ d, (d = 2 * r + 1 ∨ d = 2 * r + 2) → d < hi → leB (kyL l1 (a + d)) (kyL l1 (a + c))) → ltB (kyL l1 (a + r)) (kyL l1 (a + c)) = true →
      ∃ m_1, m_1 < n + 1 - r ∧ I m_1 [.int .i64 c] (.box A.V :: .map (.sb m) :: .row .own v (.recs (fY l1 (a + r) (a + c))) :: T) := fun c h1 h3 h4 h5 =>
    back (fY l1 (a + r) (a + c), c) (by simp only; omega) rfl rfl ⟨by simp only; omega, by simp only; omega, hp.trans (SegP.swap (by omega) (by omega) (by omega) (by omega) (by omega)), hs.step hr1 h1 h3 (by omega) (pM h5) h4⟩
  have hstop : ∀ c : Nat, (c = 2 * r + 1 ∨ c = 2 * r + 2) → c < hi → (∀ d, (d = 2 * r + 1 ∨ d = 2 * r + 2) → d < hi → leB (kyL l1 (a + d)) (kyL l1 (a + c))) → ltB (kyL l1 (a + r)) (kyL l1 (a + c)) = false → oX a lo hi l1 := fun c h1 h3 h4 h5 =>
    hs.done fun d q1 q2 => rX (h4 d q1 q2) h5
  by_cases h22 : 2 * r + 2 < hi
  rotate_left
  · have d1 : decide (((2 * r + 1 + 1 : Nat) : Int) < (hi : Int)) = false := decide_eq_false (by omega)
    have hle : ∀ d, (d = 2 * r + 1 ∨ d = 2 * r + 2) → d < hi → leB (kyL l1 (a + d)) (kyL l1 (a + (2 * r + 1))) := fun d q1 q2 => by
      obtain rfl : d = 2 * r + 1 := by omega
      exact xS _
    cases hlt2 : ltB (kyL l1 (a + r)) (kyL l1 (a + (2 * r + 1))) with
    | false =>
      simp only [hTn _ _, SkT.norm, h2, aB, d1, hlt2, e3 (2 * r + 1) (by omega), Int.toNat_natCast, bT.C, gX, gW, iE, iR, gT, List.length_set, aB, gq, reduceEq, reduceLT, reduceLE, implies_true, reduceCtorEq, if_true, if_false, go_sem, reduceEqDiff, Nat.reduceLT, reduceAdd, reduceSub, reduceLeDiff, reduceReplicate, reduceToNat]
      exact ⟨⟨by omega, by omega⟩, by omega, ⟨by omega, by omega⟩, by omega, hK l1 hp (hstop _ (.inl rfl) (by omega) hle hlt2)⟩
    | true =>
      simp only [hTn _ _, SkT.norm, h2, aB, d1, hlt2, e3 (2 * r + 1) (by omega), Int.toNat_natCast, bT.C, gX, gW, iE, iR, gT, List.length_set, aB, gq, reduceEq, reduceLT, reduceLE, implies_true, reduceCtorEq, if_true, if_false, go_sem, reduceEqDiff, Nat.reduceLT, reduceAdd, reduceSub, reduceLeDiff, reduceReplicate, reduceToNat]
      exact ⟨⟨by omega, by omega⟩, by omega, ⟨by omega, by omega⟩, by omega, ⟨by omega, by omega⟩, by omega, ⟨by omega, by omega⟩, by omega, ⟨by omega, by omega⟩, by omega, ⟨by omega, by omega⟩, by omega, hfin _ (.inl rfl) (by omega) hle hlt2⟩
  · have d1 : decide (((2 * r + 1 + 1 : Nat) : Int) < (hi : Int)) = true := decide_eq_true (by omega)
    cases hch : ltB (kyL l1 (a + (2 * r + 1))) (kyL l1 (a + (2 * r + 1) + 1)) with
    | false =>
      have hle : ∀ d, (d = 2 * r + 1 ∨ d = 2 * r + 2) → d < hi → leB (kyL l1 (a + d)) (kyL l1 (a + (2 * r + 1))) := fun d q1 q2 => by
        rcases q1 with rfl | rfl
        · exact xS _
        · exact hch
      cases hlt2 : ltB (kyL l1 (a + r)) (kyL l1 (a + (2 * r + 1))) with
      | false =>
        simp only [hTn _ _, SkT.norm, h2, aB, d1, hch, hlt2, e3 (2 * r + 1) (by omega), Int.toNat_natCast, bT.C, gX, gW, iE, iR, gT, List.length_set, aB, gq, reduceEq, reduceLT, reduceLE, implies_true, reduceCtorEq, if_true, if_false, go_sem, reduceEqDiff, Nat.reduceLT, reduceAdd, reduceSub, reduceLeDiff, reduceReplicate, reduceToNat]
        exact ⟨⟨by omega, by omega⟩, by omega, ⟨by omega, by omega⟩, by omega, ⟨by omega, by omega⟩, by omega, ⟨by omega, by omega⟩, by omega, hK l1 hp (hstop _ (.inl rfl) (by omega) hle hlt2)⟩
      | true =>
        simp only [hTn _ _, SkT.norm, h2, aB, d1, hch, hlt2, e3 (2 * r + 1) (by omega), Int.toNat_natCast, bT.C, gX, gW, iE, iR, gT, List.length_set, aB, gq, reduceEq, reduceLT, reduceLE, implies_true, reduceCtorEq, if_true, if_false, go_sem, reduceEqDiff, Nat.reduceLT, reduceAdd, reduceSub, reduceLeDiff, reduceReplicate, reduceToNat]
        exact ⟨⟨by omega, by omega⟩, by omega, ⟨by omega, by omega⟩, by omega, ⟨by omega, by omega⟩, by omega, ⟨by omega, by omega⟩, by omega, ⟨by omega, by omega⟩, by omega, ⟨by omega, by omega⟩, by omega, ⟨by omega, by omega⟩, by omega, ⟨by omega, by omega⟩, by omega, hfin _ (.inl rfl) (by omega) hle hlt2⟩
    | true =>
      have hle : ∀ d, (d = 2 * r + 1 ∨ d = 2 * r + 2) → d < hi → leB (kyL l1 (a + d)) (kyL l1 (a + (2 * r + 1 + 1))) := fun d q1 q2 => by
        rcases q1 with rfl | rfl
        · exact pM hch
        · exact xS _
      cases hlt2 : ltB (kyL l1 (a + r)) (kyL l1 (a + (2 * r + 1 + 1))) with
      | false =>
        simp only [hTn _ _, SkT.norm, h2, aB, d1, hch, hlt2, e3 (2 * r + 1 + 1) (by omega), Int.toNat_natCast, bT.C, gX, gW, iE, iR, gT, List.length_set, aB, gq, reduceEq, reduceLT, reduceLE, implies_true, reduceCtorEq, if_true, if_false, go_sem, reduceEqDiff, Nat.reduceLT, reduceAdd, reduceSub, reduceLeDiff, reduceReplicate, reduceToNat]
        exact ⟨⟨by omega, by omega⟩, by omega, ⟨by omega, by omega⟩, by omega, ⟨by omega, by omega⟩, by omega, ⟨by omega, by omega⟩, by omega, hK l1 hp (hstop _ (.inr rfl) (by omega) hle hlt2)⟩
      | true =>
        simp only [hTn _ _, SkT.norm, h2, aB, d1, hch, hlt2, e3 (2 * r + 1 + 1) (by omega), Int.toNat_natCast, bT.C, gX, gW, iE, iR, gT, List.length_set, aB, gq, reduceEq, reduceLT, reduceLE, implies_true, reduceCtorEq, if_true, if_false, go_sem, reduceEqDiff, Nat.reduceLT, reduceAdd, reduceSub, reduceLeDiff, reduceReplicate, reduceToNat]
        exact ⟨⟨by omega, by omega⟩, by omega, ⟨by omega, by omega⟩, by omega, ⟨by omega, by omega⟩, by omega, ⟨by omega, by omega⟩, by omega, ⟨by omega, by omega⟩, by omega, ⟨by omega, by omega⟩, by omega, ⟨by omega, by omega⟩, by omega, ⟨by omega, by omega⟩, by omega, hfin _ (.inr rfl) (by omega) hle hlt2⟩
def aW.K : Con := fun args h K => match args with
  | [a0, a1, a2, a3] => aW.H (ctx [] [(142, bC.K)] aW.loops) a0 a1 a2 a3 h K
  | _ => False
theorem aW.spec : dB Tryz.prog 127 aW.K := by
  refine dB.of (bU (F := []) (S := [(142, bC.K)]) (by simp) (by simpa using bC.spec) aW.loops) aW.at aW.nm aW.bd ?_
  intro args h K hC
  unfold aW.K at hC
  split at hC
  · rw [aW.eq]; exact hC
  · exact hC.elim
theorem aNd (A : SkT) (m : bF → Bool) (v : Nat) (l : List RecT) (T : List AObj) (hTn : OkT T) (n a b : Nat) (hn : n = l.length) (hab : a < b) (hbn : b ≤ n) (hr : roomy n) (K : AOut → List AObj → Prop)
    (hK : ∀ l', SegP a b l l' → SegS a b l' → K (.ret (.tup [])) (hpS A m v l' T)) :
    aW.K [.sref false 2 v 0 n, .int .i64 a, .int .i64 b, hitF] (hpS A m v l T) K := by
  have hr' := hr
  unfold roomy at hr'
  have h2 : 2 < T.length + 1 + 1 + 1 := by omega
  have e0 : IntKind.i64.wrap ((b : Int) - a) = ((b - a : Nat) : Int) := by rw [w64 (by omega) (by omega)]; omega
  have e1 : IntKind.i64.wrap (((b - a : Nat) : Int) - 1) = ((b - a - 1 : Nat) : Int) := by rw [w64 (by omega) (by omega)]; omega
  have e2 : IntKind.i64.wrap (((b - a - 1 : Nat) : Int).tdiv 2) = (((b - a - 1) / 2 + 1 : Nat) : Int) - 1 := by
    rw [Int.tdiv_eq_ediv_of_nonneg (by omega), w64 (by omega) (by omega)]; omega
  unfold aW.K aW.H
  simp only [hpS, hTn _ _, SkT.norm, h2, e0, e1, e2, aB, gq, reduceEq, reduceLT, reduceLE, implies_true, reduceCtorEq, if_true, if_false, go_sem, reduceEqDiff, Nat.reduceLT, reduceAdd, reduceSub, reduceLeDiff, reduceReplicate, reduceToNat] at hK ⊢
  unfold aW.L1
  refine lD (σ := List RecT × Nat) (fun s => .int .i64 ((s.2 : Int) - 1)) (fun s => .box A.V :: .map (.sb m) :: .row .own v (.recs s.1) :: T) (fun s => s.2) (fun s => s.2 ≤ n ∧ SegP a b l s.1 ∧ oX a s.2 (b - a) s.1) (l, (b - a - 1) / 2 + 1) rfl rfl ⟨by simp only; omega, SegP.refl, fun i c q1 q2 q3 => by simp only at q1; omega⟩ ?_
  rintro I back ⟨l1, k⟩ ⟨hk, hp, hh⟩
  simp only at hk hp hh ⊢
  have hl1 := hp.len
  have e3 : IntKind.i64.wrap ((k : Int) - 1 - 1) = ((k - 1 : Nat) : Int) - 1 ∨ k = 0 := by
    rcases Nat.eq_zero_or_pos k with h | h
    · exact .inr h
    · left; rw [w64 (by omega) (by omega)]; omega
  by_cases hk0 : k = 0
  rotate_left
  · have e3 := e3.resolve_right hk0
    have d1 : decide ((0 : Int) ≤ (k : Int) - 1) = true := decide_eq_true (by omega)
    have e4 : (k : Int) - 1 = ((k - 1 : Nat) : Int) := by omega
    rw [e4] at e3 d1 ⊢
    simp only [hTn _ _, SkT.norm, h2, aB, d1, aB, gq, reduceEq, reduceLT, reduceLE, implies_true, reduceCtorEq, if_true, if_false, go_sem, reduceEqDiff, Nat.reduceLT, reduceAdd, reduceSub, reduceLeDiff, reduceReplicate, reduceToNat]
    refine aKe A m v l1 T hTn n (k - 1) (b - a) a (by omega) (by omega) (by omega) hr (by rw [show k - 1 + 1 = k by omega]; exact hh) _ fun l2 p2 h2' => ?_
    simp only [hpS, hTn _ _, SkT.norm, h2, e3, aB, gq, reduceEq, reduceLT, reduceLE, implies_true, reduceCtorEq, if_true, if_false, go_sem, reduceEqDiff, Nat.reduceLT, reduceAdd, reduceSub, reduceLeDiff, reduceReplicate, reduceToNat]
    exact back (l2, k - 1) (by simp only; omega) rfl rfl ⟨by simp only; omega, hp.trans (p2.mono (Nat.le_refl _) (by omega)), h2'⟩
  subst hk0
  have e5 : IntKind.i64.wrap (((b - a : Nat) : Int) - 1) = ((b - a : Nat) : Int) - 1 := w64 (by omega) (by omega)
  simp only [hTn _ _, SkT.norm, h2, aB, e5, aB, gq, reduceEq, reduceLT, reduceLE, implies_true, reduceCtorEq, if_true, if_false, go_sem, reduceEqDiff, Nat.reduceLT, reduceAdd, reduceSub, reduceLeDiff, reduceReplicate, reduceToNat]
  refine ⟨fun h => absurd h (by omega), fun _ => ?_⟩
  unfold aW.L2
  refine lD (σ := List RecT × Nat) (fun s => .int .i64 ((s.2 : Int) - 1)) (fun s => .box A.V :: .map (.sb m) :: .row .own v (.recs s.1) :: T) (fun s => s.2) (fun s => s.2 ≤ b - a ∧ SegP a b l s.1 ∧ oY a s.2 b s.1) (l1, b - a) rfl rfl ⟨Nat.le_refl _, hp, oY.begin (by omega) hh⟩ ?_
  rintro I2 back2 ⟨l2, k⟩ ⟨hk, hp2, hd⟩
  simp only at hk hp2 hd ⊢
  have hl2 := hp2.len
  by_cases hk0 : k = 0
  · subst hk0
    simp only [hTn _ _, SkT.norm, h2, aB, aB, gq, reduceEq, reduceLT, reduceLE, implies_true, reduceCtorEq, if_true, if_false, go_sem, reduceEqDiff, Nat.reduceLT, reduceAdd, reduceSub, reduceLeDiff, reduceReplicate, reduceToNat]
    exact ⟨fun h => absurd h (by omega), fun _ => hK l2 hp2 hd.fin⟩
  · have d1 : decide ((0 : Int) ≤ (k : Int) - 1) = true := decide_eq_true (by omega)
    have e3 : IntKind.i64.wrap ((k : Int) - 1 - 1) = ((k - 1 : Nat) : Int) - 1 := by rw [w64 (by omega) (by omega)]; omega
    have e4 : (k : Int) - 1 = ((k - 1 : Nat) : Int) := by omega
    have e6 : IntKind.i64.wrap ((a : Int) + ((k - 1 : Nat) : Int)) = ((a + (k - 1) : Nat) : Int) := by rw [w64 (by omega) (by omega)]; omega
    rw [e4] at e3 d1 ⊢
    have hd' : oY a (k - 1 + 1) b l2 := by rw [show k - 1 + 1 = k by omega]; exact hd
    simp only [hTn _ _, SkT.norm, h2, aB, d1, e6, Int.toNat_natCast, gX, iR, gT, List.length_set, aB, gq, reduceEq, reduceLT, reduceLE, implies_true, reduceCtorEq, if_true, if_false, go_sem, reduceEqDiff, Nat.reduceLT, reduceAdd, reduceSub, reduceLeDiff, reduceReplicate, reduceToNat]
    refine ⟨⟨by omega, by omega⟩, by omega, ⟨by omega, by omega⟩, by omega, ⟨by omega, by omega⟩, by omega, ⟨by omega, by omega⟩, by omega, ?_⟩
    refine aKe A m v (fY l2 a (a + (k - 1))) T hTn n 0 (k - 1) a (by rw [mI]; omega) (Nat.zero_le _) (by omega) hr (hd'.heap (by omega) (by omega)) _ fun l3 p3 h3 => ?_
    simp only [hpS, hTn _ _, SkT.norm, h2, e3, aB, gq, reduceEq, reduceLT, reduceLE, implies_true, reduceCtorEq, if_true, if_false, go_sem, reduceEqDiff, Nat.reduceLT, reduceAdd, reduceSub, reduceLeDiff, reduceReplicate, reduceToNat]
    exact back2 (l3, k - 1) (by simp only; omega) rfl rfl ⟨by simp only; omega, hp2.trans ((SegP.swap (Nat.le_refl _) (by omega) (by omega) (by omega) (by omega)).trans (p3.mono (Nat.le_refl _) (by omega))), hd'.next (by omega) (by omega) p3 h3⟩
theorem aNe {a b : Int} (h0 : 0 ≤ b) (h1 : b < 18446744073709551616) : 0 ≤ andI .u64 a b ∧ andI .u64 a b ≤ b := by
  unfold andI
  have h := aJI ((BitVec.ofInt IntKind.u64.bits a &&& BitVec.ofInt IntKind.u64.bits b).toNat : Int)
  refine ⟨h.1, ?_⟩
  have e : (BitVec.ofInt IntKind.u64.bits b).toNat = b.toNat := by
    show (BitVec.ofInt 64 b).toNat = _
    rw [BitVec.toNat_ofInt]; omega
  have hle : (BitVec.ofInt IntKind.u64.bits a &&& BitVec.ofInt IntKind.u64.bits b).toNat ≤ b.toNat := by
    rw [BitVec.toNat_and, e]; exact Nat.and_le_right
  rw [zI (by omega) (by omega)]
  omega
def cC.K : Con := fun args h K => match args with
  | [a0] => cC.H (ctx [] [] cC.loops) a0 h K
  | _ => False
theorem cC.spec : dB Tryz.prog 144 cC.K := by
  refine dB.of (bU (F := []) (S := []) (by simp) (by simp) cC.loops) cC.at cC.nm cC.bd ?_
  intro args h K hC
  unfold cC.K at hC
  split at hC
  · rw [cC.eq]; exact hC
  · exact hC.elim
theorem aNf (A : SkT) (m : bF → Bool) (v : Nat) (l : List RecT) (T : List AObj) (hTn : OkT T) (x : Int) (K : AOut → List AObj → Prop)
    (hK : ∀ y : Int, K (.ret (.int .u64 y)) (hpS A m v l (T ++ [.box (.int .u64 y)]))) :
    cC.K [.ptr (T.length + 1 + 1 + 1) []] (hpS A m v l (T ++ [.box (.int .u64 x)])) K := by
  unfold cC.K cC.H
  simp only [hpS, pG, xT, List.map_cons, List.map_nil, aB, gq, reduceEq, reduceLT, reduceLE, implies_true, reduceCtorEq, if_true, if_false, go_sem, reduceEqDiff, Nat.reduceLT, reduceAdd, reduceSub, reduceLeDiff, reduceReplicate, reduceToNat] at hK ⊢
  exact hK _
end Lam
namespace Lam
open Go Go.Proofs
def lenN (n : Nat) : Nat := if n = 0 then 0 else if n < 2 then 1 else if n < 4 then 2 else if n < 8 then 3 else if n < 16 then 4 else if n < 32 then 5 else if n < 64 then 6 else if n < 128 then 7 else 8
def aLF : bF := [0, 1, 2, 2, 3, 3, 3, 3, 4, 4, 4, 4, 4, 4, 4, 4, 5, 5, 5, 5, 5, 5, 5, 5, 5, 5, 5, 5, 5, 5, 5, 5, 6, 6, 6, 6, 6, 6, 6, 6, 6, 6, 6, 6, 6, 6, 6, 6, 6, 6, 6, 6, 6, 6, 6, 6, 6, 6, 6, 6, 6, 6, 6, 6, 7, 7, 7, 7, 7, 7, 7, 7, 7, 7, 7, 7, 7, 7, 7, 7, 7, 7, 7, 7, 7, 7, 7, 7, 7, 7, 7, 7, 7, 7, 7, 7, 7, 7, 7, 7, 7, 7, 7, 7, 7, 7, 7, 7, 7, 7, 7, 7, 7, 7, 7, 7, 7, 7, 7, 7, 7, 7, 7, 7, 7, 7, 7, 7, 8, 8, 8, 8, 8, 8, 8, 8, 8, 8, 8, 8, 8, 8, 8, 8, 8, 8, 8, 8, 8, 8, 8, 8, 8, 8, 8, 8, 8, 8, 8, 8, 8, 8, 8, 8, 8, 8, 8, 8, 8, 8, 8, 8, 8, 8, 8, 8, 8, 8, 8, 8, 8, 8, 8, 8, 8, 8, 8, 8, 8, 8, 8, 8, 8, 8, 8, 8, 8, 8, 8, 8, 8, 8, 8, 8, 8, 8, 8, 8, 8, 8, 8, 8, 8, 8, 8, 8, 8, 8, 8, 8, 8, 8, 8, 8, 8, 8, 8, 8, 8, 8, 8, 8, 8, 8, 8, 8, 8, 8, 8, 8, 8, 8, 8, 8, 8, 8, 8, 8, 8, 8, 8, 8, 8, 8, 8, 8]
theorem aLc : ∀ k, k < 256 → (aLF.getD k 0).toNat = lenN k := by decide +kernel
theorem aLd : ∀ k, k < 256 → 8 ≤ k → 1 ≤ 2 ^ lenN k ∧ 2 ^ lenN k ≤ 2 * k ∧ lenN k ≤ 8 := by decide +kernel
theorem aHt : ∀ k, k < 256 → lenN k ≤ 8 := by decide +kernel
def dA.C : aF
  | [.int .u64 n] => some (false, pD (0 ≤ n ∧ n < 256) (.int .i64 (lenN n.toNat)))
  | _ => none
theorem dA.spec : bJ Tryz.prog 135 dA.C := by
  refine bJ.of (bU (F := []) (S := []) (by simp) (by simp) dA.loops) dA.at dA.nm dA.bd ?_
  intro vs b S v news e hS
  unfold dA.C at e
  split at e
  rotate_left
  · cases e
  cases e
  rw [dA.eq]
  unfold dA.H
  simp (maxSteps := 4000000) only [go_sem, reduceEqDiff, Nat.reduceLT, reduceAdd, reduceSub, reduceLeDiff, reduceReplicate, reduceToNat]
  rename_i n
  have d1 : decide ((4294967296 : Int) ≤ n) = false := decide_eq_false (by omega)
  have d2 : decide ((65536 : Int) ≤ n) = false := decide_eq_false (by omega)
  have d3 : decide ((256 : Int) ≤ n) = false := decide_eq_false (by omega)
  have g1 : ¬ (4294967296 : Int) ≤ n := by omega
  have g2 : IntKind.u8.wrap n = n := by simp [IntKind.wrap, IntKind.bits, IntKind.signed]; omega
  simp only [g1, d1, d2, d3, g2, aB, aB, gq, reduceEq, reduceLT, reduceLE, implies_true, reduceCtorEq, if_true, if_false, go_sem, reduceEqDiff, Nat.reduceLT, reduceAdd, reduceSub, reduceLeDiff, reduceReplicate, reduceToNat]
  refine ⟨hS, ?_⟩
  show Post false (.int .i64 (lenN n.toNat)) [] (.ret (.int .i64 (IntKind.i64.wrap (0 + IntKind.i64.wrap ((aLF.getD n.toNat 0).toNat : Int))))) []
  have h8 := aHt n.toNat (by omega)
  rw [aLc n.toNat (by omega), w64 (n := (lenN n.toNat : Int)) (by omega) (by omega), Int.zero_add, w64 (by omega) (by omega)]
  exact aJ rfl rfl
def cV.C : aF
  | [.int .u64 n] => some (false, pD (0 ≤ n ∧ n < 256) (.int .i64 (lenN n.toNat)))
  | _ => none
theorem cV.spec : bJ Tryz.prog 120 cV.C := by
  refine bJ.of (bU (F := [(135, dA.C)]) (S := []) (by simpa using dA.spec) (by simp) cV.loops) cV.at cV.nm cV.bd ?_
  intro vs b S v news e hS
  unfold cV.C at e
  split at e
  rotate_left
  · cases e
  cases e
  rw [cV.eq]
  unfold cV.H
  simp (maxSteps := 4000000) only [go_sem, reduceEqDiff, Nat.reduceLT, reduceAdd, reduceSub, reduceLeDiff, reduceReplicate, reduceToNat, dA.C]
  rename_i n
  exact ⟨hS, aJ rfl rfl⟩
def cF.C : aF
  | [.int .i64 n] => some (false, pD (0 ≤ n ∧ n < 256) (.int .u64 (2 ^ lenN n.toNat : Nat)))
  | _ => none
theorem cF.spec : bJ Tryz.prog 143 cF.C := by
  refine bJ.of (bU (F := [(120, cV.C)]) (S := []) (by simpa using cV.spec) (by simp) cF.loops) cF.at cF.nm cF.bd ?_
  intro vs b S v news e hS
  unfold cF.C at e
  split at e
  rotate_left
  · cases e
  cases e
  rw [cF.eq]
  unfold cF.H
  simp (maxSteps := 4000000) only [go_sem, reduceEqDiff, Nat.reduceLT, reduceAdd, reduceSub, reduceLeDiff, reduceReplicate, reduceToNat, cV.C]
  rename_i n
  have g2 : IntKind.u64.wrap n = n := zI (by omega) (by omega)
  have h8 := aHt n.toNat (by omega)
  simp only [g2, cV.C, aB, gq, reduceEq, reduceLT, reduceLE, implies_true, reduceCtorEq, if_true, if_false, go_sem, reduceEqDiff, Nat.reduceLT, reduceAdd, reduceSub, reduceLeDiff, reduceReplicate, reduceToNat]
  refine ⟨hS.2, by omega, ?_⟩
  have h2 : 2 ^ lenN n.toNat ≤ 2 ^ 8 := Nat.pow_le_pow_right (by decide) h8
  have e : (2 : Int) ^ lenN n.toNat = ((2 ^ lenN n.toNat : Nat) : Int) := by rw [Int.natCast_pow]; rfl
  rw [Nat.min_eq_left (by omega), Int.one_mul, e]
  generalize 2 ^ lenN n.toNat = P at *
  rw [zI (n := (P : Int)) (by omega) (by omega)]
  exact aJ rfl rfl
def aT.K : Con := fun args h K => match args with
  | [a0, a1, a2, a3] => aT.H (ctx [(143, cF.C)] [(144, cC.K)] aT.loops) a0 a1 a2 a3 h K
  | _ => False
theorem aT.spec : dB Tryz.prog 128 aT.K := by
  refine dB.of (bU (F := [(143, cF.C)]) (S := [(144, cC.K)]) (by simpa using cF.spec) (by simpa using cC.spec) aT.loops) aT.at aT.nm aT.bd ?_
  intro args h K hC
  unfold aT.K at hC
  split at hC
  · rw [aT.eq]; exact hC
  · exact hC.elim
theorem aMg (A : SkT) (m : bF → Bool) (v : Nat) (l : List RecT) (T : List AObj) (hTn : OkT T) (n a b : Nat) (hn : n = l.length) (hab : a + 8 ≤ b) (hbn : b ≤ n) (h255 : b < a + 256) (hr : roomy n) (K : AOut → List AObj → Prop)
    (hK : ∀ l' y, SegP a b l l' → K (.ret (.tup [])) (hpS A m v l' (T ++ [.box (.int .u64 y)]))) :
    aT.K [.sref false 2 v 0 n, .int .i64 a, .int .i64 b, hitF] (hpS A m v l T) K := by
  have hr' := hr
  unfold roomy at hr'
  have h2 : 2 < T.length + 1 + 1 + 1 := by omega
  obtain ⟨len, hlen⟩ : ∃ len, b - a = len := ⟨_, rfl⟩
  have hl8 : 8 ≤ len := by omega
  have hpw := aLd len (by omega) hl8
  obtain ⟨P, hP⟩ : ∃ P, 2 ^ lenN len = P := ⟨_, rfl⟩
  rw [hP] at hpw
  have e0 : IntKind.i64.wrap ((b : Int) - a) = (len : Int) := by rw [w64 (by omega) (by omega)]; omega
  have e1 : IntKind.i64.wrap ((len : Int).tdiv 4) = ((len / 4 : Nat) : Int) := by rw [Int.tdiv_eq_ediv_of_nonneg (by omega), w64 (by omega) (by omega)]; omega
  obtain ⟨q, hq⟩ : ∃ q, len / 4 = q := ⟨_, rfl⟩
  rw [hq] at e1
  have e2 : IntKind.i64.wrap ((q : Int) * 2) = ((q * 2 : Nat) : Int) := by rw [w64 (by omega) (by omega)]; omega
  have e3 : IntKind.i64.wrap ((a : Int) + ((q * 2 : Nat) : Int)) = ((a + q * 2 : Nat) : Int) := by rw [w64 (by omega) (by omega)]; omega
  have e4 : IntKind.i64.wrap (((a + q * 2 : Nat) : Int) - 1) = ((a + q * 2 - 1 : Nat) : Int) := by rw [w64 (by omega) (by omega)]; omega
  have e5 : IntKind.u64.wrap ((P : Int) - 1) = (P : Int) - 1 := zI (by omega) (by omega)
  have d1 : decide ((8 : Int) ≤ (len : Int)) = true := decide_eq_true (by omega)
  unfold aT.K aT.H
  have hT1 : ∀ y k h, (T ++ [AObj.box (.int .u64 y)]).map (pS k h) = T ++ [AObj.box (.int .u64 y)] := fun y => hTn.snoc .u64 y
  have hL1 : ∀ y : AObj, (T ++ [y]).length = T.length + 1 := fun y => by simp
  have hTk : ∀ y : AObj, (T ++ [y]).take (T.length + 1) = T ++ [y] := fun y => List.take_of_length_le (by simp)
  have h3 : T.length + 1 + 1 + 1 < T.length + 1 + 1 + 1 + 1 := by omega
  have h4 : 2 < T.length + 1 + 1 + 1 + 1 := by omega
  simp only [hpS, hTn _ _, hT1, hL1, pG, xT, SkT.norm, h2, h3, h4, e0, e1, e2, e3, e4, d1, aB, cF.C, Int.toNat_natCast, hP, aB, gq, reduceEq, reduceLT, reduceLE, implies_true, reduceCtorEq, if_true, if_false, go_sem, reduceEqDiff, Nat.reduceLT, reduceAdd, reduceSub, reduceLeDiff, reduceReplicate, reduceToNat] at hK ⊢
  refine ⟨⟨by omega, by omega⟩, ?_⟩
  unfold aT.L1
  refine lD (σ := List RecT × Nat × Int) (fun s => .int .i64 s.2.1) (fun s => .box A.V :: .map (.sb m) :: .row .own v (.recs s.1) :: (T ++ [.box (.int .u64 s.2.2)])) (fun s => a + q * 2 + 2 - s.2.1) (fun s => a + q * 2 - 1 ≤ s.2.1 ∧ s.2.1 ≤ a + q * 2 + 2 ∧ SegP a b l s.1) (l, a + q * 2 - 1, IntKind.u64.wrap len) rfl rfl ⟨Nat.le_refl _, by simp only; omega, SegP.refl⟩ ?_
  rintro I back ⟨l1, i, x⟩ ⟨hi1, hi2, hp⟩
  simp only at hi1 hi2 hp ⊢
  have hl1 := hp.len
  simp only [e1, e2, e3, eX (show a + q * 2 < 4611686018427387904 by omega), hT1, hL1, SkT.norm, h2, h3, h4, aB, aB, gq, reduceEq, reduceLT, reduceLE, implies_true, reduceCtorEq, if_true, if_false, go_sem, reduceEqDiff, Nat.reduceLT, reduceAdd, reduceSub, reduceLeDiff, reduceReplicate, reduceToNat]
  refine ⟨fun hle => ?_, fun hgt => hK l1 x hp⟩
  refine aNf A m v l1 T hTn x _ fun y => ?_
  obtain ⟨z0, z1⟩ := aNe (a := y) (b := (P : Int) - 1) (by omega) (by omega)
  have hlt : ∀ c : Nat, c < len → ∃ m_1, m_1 < a + q * 2 + 2 - i ∧ I m_1 [.int .i64 ((i + 1 : Nat) : Int)] (.box A.V :: .map (.sb m) :: .row .own v (.recs (fY l1 i (a + c))) :: (T ++ [.box (.int .u64 y)])) := fun c hc =>
    back (fY l1 i (a + c), i + 1, y) (by simp only; omega) rfl rfl ⟨by simp only; omega, by simp only; omega, hp.trans (SegP.swap (by omega) (by omega) (by omega) (by omega) (by omega))⟩
  obtain ⟨c, hc⟩ : ∃ c : Nat, andI .u64 y ((P : Int) - 1) = c := ⟨(andI .u64 y ((P : Int) - 1)).toNat, by omega⟩
  have e6 : IntKind.i64.wrap (c : Int) = c := w64 (by omega) (by omega)
  have e7 : ∀ c : Nat, c < len → IntKind.i64.wrap ((a : Int) + (c : Int)) = ((a + c : Nat) : Int) := fun c hc => by rw [w64 (by omega) (by omega)]; omega
  have e8 : len ≤ c → IntKind.i64.wrap ((c : Int) - (len : Int)) = ((c - len : Nat) : Int) := fun h => by rw [w64 (by omega) (by omega)]; omega
  rw [hc] at z0 z1
  simp only [hpS, hT1, hL1, pG, SkT.norm, h2, h3, h4, e5, hc, e6, aB, eX (show i < 4611686018427387904 by omega), aB, gq, reduceEq, reduceLT, reduceLE, implies_true, reduceCtorEq, if_true, if_false, go_sem, reduceEqDiff, Nat.reduceLT, reduceAdd, reduceSub, reduceLeDiff, reduceReplicate, reduceToNat]
  refine ⟨fun hge => ?_, fun hnge => ?_⟩
  · have hcl : c - len < len := by omega
    simp only [hpS, hT1, hL1, SkT.norm, h2, h3, h4, e8 (by omega), e7 _ hcl, aB, Int.toNat_natCast, gX, gW, iR, gT, List.length_set, hTk, eX (show i < 4611686018427387904 by omega), aB, gq, reduceEq, reduceLT, reduceLE, implies_true, reduceCtorEq, if_true, if_false, go_sem, reduceEqDiff, Nat.reduceLT, reduceAdd, reduceSub, reduceLeDiff, reduceReplicate, reduceToNat]
    exact ⟨⟨by omega, by omega⟩, by omega, ⟨by omega, by omega⟩, by omega, ⟨by omega, by omega⟩, by omega, ⟨by omega, by omega⟩, by omega, hlt _ hcl⟩
  · have hcl : c < len := by omega
    simp only [hpS, hT1, hL1, SkT.norm, h2, h3, h4, e7 _ hcl, aB, Int.toNat_natCast, gX, gW, iR, gT, List.length_set, hTk, eX (show i < 4611686018427387904 by omega), aB, gq, reduceEq, reduceLT, reduceLE, implies_true, reduceCtorEq, if_true, if_false, go_sem, reduceEqDiff, Nat.reduceLT, reduceAdd, reduceSub, reduceLeDiff, reduceReplicate, reduceToNat]
    exact ⟨⟨by omega, by omega⟩, by omega, ⟨by omega, by omega⟩, by omega, ⟨by omega, by omega⟩, by omega, ⟨by omega, by omega⟩, by omega, hlt _ hcl⟩
end Lam
namespace Lam
open Go Go.Proofs
theorem aBF {w : List Int} {b : Int} {n : Nd} (h : eO w b = some n) : qL w b = .tup [n.V, .int .i64 0] := by
  unfold eO at h
  unfold qL
  split at h
  · cases h
  · rename_i hb; rw [if_neg hb, h]
theorem aFP {w : List Int} {b : Int} (h : eO w b = none) : ∃ e, e ≠ 0 ∧ qL w b = .tup [iT.V, .int .i64 e] := by
  unfold eO at h
  unfold qL
  split at h
  · rename_i hb; rw [if_pos hb]; exact ⟨1, by decide, rfl⟩
  · rename_i hb; rw [if_neg hb, h]; exact ⟨90, by decide, rfl⟩
theorem aEg {w : List Int} {b : Int} {n : Rc} (h : recO w b = some n) : oS w b = .tup [n.V, .int .i64 0] := by
  unfold recO at h
  unfold oS
  split at h
  · cases h
  · rename_i hb; rw [if_neg hb, h]
theorem aKf {w : List Int} {b : Int} (h : recO w b = none) : ∃ e, e ≠ 0 ∧ oS w b = .tup [jZ.V, .int .i64 e] := by
  unfold recO at h
  unfold oS
  split at h
  · rename_i hb; rw [if_pos hb]; exact ⟨1, by decide, rfl⟩
  · rename_i hb; rw [if_neg hb, h]; exact ⟨70, by decide, rfl⟩
structure Sk where
  block : Int
  turn : Int
  at_ : Int
  refs : List Int
  over : Bool
def Sk.V (s : Sk) : AV := .agg [.int .i64 s.block, .int .i64 s.turn, .int .i64 s.at_, .sl false (.ints .i64 s.refs), .bool s.over]
def uV (t : Int) : Bool := decide (andI .i64 t 1 = 1)
def dU.C : aF
  | [.agg [.int .i64 _, .int .i64 t, .int .i64 _, .sl _ (.ints .i64 _), .bool _]] => some (false, pD True (.bool (uV t)))
  | _ => none
theorem dU.spec : bJ Tryz.prog 67 dU.C := by
  refine bJ.of (bU (F := []) (S := []) (by simp) (by simp) dU.loops) dU.at dU.nm dU.bd ?_
  intro vs b S v news e hS
  unfold dU.C at e
  split at e
  rotate_left
  · cases e
  cases e
  rw [dU.eq]
  unfold dU.H
  simp (maxSteps := 4000000) only [go_sem, reduceEqDiff, Nat.reduceLT, reduceAdd, reduceSub, reduceLeDiff, reduceReplicate, reduceToNat]
  exact aJ rfl rfl
def skZ : Sk := ⟨0, 0, 0, [], false⟩
def sD (w : List Int) (b : Int) : Option Sk := match eO w b with
  | some n => if 256 ≤ b then none else some ⟨b, n.turn, if uV n.turn = true then 12 else 0, [], false⟩
  | none => none
def wT (w : List Int) (b : Int) : AV := match sD w b with
  | some s => .tup [s.V, .int .i64 0]
  | none => .tup [skZ.V, .int .i64 90]
def fO.C : aF
  | [.sl _ (.ints .i64 w), .int .i64 b] => some (false, pD (roomy w.length) (wT w b))
  | _ => none
theorem fO.spec : bJ Tryz.prog 40 fO.C := by
  refine bJ.of (bU (F := [(46, cS.C), (67, dU.C)]) (S := []) (by simpa using ⟨cS.spec, dU.spec⟩) (by simp) fO.loops) fO.at fO.nm fO.bd ?_
  intro vs b S v news e hS
  unfold fO.C at e
  split at e
  rotate_left
  · cases e
  cases e
  rw [fO.eq]
  unfold fO.H
  simp (maxSteps := 4000000) only [go_sem, reduceEqDiff, Nat.reduceLT, reduceAdd, reduceSub, reduceLeDiff, reduceReplicate, reduceToNat, cS.C, dU.C]
  rename_i w b
  unfold wT sD
  cases hn : eO w b with
  | none =>
    obtain ⟨e, he, hr⟩ := aFP hn
    simp only [hr, iT, he, decide_true, decide_false, aB, skZ, Sk.V, aB, gq, reduceEq, reduceLT, reduceLE, implies_true, reduceCtorEq, if_true, if_false, go_sem, reduceEqDiff, Nat.reduceLT, reduceAdd, reduceSub, reduceLeDiff, reduceReplicate, reduceToNat]
    exact ⟨hS, aJ rfl rfl⟩
  | some n =>
    obtain ⟨n1, n2, n3, n4, n5⟩ := n
    by_cases hb : 256 ≤ b
    · simp only [aBF hn, hb, if_true, decide_true, aB, skZ, Sk.V, aB, gq, reduceEq, reduceLT, reduceLE, implies_true, reduceCtorEq, if_true, if_false, go_sem, reduceEqDiff, Nat.reduceLT, reduceAdd, reduceSub, reduceLeDiff, reduceReplicate, reduceToNat]
      exact ⟨hS, aJ rfl rfl⟩
    · simp only [aBF hn, hb, if_false, decide_false, dU.C, aB, Sk.V, aB, gq, reduceEq, reduceLT, reduceLE, implies_true, reduceCtorEq, if_true, if_false, go_sem, reduceEqDiff, Nat.reduceLT, reduceAdd, reduceSub, reduceLeDiff, reduceReplicate, reduceToNat]
      cases hd : uV n2 with
      | true => simp only [if_true, aB, gq, reduceEq, reduceLT, reduceLE, implies_true, reduceCtorEq, if_true, if_false, go_sem, reduceEqDiff, Nat.reduceLT, reduceAdd, reduceSub, reduceLeDiff, reduceReplicate, reduceToNat]; exact ⟨hS, aJ rfl rfl⟩
      | false => simp only [if_false, aB, gq, reduceEq, reduceLT, reduceLE, implies_true, reduceCtorEq, if_true, if_false, go_sem, reduceEqDiff, Nat.reduceLT, reduceAdd, reduceSub, reduceLeDiff, reduceReplicate, reduceToNat]; exact ⟨hS, aJ rfl rfl⟩
def wU (w : List Int) (b t : Int) : Bool := match eO w b with
  | some n => decide (n.turn = t)
  | none => false
def fP.C : aF
  | [.sl _ (.ints .i64 w), .agg [.int .i64 b, .int .i64 t, .int .i64 _, .sl _ (.ints .i64 _), .bool _]] => some (false, pD (roomy w.length) (.bool (wU w b t)))
  | _ => none
theorem fP.spec : bJ Tryz.prog 71 fP.C := by
  refine bJ.of (bU (F := [(46, cS.C)]) (S := []) (by simpa using cS.spec) (by simp) fP.loops) fP.at fP.nm fP.bd ?_
  intro vs b S v news e hS
  unfold fP.C at e
  split at e
  rotate_left
  · cases e
  cases e
  rw [fP.eq]
  unfold fP.H
  simp (maxSteps := 4000000) only [go_sem, reduceEqDiff, Nat.reduceLT, reduceAdd, reduceSub, reduceLeDiff, reduceReplicate, reduceToNat, cS.C]
  rename_i _ w b t _ _ _ _
  unfold wU
  cases hn : eO w b with
  | none =>
    obtain ⟨e, he, hr⟩ := aFP hn
    simp only [hr, iT, he, decide_true, decide_false, aB, aB, gq, reduceEq, reduceLT, reduceLE, implies_true, reduceCtorEq, if_true, if_false, go_sem, reduceEqDiff, Nat.reduceLT, reduceAdd, reduceSub, reduceLeDiff, reduceReplicate, reduceToNat]
    exact ⟨hS, aJ rfl rfl⟩
  | some n =>
    obtain ⟨n1, n2, n3, n4, n5⟩ := n
    simp only [aBF hn, decide_true, aB, aB, gq, reduceEq, reduceLT, reduceLE, implies_true, reduceCtorEq, if_true, if_false, go_sem, reduceEqDiff, Nat.reduceLT, reduceAdd, reduceSub, reduceLeDiff, reduceReplicate, reduceToNat]
    exact ⟨hS, aJ rfl rfl⟩
def cT.K : Con := fun args h K => match args with
  | [a0] => cT.H (ctx [] [] cT.loops) a0 h K
  | _ => False
theorem cT.spec : dB Tryz.prog 69 cT.K := by
  refine dB.of (bU (F := []) (S := []) (by simp) (by simp) cT.loops) cT.at cT.nm cT.bd ?_
  intro args h K hC
  unfold cT.K at hC
  split at hC
  · rw [cT.eq]; exact hC
  · exact hC.elim
def cI.K : Con := fun args h K => match args with
  | [a0] => cI.H (ctx [] [] cI.loops) a0 h K
  | _ => False
theorem cI.spec : dB Tryz.prog 70 cI.K := by
  refine dB.of (bU (F := []) (S := []) (by simp) (by simp) cI.loops) cI.at cI.nm cI.bd ?_
  intro args h K hC
  unfold cI.K at hC
  split at hC
  · rw [cI.eq]; exact hC
  · exact hC.elim
def kQ (w : Int) (s : Sk) : Bool := if uV s.turn = true then decide (s.at_ = 0) else decide (w < 1) || decide (s.at_ = 12)
def goOn (w : Int) (s : Sk) : Sk :=
  { s with
    refs := if (decide (0 < w) && (decide (s.refs.length = 0) || !decide (s.refs.getD (s.refs.length - 1) 0 = w))) = true then s.refs ++ [w] else s.refs
    over := kQ w s
    at_ := if kQ w s = true then s.at_ else if uV s.turn = true then IntKind.i64.wrap (s.at_ - 1) else IntKind.i64.wrap (s.at_ + 1) }
def mQ (w : List Int) (s : Sk) : Int := if (decide (0 ≤ s.block) && decide (s.block < 256) && decide (s.block < ((w.length / 16 : Nat) : Int))) = true then oL (16 * s.block) s.at_ else -1
def rJ (w : List Int) (s : Sk) : Sk := if (s.over || decide (mQ w s < 0)) = true then s else goOn (w.getD (mQ w s).toNat 0) s
def gH.C : aF
  | [.sl _ (.ints .i64 w), .agg [.int .i64 b, .int .i64 t, .int .i64 a, .sl _ (.ints .i64 l), .bool o]] => some (false, pD (w.length ≤ 65536 ∧ l.length ≤ 65536) (rJ w ⟨b, t, a, l, o⟩).V)
  | _ => none
theorem gH.spec : bJ Tryz.prog 41 gH.C := by
  refine bJ.of (bU (F := [(68, fJ.C), (34, bA.C), (67, dU.C)]) (S := [(69, cT.K), (70, cI.K)]) (by simpa using ⟨fJ.spec, bA.spec, dU.spec⟩) (by simpa using ⟨cT.spec, cI.spec⟩) gH.loops) gH.at gH.nm gH.bd ?_
  intro vs b S v news e hS
  unfold gH.C at e
  split at e
  rotate_left
  · cases e
  cases e
  rw [gH.eq]
  unfold gH.H
  simp (maxSteps := 4000000) only [go_sem, reduceEqDiff, Nat.reduceLT, reduceAdd, reduceSub, reduceLeDiff, reduceReplicate, reduceToNat, fJ.C, bA.C, dU.C]
  rename_i _ w b t a x l o
  obtain ⟨hw, hl⟩ := hS
  have e0 : IntKind.i64.wrap ((w.length : Int).tdiv 16) = ((w.length / 16 : Nat) : Int) := by
    rw [Int.tdiv_eq_ediv_of_nonneg (by omega)]; exact w64 (by omega) (by omega)
  have hst : ∀ s : Sk, (s.over || decide (mQ w s < 0)) = true → rJ w s = s := fun s h => by unfold rJ; rw [if_pos h]
  have hgo : ∀ s : Sk, (s.over || decide (mQ w s < 0)) = false → rJ w s = goOn (w.getD (mQ w s).toNat 0) s := fun s h => by unfold rJ; rw [if_neg (by rw [h]; decide)]
  refine ⟨fun _ => by decide, ?_⟩
  cases hin : (decide (0 ≤ b) && decide (b < 256) && decide (b < ((w.length / 16 : Nat) : Int))) with
  | false =>
    have hs : mQ w ⟨b, t, a, l, o⟩ = -1 := by unfold mQ; rw [if_neg (by rw [hin]; decide)]
    rw [hst _ (by rw [hs]; cases o <;> rfl)]
    simp only [e0, hin, aB, Sk.V, aB, gq, reduceEq, reduceLT, reduceLE, implies_true, reduceCtorEq, if_true, if_false, go_sem, reduceEqDiff, Nat.reduceLT, reduceAdd, reduceSub, reduceLeDiff, reduceReplicate, reduceToNat]
    cases o with
    | true => simp only [aB, gq, reduceEq, reduceLT, reduceLE, implies_true, reduceCtorEq, if_true, if_false, go_sem, reduceEqDiff, Nat.reduceLT, reduceAdd, reduceSub, reduceLeDiff, reduceReplicate, reduceToNat]; exact aJ rfl rfl
    | false => simp only [aB, gq, reduceEq, reduceLT, reduceLE, implies_true, reduceCtorEq, if_true, if_false, go_sem, reduceEqDiff, Nat.reduceLT, reduceAdd, reduceSub, reduceLeDiff, reduceReplicate, reduceToNat]; exact aJ rfl rfl
  | true =>
    have hin' := hin
    simp only [Bool.and_eq_true, decide_eq_true_eq] at hin'
    obtain ⟨⟨h0, h1⟩, h2⟩ := hin'
    have e1 : IntKind.i64.wrap (16 * b) = 16 * b := w64 (by omega) (by omega)
    have hs : mQ w ⟨b, t, a, l, o⟩ = oL (16 * b) a := by unfold mQ; rw [if_pos hin]
    by_cases hp : oL (16 * b) a < 0
    · rw [hst _ (by rw [hs, decide_eq_true hp, Bool.or_true])]
      simp only [e0, e1, hin, hp, decide_true, aB, Sk.V, aB, gq, reduceEq, reduceLT, reduceLE, implies_true, reduceCtorEq, if_true, if_false, go_sem, reduceEqDiff, Nat.reduceLT, reduceAdd, reduceSub, reduceLeDiff, reduceReplicate, reduceToNat]
      cases o with
      | true => simp only [aB, gq, reduceEq, reduceLT, reduceLE, implies_true, reduceCtorEq, if_true, if_false, go_sem, reduceEqDiff, Nat.reduceLT, reduceAdd, reduceSub, reduceLeDiff, reduceReplicate, reduceToNat]; exact aJ rfl rfl
      | false => simp only [aB, gq, reduceEq, reduceLT, reduceLE, implies_true, reduceCtorEq, if_true, if_false, go_sem, reduceEqDiff, Nat.reduceLT, reduceAdd, reduceSub, reduceLeDiff, reduceReplicate, reduceToNat]; exact aJ rfl rfl
    · cases o with
      | true =>
        rw [hst _ rfl]
        simp only [e0, e1, hin, hp, decide_true, decide_false, aB, Sk.V, aB, gq, reduceEq, reduceLT, reduceLE, implies_true, reduceCtorEq, if_true, if_false, go_sem, reduceEqDiff, Nat.reduceLT, reduceAdd, reduceSub, reduceLeDiff, reduceReplicate, reduceToNat]
        exact aJ rfl rfl
      | false =>
        rw [hgo _ (by rw [hs, decide_eq_false hp]; rfl), hs]
        have hnb : qA (16 * b) = true := (aBy (by omega)).2 ⟨by omega, by omega, by omega⟩
        have ha : 0 ≤ a ∧ a < 13 ∧ oL (16 * b) a = 16 * b + 3 + a := by
          by_cases h : 0 ≤ a ∧ a < 13
          · exact ⟨h.1, h.2, aKN hnb (by omega) h.1 h.2⟩
          · exfalso
            apply hp
            unfold oL
            rw [if_neg (by simp only [Bool.and_eq_true, decide_eq_true_eq]; rintro ⟨⟨_, h1⟩, h2⟩; exact h ⟨h1, h2⟩)]
            decide
        obtain ⟨a0, a1, hpl⟩ := ha
        obtain ⟨P, hP⟩ : ∃ P : Nat, 16 * b + 3 + a = P := ⟨(16 * b + 3 + a).toNat, by omega⟩
        have hPl : P < w.length := by omega
        rw [hpl, hP, Int.toNat_natCast]
        rw [hP] at hpl
        have hpn : ¬ ((P : Nat) : Int) < 0 := by omega
        have hrl : roomy l.length := by unfold roomy; omega
        have e3 : l.length ≠ 0 → IntKind.i64.wrap ((l.length : Int) - 1) = ((l.length - 1 : Nat) : Int) := fun h => by rw [w64 (by omega) (by omega)]; omega
        simp only [e0, e1, hin, hpl, hpn, decide_true, decide_false, aB, Int.toNat_natCast, bA.C, aB, gq, reduceEq, reduceLT, reduceLE, implies_true, reduceCtorEq, if_true, if_false, go_sem, reduceEqDiff, Nat.reduceLT, reduceAdd, reduceSub, reduceLeDiff, reduceReplicate, reduceToNat]
        refine ⟨⟨by omega, by omega⟩, hrl, ?_⟩
        generalize w.getD P 0 = W
        have hra : roomy (l ++ [W]).length := by unfold roomy; simp; omega
        have hgo2 : ∀ (R : List Int), (goOn W ⟨b, t, a, l, false⟩).refs = R → ∀ (o : Bool) (a' : Int), kQ W ⟨b, t, a, l, false⟩ = o → (a' = if o = true then a else if uV t = true then IntKind.i64.wrap (a - 1) else IntKind.i64.wrap (a + 1)) → goOn W ⟨b, t, a, l, false⟩ = ⟨b, t, a', R, o⟩ := by
          rintro _ rfl _ _ rfl rfl; rfl
        by_cases hW : 0 < W
        · have hW1 : decide (W < 1) = false := decide_eq_false (by omega)
          have happ : ∀ K : Nat → Prop, True := fun _ => trivial
          by_cases hl0 : l.length = 0
          · have hd0 : decide ((l.length : Int) = 0) = true := decide_eq_true (by omega)
            have hgr : (goOn W ⟨b, t, a, l, false⟩).refs = l ++ [W] := by unfold goOn; simp [hW, hl0]
            simp only [hW, hW1, hd0, decide_true, dU.C, cT.K, cT.H, cI.K, cI.H, aB, aB, gq, reduceEq, reduceLT, reduceLE, implies_true, reduceCtorEq, if_true, if_false, go_sem, reduceEqDiff, Nat.reduceLT, reduceAdd, reduceSub, reduceLeDiff, reduceReplicate, reduceToNat]
            refine ⟨hra, fun hd => ⟨fun h => ?_, fun h => ?_⟩, fun hd => ⟨fun h => ?_, fun h => ?_⟩⟩
            · rw [hgo2 _ hgr false _ (by simp [kQ, hd, h]) (by simp [hd]; rfl), decide_eq_false h]
              refine aJ ?_ rfl
              simp only [Sk.V, List.take_length, go_sem, reduceEqDiff, Nat.reduceLT, reduceAdd, reduceSub, reduceLeDiff, reduceReplicate, reduceToNat]
            · rw [hgo2 _ hgr true _ (by simp [kQ, hd, h]) (by simp; rfl), decide_eq_true h]
              refine aJ ?_ rfl
              simp only [Sk.V, List.take_length, go_sem, reduceEqDiff, Nat.reduceLT, reduceAdd, reduceSub, reduceLeDiff, reduceReplicate, reduceToNat]
            · rw [hgo2 _ hgr false _ (by simp [kQ, hd, h]; omega) (by simp [hd]; rfl), decide_eq_false h]
              refine aJ ?_ rfl
              simp only [Sk.V, List.take_length, go_sem, reduceEqDiff, Nat.reduceLT, reduceAdd, reduceSub, reduceLeDiff, reduceReplicate, reduceToNat]
            · rw [hgo2 _ hgr true _ (by simp [kQ, hd, h]) (by simp; rfl), decide_eq_true h]
              refine aJ ?_ rfl
              simp only [Sk.V, List.take_length, go_sem, reduceEqDiff, Nat.reduceLT, reduceAdd, reduceSub, reduceLeDiff, reduceReplicate, reduceToNat]
          · have hd0 : decide ((l.length : Int) = 0) = false := decide_eq_false (by omega)
            by_cases hla : l.getD (l.length - 1) 0 = W
            · have hgr : (goOn W ⟨b, t, a, l, false⟩).refs = l := by
                unfold goOn
                simp only [hla, decide_true, Bool.not_true, Bool.or_false, decide_eq_false hl0, Bool.and_false]
                rw [if_neg (by decide)]
              simp only [hW, hW1, hd0, e3 hl0, hla, Int.toNat_natCast, decide_true, dU.C, cT.K, cT.H, cI.K, cI.H, aB, aB, gq, reduceEq, reduceLT, reduceLE, implies_true, reduceCtorEq, if_true, if_false, go_sem, reduceEqDiff, Nat.reduceLT, reduceAdd, reduceSub, reduceLeDiff, reduceReplicate, reduceToNat]
              refine ⟨⟨by omega, by omega⟩, fun hd => ⟨fun h => ?_, fun h => ?_⟩, fun hd => ⟨fun h => ?_, fun h => ?_⟩⟩
              · rw [hgo2 _ hgr false _ (by simp [kQ, hd, h]) (by simp [hd]; rfl), decide_eq_false h]
                refine aJ ?_ rfl
                simp only [Sk.V, List.take_length, go_sem, reduceEqDiff, Nat.reduceLT, reduceAdd, reduceSub, reduceLeDiff, reduceReplicate, reduceToNat]
              · rw [hgo2 _ hgr true _ (by simp [kQ, hd, h]) (by simp; rfl), decide_eq_true h]
                refine aJ ?_ rfl
                simp only [Sk.V, List.take_length, go_sem, reduceEqDiff, Nat.reduceLT, reduceAdd, reduceSub, reduceLeDiff, reduceReplicate, reduceToNat]
              · rw [hgo2 _ hgr false _ (by simp [kQ, hd, h]; omega) (by simp [hd]; rfl), decide_eq_false h]
                refine aJ ?_ rfl
                simp only [Sk.V, List.take_length, go_sem, reduceEqDiff, Nat.reduceLT, reduceAdd, reduceSub, reduceLeDiff, reduceReplicate, reduceToNat]
              · rw [hgo2 _ hgr true _ (by simp [kQ, hd, h]) (by simp; rfl), decide_eq_true h]
                refine aJ ?_ rfl
                simp only [Sk.V, List.take_length, go_sem, reduceEqDiff, Nat.reduceLT, reduceAdd, reduceSub, reduceLeDiff, reduceReplicate, reduceToNat]
            · have hgr : (goOn W ⟨b, t, a, l, false⟩).refs = l ++ [W] := by
                unfold goOn
                simp only [decide_eq_false hla, Bool.not_false, Bool.or_true, Bool.and_true, decide_eq_true hW, if_true]
              simp only [hW, hW1, hd0, e3 hl0, hla, Int.toNat_natCast, decide_true, decide_false, dU.C, cT.K, cT.H, cI.K, cI.H, aB, aB, gq, reduceEq, reduceLT, reduceLE, implies_true, reduceCtorEq, if_true, if_false, go_sem, reduceEqDiff, Nat.reduceLT, reduceAdd, reduceSub, reduceLeDiff, reduceReplicate, reduceToNat]
              refine ⟨⟨by omega, by omega⟩, hra, fun hd => ⟨fun h => ?_, fun h => ?_⟩, fun hd => ⟨fun h => ?_, fun h => ?_⟩⟩
              · rw [hgo2 _ hgr false _ (by simp [kQ, hd, h]) (by simp [hd]; rfl), decide_eq_false h]
                refine aJ ?_ rfl
                simp only [Sk.V, List.take_length, go_sem, reduceEqDiff, Nat.reduceLT, reduceAdd, reduceSub, reduceLeDiff, reduceReplicate, reduceToNat]
              · rw [hgo2 _ hgr true _ (by simp [kQ, hd, h]) (by simp; rfl), decide_eq_true h]
                refine aJ ?_ rfl
                simp only [Sk.V, List.take_length, go_sem, reduceEqDiff, Nat.reduceLT, reduceAdd, reduceSub, reduceLeDiff, reduceReplicate, reduceToNat]
              · rw [hgo2 _ hgr false _ (by simp [kQ, hd, h]; omega) (by simp [hd]; rfl), decide_eq_false h]
                refine aJ ?_ rfl
                simp only [Sk.V, List.take_length, go_sem, reduceEqDiff, Nat.reduceLT, reduceAdd, reduceSub, reduceLeDiff, reduceReplicate, reduceToNat]
              · rw [hgo2 _ hgr true _ (by simp [kQ, hd, h]) (by simp; rfl), decide_eq_true h]
                refine aJ ?_ rfl
                simp only [Sk.V, List.take_length, go_sem, reduceEqDiff, Nat.reduceLT, reduceAdd, reduceSub, reduceLeDiff, reduceReplicate, reduceToNat]
        · have hW1 : decide (W < 1) = true := decide_eq_true (by omega)
          have hgr : (goOn W ⟨b, t, a, l, false⟩).refs = l := by
            unfold goOn
            simp only [decide_eq_false hW, Bool.false_and]
            rw [if_neg (by decide)]
          simp only [hW, hW1, decide_true, decide_false, dU.C, cT.K, cT.H, cI.K, cI.H, aB, aB, gq, reduceEq, reduceLT, reduceLE, implies_true, reduceCtorEq, if_true, if_false, go_sem, reduceEqDiff, Nat.reduceLT, reduceAdd, reduceSub, reduceLeDiff, reduceReplicate, reduceToNat]
          refine ⟨fun hd => ⟨fun h => ?_, fun h => ?_⟩, fun hd => ?_⟩
          · rw [hgo2 _ hgr false _ (by simp [kQ, hd, h]) (by simp [hd]; rfl), decide_eq_false h]
            refine aJ ?_ rfl
            simp only [Sk.V, List.take_length, go_sem, reduceEqDiff, Nat.reduceLT, reduceAdd, reduceSub, reduceLeDiff, reduceReplicate, reduceToNat]
          · rw [hgo2 _ hgr true _ (by simp [kQ, hd, h]) (by simp; rfl), decide_eq_true h]
            refine aJ ?_ rfl
            simp only [Sk.V, List.take_length, go_sem, reduceEqDiff, Nat.reduceLT, reduceAdd, reduceSub, reduceLeDiff, reduceReplicate, reduceToNat]
          · rw [hgo2 _ hgr true _ (by simp [kQ, hd]; omega) (by simp; rfl)]
            refine aJ ?_ rfl
            simp only [Sk.V, List.take_length, go_sem, reduceEqDiff, Nat.reduceLT, reduceAdd, reduceSub, reduceLeDiff, reduceReplicate, reduceToNat]
end Lam
namespace Lam
open Go Go.Proofs
def ExtT (T T1 : List AObj) : Prop := OkT T1 ∧ T1.take T.length = T
theorem ExtT.refl {T : List AObj} (h : OkT T) : ExtT T T := ⟨h, List.take_of_length_le (Nat.le_refl _)⟩
theorem ExtT.len {T T1 : List AObj} (h : ExtT T T1) : T.length ≤ T1.length := by
  have := congrArg List.length h.2
  rw [List.length_take] at this; omega
theorem ExtT.trans {T T1 T2 : List AObj} (h : ExtT T T1) (h' : ExtT T1 T2) : ExtT T T2 :=
  ⟨h'.1, by
    have e : T2.take T.length = (T2.take T1.length).take T.length := by rw [List.take_take, Nat.min_eq_left h.len]
    rw [e, h'.2, h.2]⟩
theorem ExtT.snoc {T T1 : List AObj} (h : ExtT T T1) (k : IntKind) (n : Int) : ExtT T (T1 ++ [.box (.int k n)]) :=
  ⟨h.1.snoc k n, by rw [List.take_append_of_le_length h.len]; exact h.2⟩
abbrev aHu (C : Con) : Ctx := ctx [(109, bT.C)] [(126, aO.K), (127, aW.K), (128, aT.K), (129, bG.K), (130, aU.K), (131, aE.K), (133, aI.K), (119, C)] bO.loops
def pdqD : Nat → Con
  | 0 => fun _ _ _ => False
  | d + 1 => fun args h K => match args with
    | [a0, a1, a2, a3, a4] => bO.H (aHu (pdqD d)) a0 a1 a2 a3 a4 h K
    | _ => False
theorem pdqD.spec : ∀ d, dB Tryz.prog 119 (pdqD d)
  | 0 => by
    refine dB.of (c := ctx [] [] bO.loops) (bU (by simp) (by simp) bO.loops) bO.at bO.nm bO.bd ?_
    intro args h K hC
    exact hC.elim
  | d + 1 => by
    refine dB.of (c := aHu (pdqD d)) (bU (by simpa using bT.spec) (by simpa using ⟨aO.spec, aW.spec, aT.spec, bG.spec, aU.spec, aE.spec, aI.spec, pdqD.spec d⟩) bO.loops) bO.at bO.nm bO.bd ?_
    intro args h K hC
    unfold pdqD at hC
    split at hC
    · rw [bO.eq]; exact hC
    · exact hC.elim
theorem aLG (A : SkT) (m : bF → Bool) (v : Nat) (n : Nat) (hr : roomy n) (h255 : n < 256) : ∀ (d : Nat) (l : List RecT) (T : List AObj) (hTn : OkT T) (a b : Nat) (lim : Int) (hn : n = l.length) (hab : a ≤ b) (hbn : b ≤ n) (hd : b < a + d) (hpre : PreS a b l) (hnd : (l.map (·.key)).Nodup) (K : AOut → List AObj → Prop)
    (hK : ∀ l' T', ExtT T T' → SegP a b l l' → SegS a b l' → K (.ret (.tup [])) (hpS A m v l' T')),
    pdqD d [.sref false 2 v 0 n, .int .i64 a, .int .i64 b, .int .i64 lim, hitF] (hpS A m v l T) K
  | 0, l, T, hTn, a, b, lim, hn, hab, hbn, hd, hpre, hnd, K, hK => by omega
  | d + 1, l, T, hTn, a0, b0, lim0, hn, hab0, hbn0, hd, hpre0, hnd, K, hK => by
    have ih := aLG A m v n hr h255 d
    have hr' := hr
    unfold roomy at hr'
    have h2 : 2 < T.length + 1 + 1 + 1 := by omega
    unfold pdqD bO.H
    simp only [hpS, hTn _ _, SkT.norm, h2, aB, aB, gq, reduceEq, reduceLT, reduceLE, implies_true, reduceCtorEq, if_true, if_false, go_sem, reduceEqDiff, Nat.reduceLT, reduceAdd, reduceSub, reduceLeDiff, reduceReplicate, reduceToNat]
    unfold bO.L1
    refine aRt (σ := List RecT × Nat × Nat × Int × Bool × Bool) (fun s => .int .i64 s.2.1) (fun s => .int .i64 s.2.2.1) (fun s => .int .i64 s.2.2.2.1) (fun s => .bool s.2.2.2.2.1) (fun s => .bool s.2.2.2.2.2) (fun s => .box A.V :: .map (.sb m) :: .row .own v (.recs s.1) :: T) (fun s => s.2.2.1 - s.2.1)
      (fun s => a0 ≤ s.2.1 ∧ s.2.1 ≤ s.2.2.1 ∧ s.2.2.1 ≤ b0 ∧ SegP a0 b0 l s.1 ∧ PreS s.2.1 s.2.2.1 s.1 ∧ ∀ l', SegP s.2.1 s.2.2.1 s.1 l' → SegS s.2.1 s.2.2.1 l' → SegS a0 b0 l') (l, a0, b0, lim0, true, true) rfl rfl ⟨Nat.le_refl _, hab0, Nat.le_refl _, SegP.refl, hpre0, fun l' _ h => h⟩ ?_
    rintro I back ⟨l1, a, b, lim, t10, t11⟩ ⟨g1, g2, g3, g4, g5, g6⟩
    simp only at g1 g2 g3 g4 g5 g6 ⊢
    have hl1 := g4.len
    obtain ⟨len, hlen⟩ : ∃ len, b - a = len := ⟨_, rfl⟩
    have e2 : IntKind.i64.wrap ((b : Int) - a) = (len : Int) := by rw [w64 (by omega) (by omega)]; omega
    have hlt : ∀ (l2 : List RecT) (p : Nat), SegP a b l1 l2 → a ≤ p → p < b → 0 < a → ltB (kyL l2 (a - 1)) (kyL l2 p) = true := fun l2 p h1 h3 h4 h5 => by
      rcases g5.keep h1 with h | h
      · omega
      · refine vI (h p h3 h4) fun e => ?_
        have hnd2 : (l2.map (·.key)).Nodup := ((g4.trans (h1.mono g1 g3)).1.map _).nodup_iff.2 hnd
        have hl2 := h1.len
        have h6 := List.pairwise_iff_getElem.1 hnd2 (a - 1) p (by simp; omega) (by simp; omega) (by omega)
        apply h6
        unfold kyL at e
        rw [List.getD_eq_getElem?_getD, List.getD_eq_getElem?_getD, List.getElem?_eq_getElem (by omega), List.getElem?_eq_getElem (by omega)] at e
        simpa using e
    have ea1 : 0 < a → IntKind.i64.wrap ((a : Int) - 1) = ((a - 1 : Nat) : Int) := fun h => by rw [w64 (by omega) (by omega)]; omega
    have eb1 : 0 < b → IntKind.i64.wrap ((b : Int) - 1) = ((b - 1 : Nat) : Int) := fun h => by rw [w64 (by omega) (by omega)]; omega
    have ep1 : ∀ p : Nat, a ≤ p → p < b → IntKind.i64.wrap (((b - 1 : Nat) : Int) - IntKind.i64.wrap ((p : Int) - (a : Int))) = ((b - 1 - (p - a) : Nat) : Int) := fun p h1 h3 => by
      rw [w64 (n := (p : Int) - a) (by omega) (by omega), w64 (n := ((b - 1 : Nat) : Int) - ((p : Int) - (a : Int))) (by omega) (by omega)]; omega
    refine mH fun kb hkb => ?_
    rw [aB]
    simp only [SkT.norm, e2, gq, reduceEq, reduceLT, reduceLE, implies_true, reduceCtorEq, if_true, if_false, go_sem, reduceEqDiff, Nat.reduceLT, reduceAdd, reduceSub, reduceLeDiff, reduceReplicate, reduceToNat]
    refine ⟨fun h12 => ?_, fun h12 => ⟨fun hz => ?_, fun hz => ?_⟩⟩
    · exact aRA A m v l1 T hTn n a b (by omega) g2 (by omega) hr _ fun l' p s => hK l' T (ExtT.refl hTn) (g4.trans (p.mono g1 g3)) (g6 l' p s)
    · exact aNd A m v l1 T hTn n a b (by omega) (by omega) (by omega) hr _ fun l' p s => hK l' T (ExtT.refl hTn) (g4.trans (p.mono g1 g3)) (g6 l' p s)
    have backb : ∀ (l6 : List RecT) (T6 : List AObj) (a' b' : Nat) (lim' : Int) (x y : Bool), ExtT T T6 → a ≤ a' → a' ≤ b' → b' ≤ b → b' - a' < b - a → SegP a b l1 l6 → PreS a' b' l6 → (∀ l7, SegP a' b' l6 l7 → SegS a' b' l7 → SegS a b l7) → kb (.int .i64 a') (.int .i64 b') (.int .i64 lim') (.bool x) (.bool y) (hpS A m v l6 T6) := by
      intro l6 T6 a' b' lim' x y x6 q1 q2 q3 q4 q5 q6 q7
      have hT6 := x6.1
      have hx6 := x6.2
      rw [hkb]
      simp only [hpS, hT6 _ _, hx6, hTn _ _, SkT.norm, h2, gq, reduceEq, reduceLT, reduceLE, implies_true, reduceCtorEq, if_true, if_false, go_sem, reduceEqDiff, Nat.reduceLT, reduceAdd, reduceSub, reduceLeDiff, reduceReplicate, reduceToNat]
      exact back (l6, a', b', lim', x, y) q4 rfl rfl ⟨by simp only; omega, q2, by simp only; omega, g4.trans (q5.mono g1 g3), q6, fun l7 p7 s7 => g6 l7 (q5.trans (p7.mono q1 q3)) (q7 l7 p7 s7)⟩
    clear hkb
    refine mH fun k3 hk3 => ?_
    have rest3 : ∀ (l2 : List RecT) (T2 : List AObj) (lim2 : Int), ExtT T T2 → SegP a b l1 l2 → k3 (.int .i64 lim2) (hpS A m v l2 T2) := by
      intro l2 T2 lim2 x2 p2
      have hT2 := x2.1
      rw [hk3]
      simp only [hpS, hT2 _ _, SkT.norm, gq, reduceEq, reduceLT, reduceLE, implies_true, reduceCtorEq, if_true, if_false, go_sem, reduceEqDiff, Nat.reduceLT, reduceAdd, reduceSub, reduceLeDiff, reduceReplicate, reduceToNat]
      refine aLb A m v l2 T2 hT2 n a b (by rw [p2.len]; omega) (by omega) (by omega) hr _ fun p e s hp1 hp2 he => ?_
      have x3 := x2.snoc .i64 s
      generalize T2 ++ [AObj.box (.int .i64 s)] = T3 at *
      have hT3 := x3.1
      simp only [hpS, hT3 _ _, SkT.norm, gq, reduceEq, reduceLT, reduceLE, implies_true, reduceCtorEq, if_true, if_false, go_sem, reduceEqDiff, Nat.reduceLT, reduceAdd, reduceSub, reduceLeDiff, reduceReplicate, reduceToNat]
      refine mH fun k4 hk4 => ?_
      have rest4 : ∀ (l3 : List RecT) (p : Nat) (e : Int), SegP a b l1 l3 → a ≤ p → p < b → k4 (.int .i64 p) (.int .i64 e) (hpS A m v l3 T3) := by
        intro l3 p e p3 hp1 hp2
        have hl3 := p3.len
        rw [hk4]
        cases t10 <;> cases t11 <;> simp only [hpS, hT3 _ _, SkT.norm, gq, reduceEq, reduceLT, reduceLE, implies_true, reduceCtorEq, if_true, if_false, go_sem, reduceEqDiff, Nat.reduceLT, reduceAdd, reduceSub, reduceLeDiff, reduceReplicate, reduceToNat]
        all_goals (rw [aB]; simp only [gq, reduceEq, reduceLT, reduceLE, implies_true, reduceCtorEq, if_true, if_false, go_sem, reduceEqDiff, Nat.reduceLT, reduceAdd, reduceSub, reduceLeDiff, reduceReplicate, reduceToNat])
        all_goals
          refine mH fun k7 hk7 => ?_
          have rest7 : ∀ l4, SegP a b l1 l4 → k7 (hpS A m v l4 T3) := by
            intro l4 p4
            have hl4 := p4.len
            rw [hk7]
            refine mH fun k8 hk8 => ?_
            have rest8 : ∀ x y, ((x = .bool true ∧ y = .bool false) ∨ (x = .bool false ∧ y = .und)) → k8 x y (hpS A m v l4 T3) := by
              rintro x y hxy
              rw [hk8]
              rcases hxy with ⟨rfl, rfl⟩ | ⟨rfl, rfl⟩ <;> simp only [hpS, hT3 _ _, SkT.norm, gq, reduceEq, reduceLT, reduceLE, implies_true, reduceCtorEq, if_true, if_false, go_sem, reduceEqDiff, Nat.reduceLT, reduceAdd, reduceSub, reduceLeDiff, reduceReplicate, reduceToNat]
              all_goals
                refine aGO A m v l4 T3 hT3 n a b p (by omega) (by omega) (by omega) hp1 hp2 hr _ fun l5 q al p5 hq1 hq2 hpt => ?_
                have hl5 := p5.len
                have P5 := p4.trans p5
                have f1 : IntKind.i64.wrap ((q : Int) - a) = ((q - a : Nat) : Int) := by rw [w64 (by omega) (by omega)]; omega
                have f2 : IntKind.i64.wrap ((b : Int) - q) = ((b - q : Nat) : Int) := by rw [w64 (by omega) (by omega)]; omega
                have hnd5 : (l5.map (·.key)).Nodup := ((g4.trans (P5.mono g1 g3)).1.map _).nodup_iff.2 hnd
                simp only [hpS, hT3 _ _, SkT.norm, f1, f2, eX (show q < 4611686018427387904 by omega), gq, reduceEq, reduceLT, reduceLE, implies_true, reduceCtorEq, if_true, if_false, go_sem, reduceEqDiff, Nat.reduceLT, reduceAdd, reduceSub, reduceLeDiff, reduceReplicate, reduceToNat]
                refine mH fun k9 hk9 => ?_
                have rest9 : ∀ (l6 : List RecT) (T6 : List AObj) (a' b' : Nat) (x : Bool), ExtT T T6 → a ≤ a' → a' ≤ b' → b' ≤ b → b' - a' < b - a → SegP a b l1 l6 → PreS a' b' l6 → (∀ l7, SegP a' b' l6 l7 → SegS a' b' l7 → SegS a b l7) → k9 (.int .i64 a') (.int .i64 b') (.bool x) (hpS A m v l6 T6) := fun l6 T6 a' b' x q0 q1 q2 q3 q4 q5 q6 q7 => by
                  rw [hk9]; exact backb l6 T6 a' b' lim2 x al q0 q1 q2 q3 q4 q5 q6 q7
                clear hk9
                rw [aB]
                refine ⟨fun hlt1 => ?_, fun hge => ?_⟩
                · refine ih l5 T3 hT3 a q lim2 (by omega) hq1 (by omega) (by omega) ((g5.keep P5).imp id fun h k k1 k2 => h k k1 (by omega)) hnd5 _ fun l6 T6 x6 p6 s6 => ?_
                  have hT6 := x6.1
                  have hl := hpt.left p6
                  simp only [hpS, hT6 _ _, SkT.norm, eX (show q < 4611686018427387904 by omega), gq, reduceEq, reduceLT, reduceLE, implies_true, reduceCtorEq, if_true, if_false, go_sem, reduceEqDiff, Nat.reduceLT, reduceAdd, reduceSub, reduceLeDiff, reduceReplicate, reduceToNat]
                  exact rest9 l6 T6 (q + 1) b _ (x3.trans x6) (by omega) (by omega) (Nat.le_refl _) (by omega) (P5.trans (p6.mono (Nat.le_refl _) (by omega))) (.inr fun k k1 k2 => hl.2 k (by omega) k2) fun l7 p7 s7 => (hl.right p7).sorted (s6.keep p7 (.inl (by omega))) s7
                · refine ih l5 T3 hT3 (q + 1) b lim2 (by omega) (by omega) (by omega) (by omega) (.inr fun k k1 k2 => hpt.2 k (by omega) k2) hnd5 _ fun l6 T6 x6 p6 s6 => ?_
                  have hT6 := x6.1
                  have hl := hpt.right p6
                  have P6 := P5.trans (p6.mono (by omega) (Nat.le_refl _))
                  simp only [hpS, hT6 _ _, SkT.norm, eX (show q < 4611686018427387904 by omega), gq, reduceEq, reduceLT, reduceLE, implies_true, reduceCtorEq, if_true, if_false, go_sem, reduceEqDiff, Nat.reduceLT, reduceAdd, reduceSub, reduceLeDiff, reduceReplicate, reduceToNat]
                  exact rest9 l6 T6 a q _ (x3.trans x6) (Nat.le_refl _) (by omega) (by omega) (by omega) P6 ((g5.keep P6).imp id fun h k k1 k2 => h k k1 (by omega)) fun l7 p7 s7 => (hl.left p7).sorted s7 (s6.keep p7 (.inr (by omega)))
            clear hk8
            rw [aB]
            by_cases ha0 : 0 < a
            · have hlt0 := hlt l4 p p4 hp1 hp2 ha0
              have da : decide ((0 : Int) < (a : Int)) = true := decide_eq_true (by omega)
              simp only [hpS, hT3 _ _, SkT.norm, da, hlt0, ea1 ha0, Int.toNat_natCast, bT.C, gX, gW, iE, gq, reduceEq, reduceLT, reduceLE, implies_true, reduceCtorEq, if_true, if_false, go_sem, reduceEqDiff, Nat.reduceLT, reduceAdd, reduceSub, reduceLeDiff, reduceReplicate, reduceToNat]
              refine ⟨⟨by omega, by omega⟩, by omega, ⟨by omega, by omega⟩, by omega, ?_⟩
              exact rest8 _ _ (.inl ⟨rfl, rfl⟩)
            · have da : decide ((0 : Int) < (a : Int)) = false := decide_eq_false (by omega)
              simp only [hpS, da, gq, reduceEq, reduceLT, reduceLE, implies_true, reduceCtorEq, if_true, if_false, go_sem, reduceEqDiff, Nat.reduceLT, reduceAdd, reduceSub, reduceLeDiff, reduceReplicate, reduceToNat]
              exact rest8 _ _ (.inr ⟨rfl, rfl⟩)
          clear hk7
          rw [aB]
          first
            | exact rest7 l3 p3
            | refine ⟨fun _ => aNc A m v l3 T3 hT3 n a b (by omega) (by omega) (by omega) (g5.keep p3) hr _ (fun l4 p4 s4 => ?_) fun l4 p4 => ?_, fun _ => rest7 l3 p3⟩
              · simp only [hpS, gq, reduceEq, reduceLT, reduceLE, implies_true, reduceCtorEq, if_true, if_false, go_sem, reduceEqDiff, Nat.reduceLT, reduceAdd, reduceSub, reduceLeDiff, reduceReplicate, reduceToNat]
                exact hK l4 T3 x3 (g4.trans ((p3.trans p4).mono g1 g3)) (g6 l4 (p3.trans p4) s4)
              · simp only [hpS, gq, reduceEq, reduceLT, reduceLE, implies_true, reduceCtorEq, if_true, if_false, go_sem, reduceEqDiff, Nat.reduceLT, reduceAdd, reduceSub, reduceLeDiff, reduceReplicate, reduceToNat]
                exact rest7 l4 (p3.trans p4)
      rw [aB]
      simp only [eb1 (by omega), ep1 p hp1 hp2, gq, reduceEq, reduceLT, reduceLE, implies_true, reduceCtorEq, if_true, if_false, go_sem, reduceEqDiff, Nat.reduceLT, reduceAdd, reduceSub, reduceLeDiff, reduceReplicate, reduceToNat]
      refine ⟨fun he2 => aKd A m v l2 T3 hT3 n a b (by rw [p2.len]; omega) (by omega) (by omega) hr _ fun l3 p3 => ?_, fun _ => rest4 l2 p e p2 hp1 hp2⟩
      simp only [hpS, hT3 _ _, SkT.norm, gq, reduceEq, reduceLT, reduceLE, implies_true, reduceCtorEq, if_true, if_false, go_sem, reduceEqDiff, Nat.reduceLT, reduceAdd, reduceSub, reduceLeDiff, reduceReplicate, reduceToNat]
      exact rest4 l3 (b - 1 - (p - a)) 1 (p2.trans p3) (by omega) (by omega)
    rw [aB]
    cases t10 with
    | false =>
      simp only [gq, reduceEq, reduceLT, reduceLE, implies_true, reduceCtorEq, if_true, if_false, go_sem, reduceEqDiff, Nat.reduceLT, reduceAdd, reduceSub, reduceLeDiff, reduceReplicate, reduceToNat]
      refine aMg A m v l1 T hTn n a b (by omega) (by omega) (by omega) (by omega) hr _ fun l2 y p2 => ?_
      have x2 := (ExtT.refl hTn).snoc .u64 y
      have hT2 := x2.1
      simp only [hpS, gq, reduceEq, reduceLT, reduceLE, implies_true, reduceCtorEq, if_true, if_false, go_sem, reduceEqDiff, Nat.reduceLT, reduceAdd, reduceSub, reduceLeDiff, reduceReplicate, reduceToNat]
      exact rest3 l2 _ _ x2 p2
    | true =>
      simp only [gq, reduceEq, reduceLT, reduceLE, implies_true, reduceCtorEq, if_true, if_false, go_sem, reduceEqDiff, Nat.reduceLT, reduceAdd, reduceSub, reduceLeDiff, reduceReplicate, reduceToNat]
      exact rest3 l1 T lim (ExtT.refl hTn) SegP.refl
def aY.K : Con := fun args h K => match args with
  | [a0, a1] => aY.H (ctx [(120, cV.C)] [(119, pdqD 256)] aY.loops) a0 a1 h K
  | _ => False
theorem aY.spec : dB Tryz.prog 108 aY.K := by
  refine dB.of (c := ctx [(120, cV.C)] [(119, pdqD 256)] aY.loops) (bU (by simpa using cV.spec) (by simpa using pdqD.spec 256) aY.loops) aY.at aY.nm aY.bd ?_
  intro args h K hC
  unfold aY.K at hC
  split at hC
  · rw [aY.eq]; exact hC
  · exact hC.elim
theorem aNg (A : SkT) (m : bF → Bool) (v : Nat) (l : List RecT) (n : Nat) (hn : n = l.length) (h255 : n < 256) (hnd : (l.map (·.key)).Nodup) (K : AOut → List AObj → Prop)
    (hK : ∀ l' T, l'.Perm l → SegS 0 n l' → K (.ret (.tup [])) (hpS A m v l' T)) :
    aY.K [.sref false 2 v 0 n, hitF] (hpS A m v l []) K := by
  have hr : roomy n := by unfold roomy; omega
  have e1 : IntKind.u64.wrap (n : Int) = n := zI (by omega) (by omega)
  unfold aY.K aY.H
  simp only [hpS, cV.C, e1, Int.toNat_natCast, aB, gq, reduceEq, reduceLT, reduceLE, implies_true, reduceCtorEq, if_true, if_false, go_sem, reduceEqDiff, Nat.reduceLT, reduceAdd, reduceSub, reduceLeDiff, reduceReplicate, reduceToNat]
  exact ⟨⟨by omega, by omega⟩, aLG A m v n hr h255 256 l [] OkT.nil 0 n _ hn (Nat.zero_le _) (Nat.le_refl _) (by omega) (.inl rfl) hnd _ fun l' T' _ s1 s2 => hK l' T' s1.1 s2⟩
end Lam
namespace Lam
open Go Go.Proofs
def rcT (x : Rc) : RecT := ⟨x.kind, x.key, x.val, x.child⟩
def hitS (w : List Int) (out : List RecT) (r : Int) : List RecT := match recO w r with
  | none => out
  | some x => if x.key ∈ out.map (·.key) then out else out ++ [rcT x]
def iF (w refs : List Int) : List RecT := refs.foldl (hitS w) []
theorem aLe (w : List Int) (out : List RecT) (r : Int) : (hitS w out r).length ≤ out.length + 1 := by
  unfold hitS
  split
  · omega
  · split
    · omega
    · simp
theorem aIK {w : List Int} {out : List RecT} {r : Int} (h : (out.map (·.key)).Nodup) : ((hitS w out r).map (·.key)).Nodup := by
  unfold hitS
  split
  · exact h
  · split
    · exact h
    · rename_i x _ hx
      rw [List.map_append, List.nodup_append]
      refine ⟨h, by simp, fun a ha b hb => ?_⟩
      simp only [List.map_cons, List.map_nil, List.mem_singleton] at hb
      subst hb
      rintro rfl
      exact hx ha
theorem uW {w : List Int} : ∀ {refs : List Int} {out : List RecT}, (out.map (·.key)).Nodup → ((refs.foldl (hitS w) out).map (·.key)).Nodup ∧ (refs.foldl (hitS w) out).length ≤ out.length + refs.length
  | [], out, h => ⟨h, by simp⟩
  | r :: refs, out, h => by
    obtain ⟨h1, h2⟩ := uW (refs := refs) (aIK (r := r) (w := w) h)
    have := aLe w out r
    exact ⟨h1, by simp only [List.foldl_cons, List.length_cons]; omega⟩
def insR (x : RecT) : List RecT → List RecT
  | [] => [x]
  | y :: l => if ltB x.key y.key = true then x :: y :: l else y :: insR x l
def rK (l : List RecT) : List RecT := l.foldr insR []
theorem aAd (x : RecT) : ∀ l : List RecT, (insR x l).Perm (x :: l)
  | [] => .refl _
  | y :: l => by
    unfold insR
    split
    · exact .refl _
    · exact ((aAd x l).cons y).trans (.swap x y l)
theorem tA : ∀ l : List RecT, (rK l).Perm l
  | [] => .refl _
  | x :: l => (aAd x _).trans ((tA l).cons x)
def ltR (x y : RecT) : Prop := ltB x.key y.key = true
theorem aCN {x : RecT} : ∀ {l : List RecT}, l.Pairwise ltR → (∀ y ∈ l, y.key ≠ x.key) → (insR x l).Pairwise ltR
  | [], _, _ => by simp [insR]
  | y :: l, h, hx => by
    rw [List.pairwise_cons] at h
    unfold insR
    split
    · rename_i hl
      rw [List.pairwise_cons]
      refine ⟨fun z hz => ?_, List.pairwise_cons.2 h⟩
      rcases List.mem_cons.1 hz with rfl | hz
      · exact hl
      · exact kA hl (h.1 z hz)
    · rename_i hl
      rw [List.pairwise_cons]
      refine ⟨fun z hz => ?_, aCN h.2 fun z hz => hx z (by simp [hz])⟩
      rcases List.mem_cons.1 ((aAd x l).mem_iff.1 hz) with rfl | hz
      · exact vI (by unfold leB; simpa using hl) (hx y (by simp))
      · exact h.1 z hz
theorem vJ : ∀ {l : List RecT}, (l.map (·.key)).Nodup → (rK l).Pairwise ltR
  | [], _ => List.Pairwise.nil
  | x :: l, h => by
    rw [List.map_cons, List.nodup_cons] at h
    refine aCN (vJ h.2) fun y hy he => h.1 ?_
    rw [← he]
    exact List.mem_map_of_mem (f := (·.key)) ((tA l).mem_iff.1 hy)
theorem aFQ : ∀ {l l' : List RecT}, l.Pairwise ltR → l'.Pairwise ltR → l.Perm l' → l = l'
  | [], l', _, _, p => p.nil_eq
  | x :: l, [], _, _, p => by have := p.length_eq; simp at this
  | x :: l, y :: l', h, h', p => by
    rw [List.pairwise_cons] at h h'
    have e : x = y := by
      rcases List.mem_cons.1 (p.mem_iff.1 (List.mem_cons_self (a := x))) with e | hx
      · exact e
      · rcases List.mem_cons.1 (p.mem_iff.2 (List.mem_cons_self (a := y))) with e | hy
        · exact e.symm
        · have := kA (h.1 y hy) (h'.1 x hx)
          rw [tY] at this; cases this
    subst e
    rw [aFQ h.2 h'.2 (List.Perm.cons_inv p)]
theorem aKg {l l' : List RecT} (hp : l'.Perm l) (hs : SegS 0 l.length l') (hn : (l.map (·.key)).Nodup) : l' = rK l := by
  refine aFQ ?_ (vJ hn) (hp.trans (tA l).symm)
  have hn' : (l'.map (·.key)).Nodup := (hp.map _).nodup_iff.2 hn
  rw [List.pairwise_iff_getElem]
  intro i j hi hj hij
  have h1 := hs i j (Nat.zero_le _) hij (by rw [← hp.length_eq]; exact hj)
  unfold kyL at h1
  rw [List.getD_eq_getElem?_getD, List.getD_eq_getElem?_getD, List.getElem?_eq_getElem hi, List.getElem?_eq_getElem hj] at h1
  refine vI h1 fun e => ?_
  have := List.pairwise_iff_getElem.1 hn' i j (by simpa using hi) (by simpa using hj) hij
  apply this
  simpa using e
def fB.C : aF
  | [.sl _ (.ints .i64 w), .agg [.int .i64 b, .int .i64 t, .int .i64 a, .sl _ (.ints .i64 l), .bool o]] => some (false, pD (roomy w.length ∧ l.length ≤ 200) (.sl false (.recs (rK (iF w l)))))
  | _ => none
theorem fB.spec : bJ Tryz.prog 89 fB.C := by
  refine bJ.of (bU (F := [(79, dY.C)]) (S := [(108, aY.K)]) (by simpa using dY.spec) (by simpa using aY.spec) fB.loops) fB.at fB.nm fB.bd ?_
  intro vs b S v news e hS
  unfold fB.C at e
  split at e
  rotate_left
  · cases e
  cases e
  rw [fB.eq]
  unfold fB.H
  simp (maxSteps := 4000000) only [go_sem, reduceEqDiff, Nat.reduceLT, reduceAdd, reduceSub, reduceLeDiff, reduceReplicate, reduceToNat, dY.C]
  rename_i _ w b t a x l o
  obtain ⟨hw, hl⟩ := hS
  rw [aB]
  unfold fB.L1
  refine aAu (σ := Nat) (fun k => .sref false 2 (iF w (l.take k)).length 0 (iF w (l.take k)).length) (fun k => .int .i64 k) (fun k => [.box (Sk.V ⟨b, t, a, l, o⟩), .map (.sb fun s => decide (s ∈ (iF w (l.take k)).map (·.key))), .row .own (iF w (l.take k)).length (.recs (iF w (l.take k)))]) (fun k => l.length - k) (fun k => k ≤ l.length) 0 rfl (by simp [iF, Sk.V]) (Nat.zero_le _) ?_
  intro I back k hk
  have hnext : k < l.length → iF w (l.take (k + 1)) = hitS w (iF w (l.take k)) (l.getD k 0) := fun h => by
    unfold iF; rw [iC l k 0 h, List.foldl_append]; rfl
  obtain ⟨hnd, hol⟩ := uW (w := w) (refs := l.take k) (out := []) (by simp)
  have hnd : ((iF w (l.take k)).map (·.key)).Nodup := hnd
  have hol : (iF w (l.take k)).length ≤ k := by
    have : (iF w (l.take k)).length ≤ 0 + (l.take k).length := hol
    rw [List.length_take] at this; omega
  by_cases hlt : k < l.length
  · have hb : ∀ (n : Nat) (lv : List AV) (h : List AObj), _ := fun n lv h => @back n lv h (k + 1)
    rw [hnext hlt] at hb
    clear back hnext
    generalize iF w (l.take k) = out at *
    cases hx : recO w (l.getD k 0) with
    | none =>
      obtain ⟨e, he, hr⟩ := aKf hx
      have hs : hitS w out (l.getD k 0) = out := by unfold hitS; rw [hx]
      rw [hs] at hb
      simp only [dY.C, hr, jZ, he, decide_false, aB, Sk.V, aB, gq, reduceEq, reduceLT, reduceLE, implies_true, reduceCtorEq, if_true, if_false, go_sem, reduceEqDiff, Nat.reduceLT, reduceAdd, reduceSub, reduceLeDiff, reduceReplicate, reduceToNat]
      exact ⟨fun _ => ⟨⟨by omega, by omega⟩, hw, hb _ _ _ (by omega) (by rw [eX (by omega)]) rfl (by omega)⟩, fun h => absurd h (by omega)⟩
    | some y =>
      obtain ⟨y1, y2, y3, y4⟩ := y
      by_cases hin : y2 ∈ out.map (·.key)
      · have hs : hitS w out (l.getD k 0) = out := by unfold hitS; rw [hx]; simp only [hin, if_true]
        rw [hs] at hb
        simp only [dY.C, aEg hx, hin, decide_true, aB, Sk.V, aB, gq, reduceEq, reduceLT, reduceLE, implies_true, reduceCtorEq, if_true, if_false, go_sem, reduceEqDiff, Nat.reduceLT, reduceAdd, reduceSub, reduceLeDiff, reduceReplicate, reduceToNat]
        exact ⟨fun _ => ⟨⟨by omega, by omega⟩, hw, hb _ _ _ (by omega) (by rw [eX (by omega)]) rfl (by omega)⟩, fun h => absurd h (by omega)⟩
      · have hs : hitS w out (l.getD k 0) = out ++ [⟨y1, y2, y3, y4⟩] := by unfold hitS; rw [hx]; simp only [hin, if_false]; rfl
        rw [hs] at hb
        have hmap : (fun j => if j = y2 then true else decide (j ∈ out.map (·.key))) = fun j => decide (j ∈ (out ++ [(⟨y1, y2, y3, y4⟩ : RecT)]).map (·.key)) := by
          funext j
          rw [List.map_append, show decide (j ∈ out.map (·.key) ++ [(⟨y1, y2, y3, y4⟩ : RecT)].map (·.key)) = decide (j ∈ out.map (·.key) ∨ j = y2) from decide_eq_decide.2 (by simp)]
          by_cases e : j = y2
          · simp [e]
          · simp [e]
        simp only [dY.C, aEg hx, hin, decide_false, aB, Sk.V, aB, gq, reduceEq, reduceLT, reduceLE, implies_true, reduceCtorEq, if_true, if_false, go_sem, reduceEqDiff, Nat.reduceLT, reduceAdd, reduceSub, reduceLeDiff, reduceReplicate, reduceToNat]
        have hl1 : (out ++ [(⟨y1, y2, y3, y4⟩ : RecT)]).length = out.length + 1 := by simp
        refine ⟨fun _ => ⟨⟨by omega, by omega⟩, hw, by rw [hl1]; unfold roomy; omega, hb _ _ _ (by omega) (by rw [eX (by omega), hl1]) (by rw [hmap, hl1]; rfl) (by omega)⟩, fun h => absurd h (by omega)⟩
  · obtain rfl : k = l.length := by omega
    rw [List.take_length] at hnd hol ⊢
    clear back hnext
    simp only [Sk.V, aB, gq, reduceEq, reduceLT, reduceLE, implies_true, reduceCtorEq, if_true, if_false, go_sem, reduceEqDiff, Nat.reduceLT, reduceAdd, reduceSub, reduceLeDiff, reduceReplicate, reduceToNat]
    refine ⟨fun h => absurd h (by omega), fun _ => ?_⟩
    refine aNg ⟨b, t, a, l, o⟩ _ _ (iF w l) _ rfl (by omega) hnd _ fun l' tl hp hs => ?_
    simp only [hpS, SkT.V, aB, gq, reduceEq, reduceLT, reduceLE, implies_true, reduceCtorEq, if_true, if_false, go_sem, reduceEqDiff, Nat.reduceLT, reduceAdd, reduceSub, reduceLeDiff, reduceReplicate, reduceToNat]
    have e := aKg hp hs hnd
    rw [← e]
    refine aJ ?_ rfl
    simp only [List.take_of_length_le (Nat.le_of_eq hp.length_eq), go_sem, reduceEqDiff, Nat.reduceLT, reduceAdd, reduceSub, reduceLeDiff, reduceReplicate, reduceToNat]
end Lam
namespace Lam
open Go Go.Proofs
end Lam
namespace Lam
open Go Go.Proofs
structure Rd where
  key : bF
  phase : Int
  block : Int
  to_ : Int
  seek : Sk
  val : bF
  found : Bool
def Rd.V (r : Rd) : AV := .agg [.str r.key, .int .i64 r.phase, .int .i64 r.block, .int .i64 r.to_, r.seek.V, .str r.val, .bool r.found]
def doM (m : Mm) (x : Mic) : Mm := if wQ m [x] = true then runS m [x] else m
theorem aMh (m : Mm) (x : Mic) : ∃ e, runV m [x] = .tup [(doM m x).V, .int .i64 e] := by
  unfold runV doM
  split
  · exact ⟨_, rfl⟩
  · exact ⟨_, rfl⟩
def mR (m : Mm) (block line : Int) : Mm := if 0 ≤ block ∧ block < 256 then doM m ⟨2, 2 * block + line, 0⟩ else m
def aAe (w : List Int) (b : Int) : Option (Int × bF) := match eO w b with
  | none => none
  | some n => if n.next = 0 then none else match (eO w n.next).bind (lowO w) with
    | none => none
    | some l => some (n.next, l)
def aEJ (w : List Int) : Int := if lG w = true then w.getD 3 0 else 1
theorem aKh (w : List Int) (b : Int) : ∃ (n1 n2 n3 n4 : Int) (n5 : List Int) (e : Int) (lo : bF) (e2 : Int), qL w b = .tup [.agg [.int .i64 n1, .int .i64 n2, .int .i64 n3, .int .i64 n4, .sl false (.ints .i64 n5)], .int .i64 e] ∧ lowV w n3 = .tup [.str lo, .int .i64 e2] ∧ aAe w b = if n3 ≠ 0 ∧ e2 = 0 then some (n3, lo) else none := by
  have hlow : ∀ x : Int, ∃ lo e2, lowV w x = .tup [.str lo, .int .i64 e2] ∧ (eO w x).bind (lowO w) = if e2 = 0 then some lo else none := fun x => by
    unfold lowV
    cases h : (eO w x).bind (lowO w) with
    | none => exact ⟨_, _, rfl, (if_neg (by decide)).symm⟩
    | some l => exact ⟨_, _, rfl, (if_pos rfl).symm⟩
  unfold aAe
  cases hn : eO w b with
  | none =>
    obtain ⟨e, _, hv⟩ := qM hn
    obtain ⟨lo, e2, hl, _⟩ := hlow 0
    exact ⟨0, 0, 0, 0, [], e, lo, e2, hv, hl, (if_neg (fun h => h.1 rfl)).symm⟩
  | some n =>
    obtain ⟨n1, n2, n3, n4, n5⟩ := n
    obtain ⟨lo, e2, hl, hb⟩ := hlow n3
    refine ⟨n1, n2, n3, n4, n5, 0, lo, e2, lU hn, hl, ?_⟩
    simp only
    by_cases h0 : n3 = 0
    · rw [if_pos h0, if_neg (fun h => h.1 h0)]
    · rw [if_neg h0, hb]
      by_cases h2 : e2 = 0
      · rw [if_pos h2, if_pos ⟨h0, h2⟩]
      · rw [if_neg h2, if_neg (fun h => h2 h.2)]
end Lam
namespace Lam
open Go Go.Proofs
def dV.loops : Nat → bX
 | 3 => ⟨[], [], [], [(3, none), (2, some [24, 26])], [], []⟩
 | _ => ⟨[], [], [], [], [], []⟩
def dV.H (c : Ctx) (t0 : AV) (t1 : AV) (t2 : AV) (t3 : AV) (h : List AObj) (K : AOut → List AObj → Prop) : Prop :=
 cK aG h fun t8 h =>
 runD (lenD bS h t1) h fun t15 h =>
 runD (lenD bS h t2) h fun t17 h =>
 runD (maxD t15 t17) h fun t18 h =>
 runD (binD aA .gtr t18 (.int .i64 21)) h fun t19 h =>
 aZ t19
 (runD (gC aG []) h fun t20 h =>
 runH (aQ aG h t8 t20) h fun _ h =>
 cL (fitD aG (aD h t8)) fun r0 => K (.ret (.tup [r0, (.int .i64 20)])) h)
 (runD (binD aA .lss t3 (.int .i64 1)) h fun t23 h =>
 aM (fun (J1 : AV → AV → List AObj → Prop) =>
 aX t23 false
 (runD (binD aA .gtr t3 (.int .i64 100)) h fun t26 h =>
 J1 (.bool false) t26 h)
 (J1 (.bool true) .und h))
 (fun t24 t26 h => runD (bP t24 (.bool true) t26) h fun t27 h =>
 aZ t27
 (runD (gC aG []) h fun t28 h =>
 runH (aQ aG h t8 t28) h fun _ h =>
 cL (fitD aG (aD h t8)) fun r0 => K (.ret (.tup [r0, (.int .i64 1)])) h)
 (bB false c (.fn (.func 38) [] []) [t0] h (fun t31 h =>
 runD (bM t31 0) h fun t32 h =>
 runD (bM t31 1) h fun t33 h =>
 runD (bM t31 2) h fun t34 h =>
 runD (binD dD .neq t34 (.int .i64 0)) h fun t36 h =>
 aM (fun (J2 : AV → List AObj → Prop) =>
 aZ t36
 (J2 (.int .i64 1) h)
 (J2 t33 h))
 (fun t11 h => runD (gC aG [(0, t1), (1, t2), (2, t3), (3, (.int .i64 1)), (4, t11), (7, t1)]) h fun t42 h =>
 runH (aQ aG h t8 t42) h fun _ h =>
 cL (fitD aG (aD h t8)) fun r0 => K (.ret (.tup [r0, (.int .i64 0)])) h))
 (fun v h => K (.pan v) h))))
def eS.loops : Nat → bX
 | 24 => ⟨[], [], [], [(4, none), (3, some [76, 79])], [], []⟩
 | _ => ⟨[], [], [], [], [], []⟩
def eS.H (c : Ctx) (t0 : AV) (t1 : AV) (h : List AObj) (K : AOut → List AObj → Prop) : Prop :=
 boxW aL t0 h fun t2 h =>
 boxW aG t1 h fun t3 h =>
 cK aL h fun t4 h =>
 cK aG h fun t5 h =>
 runD (aC aG t3 3) h fun t9 h =>
 runD (fitD aA (aD h t9)) h fun t10 h =>
 aM (fun (J1 : List AObj → Prop) =>
 aM (fun (J2 : AV → List AObj → Prop) =>
 runD (binD aA .eql t10 (.int .i64 1)) h fun t12 h =>
 aZ t12
 (runD (fitD aL (aD h t2)) h fun t24 h =>
 runD (aC aL t2 0) h fun t25 h =>
 runD (fitD aP (aD h t25)) h fun t26 h =>
 runD (fitD aG (aD h t3)) h fun t27 h =>
 bB false c.noS (.fn (.func 39) [] []) [t26, t27] h (fun t28 h =>
 runH (aQ aL h t4 t24) h fun _ h =>
 runH (aQ aG h t5 t28) h fun _ h =>
 cL (fitD aL (aD h t4)) fun r0 => cL (fitD aG (aD h t5)) fun r1 => K (.ret (.tup [r0, r1])) h)
 (fun _ _ => False))
 (runD (binD aA .eql t10 (.int .i64 2)) h fun t14 h =>
 aZ t14
 (runD (aC aL t2 0) h fun t30 h =>
 runD (fitD aP (aD h t30)) h fun t31 h =>
 runD (aC aG t3 4) h fun t32 h =>
 runD (fitD aA (aD h t32)) h fun t33 h =>
 bB false c (.fn (.func 40) [] []) [t31, t33] h (fun t34 h =>
 runD (bM t34 0) h fun t35 h =>
 runD (bM t34 1) h fun t36 h =>
 cK bW h fun t7 h =>
 runH (aQ bW h t7 t35) h fun _ h =>
 runD (aC aG t3 3) h fun t37 h =>
 runH (aQ aA h t37 (.int .i64 8)) h fun _ h =>
 runD (binD dD .eql t36 (.int .i64 0)) h fun t39 h =>
 aM (fun (J3 : List AObj → Prop) =>
 aZ t39
 (runD (fitD bW (aD h t7)) h fun t40 h =>
 runD (aC aG t3 6) h fun t41 h =>
 runH (aQ bW h t41 t40) h fun _ h =>
 runD (aC aG t3 3) h fun t42 h =>
 runH (aQ aA h t42 (.int .i64 3)) h fun _ h =>
 J3 h)
 (J3 h))
 (fun h => J1 h))
 (fun v h => K (.pan v) h))
 (runD (binD aA .eql t10 (.int .i64 3)) h fun t16 h =>
 aZ t16
 (runD (aC aL t2 0) h fun t43 h =>
 runD (fitD aP (aD h t43)) h fun t44 h =>
 runD (aC aG t3 6) h fun t45 h =>
 runD (fitD bW (aD h t45)) h fun t46 h =>
 bB false c (.fn (.func 41) [] []) [t44, t46] h (fun t47 h =>
 runD (aC aG t3 6) h fun t48 h =>
 runH (aQ bW h t48 t47) h fun _ h =>
 runD (aC aG t3 6) h fun t49 h =>
 runD (aC bW t49 4) h fun t50 h =>
 runD (fitD lT (aD h t50)) h fun t51 h =>
 aM (fun (J4 : List AObj → Prop) =>
 aZ t51
 (runD (aC aG t3 3) h fun t52 h =>
 runH (aQ aA h t52 (.int .i64 4)) h fun _ h =>
 J4 h)
 (J4 h))
 (fun h => J1 h))
 (fun v h => K (.pan v) h))
 (runD (binD aA .eql t10 (.int .i64 4)) h fun t18 h =>
 aZ t18
 (runD (fitD aL (aD h t2)) h fun t53 h =>
 runD (aC aL t2 0) h fun t54 h =>
 runD (fitD aP (aD h t54)) h fun t55 h =>
 runD (fitD aG (aD h t3)) h fun t56 h =>
 bB false c.noS (.fn (.func 42) [] []) [t55, t56] h (fun t57 h =>
 runH (aQ aL h t4 t53) h fun _ h =>
 runH (aQ aG h t5 t57) h fun _ h =>
 cL (fitD aL (aD h t4)) fun r0 => cL (fitD aG (aD h t5)) fun r1 => K (.ret (.tup [r0, r1])) h)
 (fun _ _ => False))
 (runD (binD aA .eql t10 (.int .i64 7)) h fun t20 h =>
 aZ t20
 (J2 (.int .i64 1) h)
 (runD (binD aA .eql t10 (.int .i64 5)) h fun t22 h =>
 aM (fun (J5 : AV → List AObj → Prop) =>
 aZ t22
 (J5 t22 h)
 (runD (binD aA .eql t10 (.int .i64 6)) h fun t23 h =>
 J5 t23 h))
 (fun t21 h => aZ t21
 (J2 (.int .i64 0) h)
 (J1 h))))))))
 (fun t6 h => runD (fitD aL (aD h t2)) h fun t58 h =>
 runD (aC aG t3 4) h fun t59 h =>
 runD (fitD aA (aD h t59)) h fun t60 h =>
 bB false c (.fn (.func 43) [] []) [t58, t60, t6] h (fun t62 h =>
 runH (aQ aL h t2 t62) h fun _ h =>
 runD (aC aG t3 3) h fun t68 h =>
 runD (fitD aA (aD h t68)) h fun t69 h =>
 runD (binD aA .eql t69 (.int .i64 6)) h fun t70 h =>
 aM (fun (J6 : List AObj → Prop) =>
 aZ t70
 (runD (aC aG t3 3) h fun t71 h =>
 runH (aQ aA h t71 (.int .i64 7)) h fun _ h =>
 J6 h)
 (runD (aC aG t3 3) h fun t73 h =>
 runD (fitD aA (aD h t73)) h fun t74 h =>
 runD (binD aA .eql t74 (.int .i64 7)) h fun t75 h =>
 aM (fun (J7 : AV → AV → List AObj → Prop) =>
 aX t75 true
 (runD (aC aG t3 5) h fun t77 h =>
 runD (fitD aA (aD h t77)) h fun t78 h =>
 runD (binD aA .eql t78 (.int .i64 0)) h fun t79 h =>
 J7 (.bool true) t79 h)
 (J7 (.bool false) .und h))
 (fun t76 t79 h => runD (bP t76 t79 (.bool false)) h fun t80 h =>
 aM (fun (J8 : List AObj → Prop) =>
 aZ t80
 (runD (aC aG t3 3) h fun t81 h =>
 runH (aQ aA h t81 (.int .i64 8)) h fun _ h =>
 J8 h)
 (runD (aC aG t3 5) h fun t63 h =>
 runD (fitD aA (aD h t63)) h fun t64 h =>
 runD (aC aG t3 4) h fun t65 h =>
 runH (aQ aA h t65 t64) h fun _ h =>
 runD (aC aG t3 3) h fun t66 h =>
 runH (aQ aA h t66 (.int .i64 2)) h fun _ h =>
 J8 h))
 (fun h => J6 h))))
 (fun h => J1 h))
 (fun v h => K (.pan v) h)))
 (fun h => runD (fitD aL (aD h t2)) h fun t82 h =>
 runD (fitD aG (aD h t3)) h fun t83 h =>
 runH (aQ aL h t4 t82) h fun _ h =>
 runH (aQ aG h t5 t83) h fun _ h =>
 sepB t4 [t3] = true ∧ cL (fitD aL (aD h t4)) fun r0 => cL (fitD aG (aD h t5)) fun r1 => K (.ret (.tup [r0, r1])) h)
def gI.loops : Nat → bX
 | 4 => ⟨[], [], [], [(3, none), (3, some [30, 33])], [], []⟩
 | 6 => ⟨[], [], [], [(3, none), (2, some [39, 41])], [], []⟩
 | _ => ⟨[], [], [], [], [], []⟩
def gI.H (c : Ctx) (t0 : AV) (t1 : AV) (h : List AObj) (K : AOut → List AObj → Prop) : Prop :=
 boxW aG t1 h fun t3 h =>
 cK aG h fun t4 h =>
 runD (aC aG t3 4) h fun t11 h =>
 runD (fitD aA (aD h t11)) h fun t12 h =>
 bB false c (.fn (.func 46) [] []) [t0, t12] h (fun t13 h =>
 runD (bM t13 0) h fun t14 h =>
 runD (bM t13 1) h fun t15 h =>
 cK bK h fun t5 h =>
 runH (aQ bK h t5 t14) h fun _ h =>
 runD (aC aG t3 4) h fun t18 h =>
 runD (fitD aA (aD h t18)) h fun t19 h =>
 runD (aC aG t3 7) h fun t20 h =>
 runD (fitD bS (aD h t20)) h fun t21 h =>
 bB false c (.fn (.func 49) [] []) [t0, t19, t21, (.int .i64 0)] h (fun t22 h =>
 runD (bM t22 0) h fun t23 h =>
 runD (bM t22 1) h fun t24 h =>
 runD (binD dD .eql t15 (.int .i64 0)) h fun t29 h =>
 aM (fun (J1 : AV → AV → List AObj → Prop) =>
 aX t29 true
 (runD (aC bK t5 0) h fun t31 h =>
 runD (fitD aA (aD h t31)) h fun t32 h =>
 runD (binD aA .eql t32 (.int .i64 0)) h fun t33 h =>
 J1 (.bool true) t33 h)
 (J1 (.bool false) .und h))
 (fun t30 t33 h => runD (bP t30 t33 (.bool false)) h fun t34 h =>
 aM (fun (J2 : List AObj → Prop) =>
 aZ t34
 (runD (aC aG t3 3) h fun t35 h =>
 runH (aQ aA h t35 (.int .i64 2)) h fun _ h =>
 J2 h)
 (runD (binD dD .neq t15 (.int .i64 0)) h fun t38 h =>
 aM (fun (J3 : AV → AV → List AObj → Prop) =>
 aX t38 false
 (runD (binD dD .neq t24 (.int .i64 0)) h fun t41 h =>
 J3 (.bool false) t41 h)
 (J3 (.bool true) .und h))
 (fun t39 t41 h => runD (bP t39 (.bool true) t41) h fun t42 h =>
 aM (fun (J4 : List AObj → Prop) =>
 aZ t42
 (runD (aC aG t3 4) h fun t43 h =>
 runH (aQ aA h t43 (.int .i64 1)) h fun _ h =>
 runD (aC aG t3 3) h fun t44 h =>
 runH (aQ aA h t44 (.int .i64 2)) h fun _ h =>
 J4 h)
 (runD (aC aG t3 4) h fun t26 h =>
 runH (aQ aA h t26 t23) h fun _ h =>
 J4 h))
 (fun h => J2 h))))
 (fun h => runD (fitD aG (aD h t3)) h fun t45 h =>
 runH (aQ aG h t4 t45) h fun _ h =>
 cL (fitD aG (aD h t4)) fun r0 => K (.ret r0) h)))
 (fun v h => K (.pan v) h))
 (fun v h => K (.pan v) h)
def fQ.loops : Nat → bX
 | 6 => ⟨[], [], [], [(4, none), (2, some [36, 38])], [], []⟩
 | 7 => ⟨[], [], [], [(2, none), (4, some [41, 45])], [], []⟩
 | 12 => ⟨[], [], [], [], [10], []⟩
 | 16 => ⟨[], [], [], [(2, none), (5, some [75, 80]), (2, none), (9, some [82, 91])], [], []⟩
 | _ => ⟨[], [], [], [], [], []⟩
def fQ.H (c : Ctx) (t0 : AV) (t1 : AV) (h : List AObj) (K : AOut → List AObj → Prop) : Prop :=
 boxW aG t1 h fun t3 h =>
 cK aG h fun t4 h =>
 runD (aC aG t3 6) h fun t13 h =>
 runD (fitD bW (aD h t13)) h fun t14 h =>
 bB false c (.fn (.func 71) [] []) [t0, t14] h (fun t15 h =>
 runD (unD .not t15) h fun t16 h =>
 aZ t16
 (runD (aC aG t3 3) h fun t17 h =>
 runH (aQ aA h t17 (.int .i64 2)) h fun _ h =>
 runD (fitD aG (aD h t3)) h fun t18 h =>
 runH (aQ aG h t4 t18) h fun _ h =>
 cL (fitD aG (aD h t4)) fun r0 => K (.ret r0) h)
 (runD (aC aG t3 4) h fun t21 h =>
 runD (fitD aA (aD h t21)) h fun t22 h =>
 bB false c (.fn (.func 46) [] []) [t0, t22] h (fun t23 h =>
 runD (bM t23 0) h fun t24 h =>
 runD (bM t23 1) h fun t25 h =>
 cK bK h fun t5 h =>
 runH (aQ bK h t5 t24) h fun _ h =>
 runD (aC bK t5 2) h fun t28 h =>
 runD (fitD aA (aD h t28)) h fun t29 h =>
 bB false c (.fn (.func 47) [] []) [t0, t29] h (fun t30 h =>
 runD (bM t30 0) h fun t31 h =>
 runD (bM t30 1) h fun t32 h =>
 runD (aC bK t5 2) h fun t33 h =>
 runD (fitD aA (aD h t33)) h fun t34 h =>
 runD (binD aA .neq t34 (.int .i64 0)) h fun t35 h =>
 aM (fun (J1 : AV → AV → List AObj → Prop) =>
 aX t35 true
 (runD (binD dD .eql t32 (.int .i64 0)) h fun t38 h =>
 J1 (.bool true) t38 h)
 (J1 (.bool false) .und h))
 (fun t36 t38 h => runD (bP t36 t38 (.bool false)) h fun t39 h =>
 aM (fun (J2 : AV → AV → List AObj → Prop) =>
 aX t39 true
 (runD (aC aG t3 7) h fun t43 h =>
 runD (fitD bS (aD h t43)) h fun t44 h =>
 runD (binD bS .leq t31 t44) h fun t45 h =>
 J2 (.bool true) t45 h)
 (J2 (.bool false) .und h))
 (fun t41 t45 h => runD (bP t41 t45 (.bool false)) h fun t46 h =>
 aZ t46
 (runD (aC bK t5 2) h fun t47 h =>
 runD (fitD aA (aD h t47)) h fun t48 h =>
 runD (aC aG t3 5) h fun t49 h =>
 runH (aQ aA h t49 t48) h fun _ h =>
 runD (aC aG t3 3) h fun t50 h =>
 runH (aQ aA h t50 (.int .i64 5)) h fun _ h =>
 runD (fitD aG (aD h t3)) h fun t51 h =>
 runH (aQ aG h t4 t51) h fun _ h =>
 cL (fitD aG (aD h t4)) fun r0 => K (.ret r0) h)
 (runD (aC aG t3 8) h fun t52 h =>
 runD (fitD bV (aD h t52)) h fun t53 h =>
 bB false c (.fn (.func 72) [] []) [t53] h (fun t54 h =>
 cK bV h fun t10 h =>
 runH (aQ bV h t10 t54) h fun _ h =>
 runD (fitD aG (aD h t3)) h fun t56 h =>
 bB false c (.fn (.func 73) [] []) [t0, t56, t31, t39] h (fun t59 h =>
 aM (fun (J3 : AV → AV → AV → AV → AV → AV → List AObj → Prop) =>
 vQ c.iterS t59 (boxH [t10] h)
 (fun id r args h K => lpIs h id .ready r ∧ aAi args fun t60 =>
 cK iL h fun t11 h =>
 runH (aQ iL h t11 t60) h fun _ h =>
 lpIs h id .ready r ∧
 runD (fitD bV (aD (List.set h id (.lp .busy none r)) t10)) (List.set h id (.lp .busy none r)) fun t61 h =>
 runD (lenD bV h t61) h fun t62 h =>
 runD (aC aG t3 2) h fun t63 h =>
 runD (fitD aA (aD h t63)) h fun t64 h =>
 runD (binD aA .geq t62 t64) h fun t65 h =>
 aZ t65
 (lpIs h id .busy r ∧ K (.ret (.bool false)) (List.set h id (.lp .done (some (.exit 0)) r)))
 (runD (fitD bV (aD h t10)) h fun t66 h =>
 runD (fitD iL (aD h t11)) h fun t67 h =>
 runD (fD bV 1 [(0, t67)] h.length) h fun t68 h =>
 jE (fT bV h t66 t68 h.length) (gJ bV h t66 t68) h fun t69 h =>
 runH (aQ bV h t10 t69) h fun _ h =>
 lpIs h id .busy r ∧ K (.ret (.bool true)) (List.set h id (.lp .ready none r))))
 (fun id r ao h => endX id r ao h
 (fun h => J3 t3 t4 t5 t31 t39 t10 h)
 (fun h => cL (fitD aG (aD h t4)) fun r0 => K (.ret r0) h)
 (fun i h => aEx i 0 (J3 t3 t4 t5 t31 t39 t10 h) (False))
 (fun l h => False)
 (fun v h => K (.pan v) h)))
 (fun t3 t4 t5 t7 t9 t10 h => runD (fitD bV (aD h t10)) h fun t70 h =>
 runD (aC aG t3 8) h fun t71 h =>
 runH (aQ bV h t71 t70) h fun _ h =>
 runD (aC aG t3 5) h fun t72 h =>
 runH (aQ aA h t72 (.int .i64 0)) h fun _ h =>
 runD (aC aG t3 3) h fun t73 h =>
 runH (aQ aA h t73 (.int .i64 6)) h fun _ h =>
 aM (fun (J4 : AV → AV → List AObj → Prop) =>
 aX t9 true
 (runD (fitD bV (aD h t10)) h fun t76 h =>
 runD (lenD bV h t76) h fun t77 h =>
 runD (aC aG t3 2) h fun t78 h =>
 runD (fitD aA (aD h t78)) h fun t79 h =>
 runD (binD aA .lss t77 t79) h fun t80 h =>
 J4 (.bool true) t80 h)
 (J4 (.bool false) .und h))
 (fun t75 t80 h => runD (bP t75 t80 (.bool false)) h fun t81 h =>
 aM (fun (J5 : AV → AV → List AObj → Prop) =>
 aX t81 true
 (runD (aC aG t3 1) h fun t83 h =>
 runD (fitD bS (aD h t83)) h fun t84 h =>
 runD (binD bS .eql t84 (.str [])) h fun t85 h =>
 aM (fun (J6 : AV → AV → List AObj → Prop) =>
 aX t85 false
 (runD (aC aG t3 1) h fun t88 h =>
 runD (fitD bS (aD h t88)) h fun t89 h =>
 runD (binD bS .lss t7 t89) h fun t90 h =>
 J6 (.bool false) t90 h)
 (J6 (.bool true) .und h))
 (fun t86 t90 h => runD (bP t86 (.bool true) t90) h fun t91 h =>
 J5 (.bool true) t91 h))
 (J5 (.bool false) .und h))
 (fun t82 t91 h => runD (bP t82 t91 (.bool false)) h fun t92 h =>
 aM (fun (J7 : List AObj → Prop) =>
 aZ t92
 (runD (aC bK t5 2) h fun t93 h =>
 runD (fitD aA (aD h t93)) h fun t94 h =>
 runD (aC aG t3 5) h fun t96 h =>
 runH (aQ aA h t96 t94) h fun _ h =>
 runD (aC aG t3 7) h fun t97 h =>
 runH (aQ bS h t97 t7) h fun _ h =>
 J7 h)
 (J7 h))
 (fun h => runD (fitD aG (aD h t3)) h fun t98 h =>
 runH (aQ aG h t4 t98) h fun _ h =>
 cL (fitD aG (aD h t4)) fun r0 => K (.ret r0) h)))))
 (fun v h => K (.pan v) h))
 (fun v h => K (.pan v) h)))))
 (fun v h => K (.pan v) h))
 (fun v h => K (.pan v) h)))
 (fun v h => K (.pan v) h)
def fC.loops : Nat → bX
 | 1 => ⟨[], [], [], [(3, none), (2, some [9, 11])], [], []⟩
 | _ => ⟨[], [], [], [], [], []⟩
def fC.H (c : Ctx) (t0 : AV) (t1 : AV) (t2 : AV) (h : List AObj) (K : AOut → List AObj → Prop) : Prop :=
 boxW aL t0 h fun t3 h =>
 cK aL h fun t6 h =>
 runD (binD aA .geq t1 (.int .i64 0)) h fun t8 h =>
 aM (fun (J1 : AV → AV → List AObj → Prop) =>
 aX t8 true
 (runD (binD aA .lss t1 (.int .i64 256)) h fun t11 h =>
 J1 (.bool true) t11 h)
 (J1 (.bool false) .und h))
 (fun t9 t11 h => runD (bP t9 t11 (.bool false)) h fun t12 h =>
 aM (fun (J2 : List AObj → Prop) =>
 aZ t12
 (runD (fitD aL (aD h t3)) h fun t14 h =>
 runD (binD aA .mul (.int .i64 2) t1) h fun t16 h =>
 runD (binD aA .add t16 t2) h fun t18 h =>
 runD (gC eT [(0, (.int .i64 2)), (1, t18)]) h fun t19 h =>
 bB false c (.fn (.func 74) [] []) [t14, t19] h (fun t20 h =>
 runD (bM t20 0) h fun t21 h =>
 runD (bM t20 1) h fun t22 h =>
 runH (aQ aL h t3 t21) h fun _ h =>
 J2 h)
 (fun v h => K (.pan v) h))
 (J2 h))
 (fun h => runD (fitD aL (aD h t3)) h fun t23 h =>
 runH (aQ aL h t6 t23) h fun _ h =>
 cL (fitD aL (aD h t6)) fun r0 => K (.ret r0) h))
def fS.loops : Nat → bX
 | _ => ⟨[], [], [], [], [], []⟩
def fS.H (c : Ctx) (t0 : AV) (t1 : AV) (t2 : AV) (t3 : AV) (h : List AObj) (K : AOut → List AObj → Prop) : Prop :=
 boxW aP t0 h fun t4 h =>
 boxW aG t1 h fun t5 h =>
 boxW bS t2 h fun t6 h =>
 boxW lT t3 h fun t7 h =>
 K (.ret (.fn (.func 95) [] [t4, t5, t7, t6])) h
def dK.loops : Nat → bX
 | 1 => ⟨[14], [false], [0, 2, 3, 4, 12, 13], [], [], []⟩
 | 4 => ⟨[], [], [], [(2, none), (10, some [27, 37]), (2, none), (8, some [39, 47]), (2, none), (8, some [49, 57])], [], []⟩
 | _ => ⟨[], [], [], [], [], []⟩
def dK.L1 (c : Ctx) (J1 : List AObj → Prop) (K : AOut → List AObj → Prop) (lv : List AV) (h0 : List AObj) (n0 : Nat) (c0 : AV) (c2 : AV) (c3 : AV) (c4 : AV) (c12 : AV) (c13 : AV) : Prop :=
 ∃ I : Nat → List AV → List AObj → Prop, (∃ n, I n lv h0) ∧ ∀ n h, ∀ t14, I n [t14] h →
 runD (binD aA .lss t14 c13) h fun t15 h =>
 aZ t15
 (runD (aH aS h c12 t14) h fun t16 h =>
 runD (fitD aK (aD h t16)) h fun t17 h =>
 cK aK h fun t7 h =>
 runH (aQ aK h t7 t17) h fun _ h =>
 runD (aC aK t7 1) h fun t18 h =>
 runD (fitD bS (aD h t18)) h fun t19 h =>
 runD (aC aG c2 0) h fun t20 h =>
 runD (fitD bS (aD h t20)) h fun t21 h =>
 runD (aC aG c2 7) h fun t22 h =>
 runD (fitD bS (aD h t22)) h fun t23 h =>
 runD (maxD t21 t23) h fun t24 h =>
 runD (binD bS .geq t19 t24) h fun t25 h =>
 aM (fun (J2 : AV → AV → List AObj → Prop) =>
 aX t25 true
 (runD (aC aG c2 1) h fun t28 h =>
 runD (fitD bS (aD h t28)) h fun t29 h =>
 runD (binD bS .eql t29 (.str [])) h fun t30 h =>
 aM (fun (J3 : AV → AV → List AObj → Prop) =>
 aX t30 false
 (runD (aC aK t7 1) h fun t32 h =>
 runD (fitD bS (aD h t32)) h fun t33 h =>
 runD (aC aG c2 1) h fun t34 h =>
 runD (fitD bS (aD h t34)) h fun t35 h =>
 runD (binD bS .lss t33 t35) h fun t36 h =>
 J3 (.bool false) t36 h)
 (J3 (.bool true) .und h))
 (fun t31 t36 h => runD (bP t31 (.bool true) t36) h fun t37 h =>
 J2 (.bool true) t37 h))
 (J2 (.bool false) .und h))
 (fun t27 t37 h => runD (bP t27 t37 (.bool false)) h fun t38 h =>
 aM (fun (J4 : AV → AV → List AObj → Prop) =>
 aX t38 true
 (runD (fitD lT (aD h c3)) h fun t40 h =>
 runD (unD .not t40) h fun t41 h =>
 aM (fun (J5 : AV → AV → List AObj → Prop) =>
 aX t41 false
 (runD (aC aK t7 1) h fun t43 h =>
 runD (fitD bS (aD h t43)) h fun t44 h =>
 runD (fitD bS (aD h c4)) h fun t45 h =>
 runD (binD bS .lss t44 t45) h fun t46 h =>
 J5 (.bool false) t46 h)
 (J5 (.bool true) .und h))
 (fun t42 t46 h => runD (bP t42 (.bool true) t46) h fun t47 h =>
 J4 (.bool true) t47 h))
 (J4 (.bool false) .und h))
 (fun t39 t47 h => runD (bP t39 t47 (.bool false)) h fun t48 h =>
 aM (fun (J6 : AV → AV → List AObj → Prop) =>
 aX t48 true
 (runD (aC aK t7 1) h fun t51 h =>
 runD (fitD bS (aD h t51)) h fun t52 h =>
 runD (aC aK t7 2) h fun t53 h =>
 runD (fitD bS (aD h t53)) h fun t54 h =>
 runD (gC iL [(0, t52), (1, t54)]) h fun t55 h =>
 bB false c c0 [t55] h (fun t56 h =>
 runD (unD .not t56) h fun t57 h =>
 J6 (.bool true) t57 h)
 (fun v h => K (.pan v) h))
 (J6 (.bool false) .und h))
 (fun t49 t57 h => runD (bP t49 t57 (.bool false)) h fun t58 h =>
 aZ t58
 (K (.ret (.tup [])) h)
 (runD (binD aA .add t14 (.int .i64 1)) h fun t59 h =>
 (∃ m, m < n ∧ I m (AV.norms n0 h [t59]) (cG n0 h)) ∧ AV.norms n0 h [c0, c2, c3, c4, c12, c13] = [c0, c2, c3, c4, c12, c13])))))
 (J1 h)
def dK.H (c : Ctx) (t0 : AV) (t1 : AV) (t2 : AV) (t3 : AV) (t4 : AV) (h : List AObj) (K : AOut → List AObj → Prop) : Prop :=
 runD (fitD aP (aD h t1)) h fun t9 h =>
 runD (aC aG t2 6) h fun t10 h =>
 runD (fitD bW (aD h t10)) h fun t11 h =>
 bB false c (.fn (.func 89) [] []) [t9, t11] h (fun t12 h =>
 runD (lenD aS h t12) h fun t13 h =>
 aM (fun (J1 : List AObj → Prop) =>
 dE [false] [(.int .i64 0)] h fun lv h => dK.L1 c J1 K (AV.norms h.length h lv) (cG h.length h) h.length (AV.norm h.length h t0) (AV.norm h.length h t2) (AV.norm h.length h t3) (AV.norm h.length h t4) (AV.norm h.length h t12) (AV.norm h.length h t13))
 (fun h => K (.ret (.tup [])) h))
 (fun v h => K (.pan v) h)
theorem dV.eq (F : List (FuncId × aF)) (S : List (FuncId × Con)) (t0 t1 t2 t3 : AV) (h : List AObj) (K : AOut → List AObj → Prop) : funW (ctx F S dV.loops) Tryz.f18 [t0, t1, t2, t3] h K = dV.H (ctx F S dV.loops) t0 t1 t2 t3 h K := by kernel_rfl
theorem eS.eq (F : List (FuncId × aF)) (S : List (FuncId × Con)) (t0 t1 : AV) (h : List AObj) (K : AOut → List AObj → Prop) : funW (ctx F S eS.loops) Tryz.f19 [t0, t1] h K = eS.H (ctx F S eS.loops) t0 t1 h K := by kernel_rfl
theorem gI.eq (F : List (FuncId × aF)) (S : List (FuncId × Con)) (t0 t1 : AV) (h : List AObj) (K : AOut → List AObj → Prop) : funW (ctx F S gI.loops) Tryz.f39 [t0, t1] h K = gI.H (ctx F S gI.loops) t0 t1 h K := by kernel_rfl
theorem fQ.eq (F : List (FuncId × aF)) (S : List (FuncId × Con)) (Is : List (FuncId × (Con → Con))) (t0 t1 : AV) (h : List AObj) (K : AOut → List AObj → Prop) : funW (ctxI F S Is fQ.loops) Tryz.f42 [t0, t1] h K = fQ.H (ctxI F S Is fQ.loops) t0 t1 h K := by kernel_rfl
theorem fC.eq (F : List (FuncId × aF)) (S : List (FuncId × Con)) (t0 t1 t2 : AV) (h : List AObj) (K : AOut → List AObj → Prop) : funW (ctx F S fC.loops) Tryz.f43 [t0, t1, t2] h K = fC.H (ctx F S fC.loops) t0 t1 t2 h K := by kernel_rfl
theorem fS.eq (F : List (FuncId × aF)) (S : List (FuncId × Con)) (t0 t1 t2 t3 : AV) (h : List AObj) (K : AOut → List AObj → Prop) : funW (ctx F S fS.loops) Tryz.f73 [t0, t1, t2, t3] h K = fS.H (ctx F S fS.loops) t0 t1 t2 t3 h K := by kernel_rfl
theorem dK.eq (F : List (FuncId × aF)) (S : List (FuncId × Con)) (l : Nat) (Y : Con) (t0 t1 t2 t3 t4 : AV) (h : List AObj) (K : AOut → List AObj → Prop) : funW ((ctx F S dK.loops).withY l Y) Tryz.f95 [t0, t1, t2, t3, t4] h K = dK.H ((ctx F S dK.loops).withY l Y) t0 t1 t2 t3 t4 h K := by kernel_rfl
theorem dV.at : Tryz.prog.funcs[18]? = some Tryz.f18 := by kernel_rfl
theorem dV.nm : (Tryz.f18.name == "runtime.NumGoroutine") = false := by kernel_rfl
theorem dV.bd : Tryz.f18.body.isNone = false := by kernel_rfl
theorem eS.at : Tryz.prog.funcs[19]? = some Tryz.f19 := by kernel_rfl
theorem eS.nm : (Tryz.f19.name == "runtime.NumGoroutine") = false := by kernel_rfl
theorem eS.bd : Tryz.f19.body.isNone = false := by kernel_rfl
theorem gI.at : Tryz.prog.funcs[39]? = some Tryz.f39 := by kernel_rfl
theorem gI.nm : (Tryz.f39.name == "runtime.NumGoroutine") = false := by kernel_rfl
theorem gI.bd : Tryz.f39.body.isNone = false := by kernel_rfl
theorem fQ.at : Tryz.prog.funcs[42]? = some Tryz.f42 := by kernel_rfl
theorem fQ.nm : (Tryz.f42.name == "runtime.NumGoroutine") = false := by kernel_rfl
theorem fQ.bd : Tryz.f42.body.isNone = false := by kernel_rfl
theorem fC.at : Tryz.prog.funcs[43]? = some Tryz.f43 := by kernel_rfl
theorem fC.nm : (Tryz.f43.name == "runtime.NumGoroutine") = false := by kernel_rfl
theorem fC.bd : Tryz.f43.body.isNone = false := by kernel_rfl
theorem fS.at : Tryz.prog.funcs[73]? = some Tryz.f73 := by kernel_rfl
theorem fS.nm : (Tryz.f73.name == "runtime.NumGoroutine") = false := by kernel_rfl
theorem fS.bd : Tryz.f73.body.isNone = false := by kernel_rfl
theorem dK.at : Tryz.prog.funcs[95]? = some Tryz.f95 := by kernel_rfl
theorem dK.nm : (Tryz.f95.name == "runtime.NumGoroutine") = false := by kernel_rfl
theorem dK.bd : Tryz.f95.body.isNone = false := by kernel_rfl
end Lam
namespace Lam
open Go Go.Proofs
structure Sc where
  lo : bF
  hi : bF
  limit : Int
  phase : Int
  block : Int
  to_ : Int
  seek : Sk
  from_ : bF
  out : List kZ
def Sc.V (s : Sc) : AV := .agg [.str s.lo, .str s.hi, .int .i64 s.limit, .int .i64 s.phase, .int .i64 s.block, .int .i64 s.to_, s.seek.V, .str s.from_, .sl false (.pairs s.out)]
def scZ : Sc := ⟨[], [], 0, 0, 0, 0, skZ, [], []⟩
def sc0 (w : List Int) (lo hi : bF) (limit : Int) : Sc := ⟨lo, hi, limit, 1, aEJ w, 0, skZ, lo, []⟩
def jV (w : List Int) (lo hi : bF) (limit : Int) : AV := if 21 < lo.length ∨ 21 < hi.length then .tup [scZ.V, .int .i64 20] else if limit < 1 ∨ 100 < limit then .tup [scZ.V, .int .i64 1] else .tup [(sc0 w lo hi limit).V, .int .i64 0]
def dV.C : aF
  | [.sl _ (.ints .i64 w), .str lo, .str hi, .int .i64 limit] => some (false, pD (roomy w.length) (jV w lo hi limit))
  | _ => none
theorem dV.spec : bJ Tryz.prog 18 dV.C := by
  refine bJ.of (bU (F := [(38, eM.C)]) (S := []) (by simpa using eM.spec) (by simp) dV.loops) dV.at dV.nm dV.bd ?_
  intro vs b S v news e hS
  unfold dV.C at e
  split at e
  rotate_left
  · cases e
  cases e
  rw [dV.eq]
  unfold dV.H
  simp (maxSteps := 4000000) only [go_sem, reduceEqDiff, Nat.reduceLT, reduceAdd, reduceSub, reduceLeDiff, reduceReplicate, reduceToNat, eM.C]
  rename_i w lo hi limit
  unfold jV
  have hz : roomy ([] : List kZ).length := by unfold roomy; decide
  refine ⟨fun h => ?_, fun h => ⟨fun h2 => ?_, fun h2 => ?_⟩⟩
  · rw [if_pos (by split at h <;> omega)]
    exact aJ rfl rfl
  · rw [if_neg (by split at h <;> omega)]
    simp only [Bool.or_eq_true, decide_eq_true_eq] at h2
    rw [if_pos h2]
    exact aJ rfl rfl
  · rw [if_neg (by split at h <;> omega)]
    simp only [Bool.or_eq_false_iff, decide_eq_false_iff_not] at h2
    rw [if_neg (by omega)]
    refine ⟨hS, ?_⟩
    unfold sc0 aEJ
    cases hb : lG w with
    | true =>
      have hv : oR w = .tup [.int .i64 (w.getD 1 0), .int .i64 (w.getD 3 0), .int .i64 0] := by unfold oR; rw [hb]; rfl
      simp only [hv, Sc.V, Sk.V, skZ, if_true, decide_true, decide_false, aB, aB, gq, reduceEq, reduceLT, reduceLE, implies_true, reduceCtorEq, if_true, if_false, go_sem, reduceEqDiff, Nat.reduceLT, reduceAdd, reduceSub, reduceLeDiff, reduceReplicate, reduceToNat]
      exact aJ rfl rfl
    | false =>
      have hv : oR w = .tup [.int .i64 0, .int .i64 0, .int .i64 80] := by unfold oR; rw [hb]; rfl
      simp only [hv, Sc.V, Sk.V, skZ, if_false, decide_true, decide_false, aB, aB, gq, reduceEq, reduceLT, reduceLE, implies_true, reduceCtorEq, if_true, if_false, go_sem, reduceEqDiff, Nat.reduceLT, reduceAdd, reduceSub, reduceLeDiff, reduceReplicate, reduceToNat]
      exact aJ rfl rfl
def fC.C : aF
  | [.agg [.sl false (.ints .i64 vol), .sl false (.ints .i64 per), .sl false (.pends pend)], .int .i64 block, .int .i64 line] => some (false, pD (kY vol per pend ∧ pend.length + 1 ≤ 1000000 ∧ 0 ≤ line ∧ line ≤ 1) (mR ⟨vol, per, pend⟩ block line).V)
  | _ => none
theorem fC.spec : bJ Tryz.prog 43 fC.C := by
  refine bJ.of (bU (F := [(74, gO.C)]) (S := []) (by simpa using gO.spec) (by simp) fC.loops) fC.at fC.nm fC.bd ?_
  intro vs b S v news e hS
  unfold fC.C at e
  split at e
  rotate_left
  · cases e
  cases e
  rw [fC.eq]
  unfold fC.H
  simp (maxSteps := 4000000) only [go_sem, reduceEqDiff, Nat.reduceLT, reduceAdd, reduceSub, reduceLeDiff, reduceReplicate, reduceToNat, gO.C]
  rename_i vol per pend block line
  obtain ⟨hsm, hpe, h0, h1⟩ := hS
  unfold mR
  by_cases hb : 0 ≤ block ∧ block < 256
  · rw [if_pos hb]
    have e1 : IntKind.i64.wrap (2 * block) = 2 * block := w64 (by omega) (by omega)
    have e2 : IntKind.i64.wrap (2 * block + line) = 2 * block + line := w64 (by omega) (by omega)
    have d1 : decide (0 ≤ block) = true := decide_eq_true hb.1
    have d2 : decide (block < 256) = true := decide_eq_true hb.2
    obtain ⟨e, he⟩ := aMh ⟨vol, per, pend⟩ ⟨2, 2 * block + line, 0⟩
    generalize doM ⟨vol, per, pend⟩ ⟨2, 2 * block + line, 0⟩ = m' at *
    obtain ⟨vol', per', pend'⟩ := m'
    simp only [Mm.V, memV, d1, d2, e1, e2, he, gO.C, aB, aB, gq, reduceEq, reduceLT, reduceLE, implies_true, reduceCtorEq, if_true, if_false, go_sem, reduceEqDiff, Nat.reduceLT, reduceAdd, reduceSub, reduceLeDiff, reduceReplicate, reduceToNat]
    exact ⟨⟨hsm, by omega⟩, aJ rfl rfl⟩
  · rw [if_neg hb]
    by_cases hb0 : 0 ≤ block
    · have d1 : decide (0 ≤ block) = true := decide_eq_true hb0
      have d2 : decide (block < 256) = false := decide_eq_false (by omega)
      simp only [Mm.V, memV, d1, d2, aB, aB, gq, reduceEq, reduceLT, reduceLE, implies_true, reduceCtorEq, if_true, if_false, go_sem, reduceEqDiff, Nat.reduceLT, reduceAdd, reduceSub, reduceLeDiff, reduceReplicate, reduceToNat]
      exact aJ rfl rfl
    · have d1 : decide (0 ≤ block) = false := decide_eq_false hb0
      simp only [Mm.V, memV, d1, aB, aB, gq, reduceEq, reduceLT, reduceLE, implies_true, reduceCtorEq, if_true, if_false, go_sem, reduceEqDiff, Nat.reduceLT, reduceAdd, reduceSub, reduceLeDiff, reduceReplicate, reduceToNat]
      exact aJ rfl rfl
def rL (w : List Int) (s : Sc) : Sc := match eO w s.block with
  | none => { s with block := 1, phase := 2 }
  | some n => if n.level = 0 then { s with phase := 2 } else match oB w s.block s.from_ 0 with
    | none => { s with block := 1, phase := 2 }
    | some t => { s with block := t }
def gI.C : aF
  | [.sl _ (.ints .i64 w), .agg [.str lo, .str hi, .int .i64 limit, .int .i64 phase, .int .i64 block, .int .i64 to_, .agg [.int .i64 sb, .int .i64 st, .int .i64 sa, .sl false (.ints .i64 sr), .bool so], .str from_, .sl false (.pairs out)]] => some (false, pD (jO w) (rL w ⟨lo, hi, limit, phase, block, to_, ⟨sb, st, sa, sr, so⟩, from_, out⟩).V)
  | _ => none
theorem gI.spec : bJ Tryz.prog 39 gI.C := by
  refine bJ.of (bU (F := [(46, cS.C), (49, eC.C)]) (S := []) (by simpa using ⟨cS.spec, eC.spec⟩) (by simp) gI.loops) gI.at gI.nm gI.bd ?_
  intro vs b S v news e hS
  unfold gI.C at e
  split at e
  rotate_left
  · cases e
  cases e
  rw [gI.eq]
  unfold gI.H
  simp (maxSteps := 4000000) only [go_sem, reduceEqDiff, Nat.reduceLT, reduceAdd, reduceSub, reduceLeDiff, reduceReplicate, reduceToNat, cS.C, eC.C]
  rename_i w lo hi limit phase block to_ sb st sa sr so from_ out
  have hr := jO.roomy hS
  unfold rL
  simp only
  cases hn : eO w block with
  | none =>
    obtain ⟨e, he, hv⟩ := qM hn
    have hd : oD w block from_ 0 = .tup [.int .i64 0, .int .i64 90] := by unfold oD oB; rw [hn]
    simp only [eC.C, Sc.V, Sk.V, iT, hv, he, hd, decide_false, decide_true, aB, aB, gq, reduceEq, reduceLT, reduceLE, implies_true, reduceCtorEq, if_true, if_false, go_sem, reduceEqDiff, Nat.reduceLT, reduceAdd, reduceSub, reduceLeDiff, reduceReplicate, reduceToNat]
    exact ⟨hr, hS, aJ rfl rfl⟩
  | some n =>
    obtain ⟨n1, n2, n3, n4, n5⟩ := n
    by_cases h0 : n1 = 0
    · obtain ⟨t, e, hd⟩ : ∃ t e, oD w block from_ 0 = .tup [.int .i64 t, .int .i64 e] := by
        unfold oD
        cases oB w block from_ 0 with
        | none => exact ⟨_, _, rfl⟩
        | some t => exact ⟨_, _, rfl⟩
      simp only [eC.C, Sc.V, Sk.V, Nd.V, lU hn, h0, hd, decide_false, decide_true, aB, aB, gq, reduceEq, reduceLT, reduceLE, implies_true, reduceCtorEq, if_true, if_false, go_sem, reduceEqDiff, Nat.reduceLT, reduceAdd, reduceSub, reduceLeDiff, reduceReplicate, reduceToNat]
      exact ⟨hr, hS, aJ rfl rfl⟩
    · cases hd : oB w block from_ 0 with
      | none =>
        have hdv : oD w block from_ 0 = .tup [.int .i64 0, .int .i64 90] := by unfold oD; rw [hd]
        simp only [eC.C, Sc.V, Sk.V, Nd.V, lU hn, h0, hdv, decide_false, decide_true, aB, aB, gq, reduceEq, reduceLT, reduceLE, implies_true, reduceCtorEq, if_true, if_false, go_sem, reduceEqDiff, Nat.reduceLT, reduceAdd, reduceSub, reduceLeDiff, reduceReplicate, reduceToNat]
        exact ⟨hr, hS, aJ rfl rfl⟩
      | some t =>
        have hdv : oD w block from_ 0 = .tup [.int .i64 t, .int .i64 0] := by unfold oD; rw [hd]
        simp only [eC.C, Sc.V, Sk.V, Nd.V, lU hn, h0, hdv, decide_false, decide_true, aB, aB, gq, reduceEq, reduceLT, reduceLE, implies_true, reduceCtorEq, if_true, if_false, go_sem, reduceEqDiff, Nat.reduceLT, reduceAdd, reduceSub, reduceLeDiff, reduceReplicate, reduceToNat]
        exact ⟨hr, hS, aJ rfl rfl⟩
end Lam
namespace Lam
open Go Go.Proofs
def dK.I : Con → Con := fun Y args h K => match args with
  | [.fn (.yield l) [] [], a0, a1, a2, a3] => dK.H ((ctx [(89, fB.C)] [] dK.loops).withY l Y) (.fn (.yield l) [] []) a0 a1 a2 a3 h K
  | _ => False
theorem dK.spec : rI Tryz.prog 95 dK.I := by
  refine rI.of (bU (F := [(89, fB.C)]) (S := []) (by simpa using fB.spec) (by simp) dK.loops).toOkI dK.at dK.nm dK.bd ?_
  intro Yc l cap h K hC
  unfold dK.I at hC
  split at hC
  · rename_i e
    simp only [List.cons.injEq, AV.fn.injEq, Fn.yield.injEq, and_true, true_and] at e
    obtain ⟨rfl, rfl⟩ := e
    rw [dK.eq]; exact hC
  · exact hC.elim
def fS.K : Con := fun args h K => match args with
  | [a0, a1, a2, a3] => fS.H (ctx [] [] fS.loops) a0 a1 a2 a3 h K
  | _ => False
theorem fS.spec : dB Tryz.prog 73 fS.K := by
  refine dB.of (bU (F := []) (S := []) (by simp) (by simp) fS.loops) fS.at fS.nm fS.bd ?_
  intro args h K hC
  unfold fS.K at hC
  split at hC
  · rw [fS.eq]; exact hC
  · exact hC.elim
def bL.C : aF
  | [.sl _ (.pairs l)] => some (true, some (roomy l.length, .sref false 0 0 0 l.length, [.row .own 0 (.pairs l)]))
  | _ => none
theorem bL.spec : bJ Tryz.prog 72 bL.C := by
  refine bJ.of (bU (F := []) (S := []) (by simp) (by simp) bL.loops) bL.at bL.nm bL.bd ?_
  intro vs b S v news e hS
  unfold bL.C at e
  split at e
  rotate_left
  · cases e
  cases e
  rw [bL.eq]
  unfold bL.H
  simp (maxSteps := 4000000) only [go_sem, reduceEqDiff, Nat.reduceLT, reduceAdd, reduceSub, reduceLeDiff, reduceReplicate, reduceToNat]
  rename_i l
  intro b hb
  refine ⟨fun h => ?_, fun h => ⟨hS, aBt rfl (by simp)⟩⟩
  have : l = [] := List.eq_nil_of_length_eq_zero (hb h)
  subst this
  exact aBu rfl
def sIn (s : Sc) (high : bF) (bound : Bool) (x : RecT) : Bool := !ltB x.key (if ltB s.lo s.from_ = true then s.from_ else s.lo) && (decide (s.hi = []) || ltB x.key s.hi) && (!bound || ltB x.key high)
def jW (x : RecT) : kZ := ⟨x.key, x.val⟩
def sOut (w : List Int) (s : Sc) (high : bF) (bound : Bool) : List kZ := s.out ++ (((rK (iF w s.seek.refs)).filter (sIn s high bound)).map jW).take (s.limit - s.out.length).toNat
def nU (w : List Int) (s : Sc) (bnd : Bool) (high : bF) (to : Int) : Sc := if (bnd && decide (((sOut w s high bnd).length : Int) < s.limit) && (decide (s.hi = []) || ltB high s.hi)) = true then { s with out := sOut w s high bnd, to_ := to, phase := 6, from_ := high } else { s with out := sOut w s high bnd, to_ := 0, phase := 6 }
def mE (w : List Int) (s : Sc) : Sc := if wU w s.seek.block s.seek.turn = false then { s with phase := 2 } else match aAe w s.block with
  | none => nU w s false [] 0
  | some (to, high) => if ltB s.from_ high = false then { s with to_ := to, phase := 5 } else nU w s true high to
def fQ.C : aF
  | [.sl _ (.ints .i64 w), .agg [.str lo, .str hi, .int .i64 limit, .int .i64 phase, .int .i64 block, .int .i64 to_, .agg [.int .i64 sb, .int .i64 st, .int .i64 sa, .sl false (.ints .i64 sr), .bool so], .str from_, .sl false (.pairs out)]] => some (false, pD (jO w ∧ sr.length ≤ 200 ∧ out.length ≤ 1000) (mE w ⟨lo, hi, limit, phase, block, to_, ⟨sb, st, sa, sr, so⟩, from_, out⟩).V)
  | _ => none
theorem fQ.spec : bJ Tryz.prog 42 fQ.C := by
  refine bJ.of (aDl (F := [(71, fP.C), (46, cS.C), (47, fA.C), (72, bL.C)]) (S := [(73, fS.K)]) (Is := [(95, dK.I)]) (by simpa using ⟨fP.spec, cS.spec, fA.spec, bL.spec⟩) (by simpa using fS.spec) (by simpa using dK.spec) fQ.loops) fQ.at fQ.nm fQ.bd ?_
  intro vs b S v news e hS
  unfold fQ.C at e
  split at e
  rotate_left
  · cases e
  cases e
  rw [fQ.eq]
  unfold fQ.H
  simp (maxSteps := 4000000) only [go_sem, reduceEqDiff, Nat.reduceLT, reduceAdd, reduceSub, reduceLeDiff, reduceReplicate, reduceToNat, fP.C, cS.C, fA.C, bL.C]
  rename_i w lo hi limit phase block to_ sb st sa sr so from_ out
  obtain ⟨hsw, hsr, hout⟩ := hS
  have hr := jO.roomy hsw
  cases hh : wU w sb st with
  | false =>
    have hF : mE w ⟨lo, hi, limit, phase, block, to_, ⟨sb, st, sa, sr, so⟩, from_, out⟩ = ⟨lo, hi, limit, 2, block, to_, ⟨sb, st, sa, sr, so⟩, from_, out⟩ := by unfold mE; rw [if_pos hh]
    rw [hF]
    simp only [Sc.V, Sk.V, hh, decide_false, decide_true, aB, aB, gq, reduceEq, reduceLT, reduceLE, implies_true, reduceCtorEq, if_true, if_false, go_sem, reduceEqDiff, Nat.reduceLT, reduceAdd, reduceSub, reduceLeDiff, reduceReplicate, reduceToNat]
    exact ⟨hr, aJ rfl rfl⟩
  | true =>
    obtain ⟨n1, n2, n3, n4, n5, e, lw, e2, hrv, hlv, hright⟩ := aKh w block
    have hF : mE w ⟨lo, hi, limit, phase, block, to_, ⟨sb, st, sa, sr, so⟩, from_, out⟩ = if (!decide (n3 = 0) && decide (e2 = 0) && !ltB from_ lw) = true then ⟨lo, hi, limit, 5, block, n3, ⟨sb, st, sa, sr, so⟩, from_, out⟩ else nU w ⟨lo, hi, limit, phase, block, to_, ⟨sb, st, sa, sr, so⟩, from_, out⟩ (!decide (n3 = 0) && decide (e2 = 0)) lw n3 := by
      unfold mE
      simp only
      rw [if_neg (by rw [hh]; decide), hright]
      by_cases hc : n3 ≠ 0 ∧ e2 = 0
      · rw [if_pos hc, decide_eq_false hc.1, decide_eq_true hc.2]
        simp only
        cases ltB from_ lw <;> rfl
      · rw [if_neg hc]
        have : (!decide (n3 = 0) && decide (e2 = 0)) = false := by
          rw [Bool.eq_false_iff]
          intro h
          rw [Bool.and_eq_true, Bool.not_eq_true', decide_eq_false_iff_not, decide_eq_true_eq] at h
          exact hc h
        rw [this]
        rfl
    rw [hF]
    clear hF hright
    simp only [hh, hrv, hlv, cS.C, fA.C, decide_false, decide_true, gq, reduceEq, reduceLT, reduceLE, implies_true, reduceCtorEq, if_true, if_false, go_sem, reduceEqDiff, Nat.reduceLT, reduceAdd, reduceSub, reduceLeDiff, reduceReplicate, reduceToNat]
    refine ⟨hr, hr, hsw, ?_⟩
    generalize (!decide (n3 = 0) && decide (e2 = 0)) = bnd
    refine ⟨fun hc => ?_, fun hc => ?_⟩
    · rw [if_pos hc]
      exact aJ rfl rfl
    rw [if_neg (by rw [hc]; decide)]
    clear hc
    simp only [bL.C, fS.K, fS.H, dK.I, dK.H, fB.C, gq, reduceEq, reduceLT, reduceLE, implies_true, reduceCtorEq, if_true, if_false, go_sem, reduceEqDiff, Nat.reduceLT, reduceAdd, reduceSub, reduceLeDiff, reduceReplicate, reduceToNat]
    refine ⟨by unfold roomy; omega, ?_⟩
    refine mH fun J hJ => ?_
    have rest : ∀ (v : Nat) (Y : List AObj), J (.ptr 0 []) (.ptr 1 []) (.ptr 2 []) (.str lw) (.bool bnd) (.ptr 4 []) (.box (.agg [.str lo, .str hi, .int .i64 limit, .int .i64 phase, .int .i64 block, .int .i64 to_, .agg [.int .i64 sb, .int .i64 st, .int .i64 sa, .sl false (.ints .i64 sr), .bool so], .str from_, .sl false (.pairs out)]) :: .box (.agg [.str [], .str [], .int .i64 0, .int .i64 0, .int .i64 0, .int .i64 0, .agg [.int .i64 0, .int .i64 0, .int .i64 0, .sl false (.ints .i64 []), .bool false], .str [], .sl false (.pairs [])]) :: .box (.agg [.int .i64 n1, .int .i64 n2, .int .i64 n3, .int .i64 n4, .sl false (.ints .i64 n5)]) :: .row .own v (.pairs (sOut w ⟨lo, hi, limit, phase, block, to_, ⟨sb, st, sa, sr, so⟩, from_, out⟩ lw bnd)) :: .box (.sref false 3 v 0 (sOut w ⟨lo, hi, limit, phase, block, to_, ⟨sb, st, sa, sr, so⟩, from_, out⟩ lw bnd).length) :: Y) := fun v Y => by
      rw [hJ]
      unfold nU
      generalize sOut w ⟨lo, hi, limit, phase, block, to_, ⟨sb, st, sa, sr, so⟩, from_, out⟩ lw bnd = O
      cases bnd <;> cases hc1 : decide ((O.length : Int) < limit) <;> cases hc2 : decide (hi = []) <;> cases hc3 : ltB lw hi <;> simp only [Sc.V, Sk.V, hc1, hc2, hc3, Bool.false_and, Bool.or_true, Bool.true_or, aB, aB, gq, reduceEq, reduceLT, reduceLE, implies_true, reduceCtorEq, if_true, if_false, go_sem, reduceEqDiff, Nat.reduceLT, reduceAdd, reduceSub, reduceLeDiff, reduceReplicate, reduceToNat] <;> exact aJ (by simp only [List.take_length, go_sem, reduceEqDiff, Nat.reduceLT, reduceAdd, reduceSub, reduceLeDiff, reduceReplicate, reduceToNat]) rfl
    clear hJ
    rw [aB]
    intro l r
    rw [aB]
    refine ⟨⟨hr, hsr⟩, ?_⟩
    have hso : (rK (iF w sr)).length ≤ 200 := by
      have h1 := (uW (w := w) (refs := sr) (out := []) (by simp)).2
      have h2 := (tA (iF w sr)).length_eq
      simp only [List.length_nil] at h1
      unfold iF at h2 ⊢
      omega
    unfold sOut at rest
    simp only at rest
    obtain ⟨p, hp⟩ : ∃ p, p = sIn ⟨lo, hi, limit, phase, block, to_, ⟨sb, st, sa, sr, so⟩, from_, out⟩ lw bnd := ⟨_, rfl⟩
    rw [← hp] at rest
    generalize rK (iF w sr) = L at *
    obtain ⟨m, hm⟩ : ∃ m : Nat, m = (limit - out.length).toNat := ⟨_, rfl⟩
    rw [← hm] at rest
    unfold dK.L1
    refine lD (σ := Nat × Nat) (fun s => .int .i64 s.1) (fun s => [.box (.agg [.str lo, .str hi, .int .i64 limit, .int .i64 phase, .int .i64 block, .int .i64 to_, .agg [.int .i64 sb, .int .i64 st, .int .i64 sa, .sl false (.ints .i64 sr), .bool so], .str from_, .sl false (.pairs out)]), .box (.agg [.str [], .str [], .int .i64 0, .int .i64 0, .int .i64 0, .int .i64 0, .agg [.int .i64 0, .int .i64 0, .int .i64 0, .sl false (.ints .i64 []), .bool false], .str [], .sl false (.pairs [])]), .box (.agg [.int .i64 n1, .int .i64 n2, .int .i64 n3, .int .i64 n4, .sl false (.ints .i64 n5)]), .row .own s.2 (.pairs (out ++ ((L.take s.1).filter p).map jW)), .box (.sref false 3 s.2 0 (out ++ ((L.take s.1).filter p).map jW).length), .box (.sl false (.ints .i64 w)),
      .box (.agg [.str lo, .str hi, .int .i64 limit, .int .i64 phase, .int .i64 block, .int .i64 to_, .agg [.int .i64 sb, .int .i64 st, .int .i64 sa, .sl false (.ints .i64 sr), .bool so], .str from_, .sl false (.pairs out)]), .box (.str lw), .box (.bool bnd), .lp .ready none r]) (fun s => L.length - s.1) (fun s => s.1 ≤ L.length ∧ (((L.take s.1).filter p).map jW).length ≤ m) (0, 0) rfl (by simp) ⟨Nat.zero_le _, by simp⟩ ?_
    rintro I back ⟨k, v⟩ ⟨hk, hkm⟩
    simp only at hk hkm ⊢
    have hpl : (((L.take k).filter p).map jW).length ≤ 200 := by
      rw [List.length_map]
      refine Nat.le_trans (List.length_filter_le _ _) ?_
      rw [List.length_take]; omega
    by_cases hkl : k < L.length
    · have hb : ∀ v2 n lv h, _ := fun v2 n lv h => @back n lv h (k + 1, v2)
      clear back
      have hnx : (L.take (k + 1)).filter p = (L.take k).filter p ++ if p (L.getD k d0) = true then [L.getD k d0] else [] := by
        rw [iC L k d0 hkl, List.filter_append, List.filter_cons, List.filter_nil]
      simp only [hnx, List.map_append] at hb
      have d1 : decide ((k : Int) < (L.length : Int)) = true := decide_eq_true (by omega)
      have hat : L.getD k d0 = ⟨(L.getD k d0).kind, (L.getD k d0).key, (L.getD k d0).val, (L.getD k d0).child⟩ := rfl
      have hpx : p (L.getD k d0) = (!ltB (L.getD k d0).key (if ltB lo from_ = true then from_ else lo) && (decide (hi = []) || ltB (L.getD k d0).key hi) && (!bnd || ltB (L.getD k d0).key lw)) := by rw [hp]; rfl
      have hmore : p (L.getD k d0) = true → limit ≤ (out ++ ((L.take k).filter p).map jW).length → ((L.filter p).map jW).take m = ((L.take k).filter p).map jW := fun h1 h2 => by
        rw [List.length_append] at h2
        have hlm : m ≤ (((L.take k).filter p).map jW).length := by omega
        have hlm2 : (((L.take k).filter p).map jW).length = m := by omega
        have e : (L.filter p).map jW = ((L.take k).filter p).map jW ++ ((L.drop k).filter p).map jW := by
          rw [← List.map_append, ← List.filter_append, List.take_append_drop]
        rw [e, List.take_append_of_le_length (by omega), List.take_of_length_le (by omega)]
      have hless : p (L.getD k d0) = true → ¬ limit ≤ (out ++ ((L.take k).filter p).map jW).length → (((L.take k).filter p).map jW).length + 1 ≤ m := fun h1 h2 => by
        rw [List.length_append] at h2
        omega
      have hro : ∀ y : kZ, roomy (out ++ (((L.take k).filter p).map jW ++ [y])).length := fun y => by
        unfold roomy
        rw [List.length_append, List.length_append, List.length_singleton]; omega
      generalize ((L.filter p).map jW).take m = T at *
      generalize ((L.take k).filter p).map jW = R at *
      generalize p (L.getD k d0) = px at *
      simp only [d1, gX, Int.toNat_natCast, aB, eX (show k < 4611686018427387904 by omega), aB, gq, reduceEq, reduceLT, reduceLE, implies_true, reduceCtorEq, if_true, if_false, go_sem, reduceEqDiff, Nat.reduceLT, reduceAdd, reduceSub, reduceLeDiff, reduceReplicate, reduceToNat]
      refine ⟨⟨by omega, by omega⟩, ?_⟩
      have hN := hb v
      have hY := hb (v + 1)
      clear hb
      have hpt : jW (L.getD k d0) = ⟨(L.getD k d0).key, (L.getD k d0).val⟩ := rfl
      cases px with
      | false =>
        clear hY
        simp only [Bool.false_eq_true, if_false, List.map_nil, List.append_nil] at hN
        generalize ltB (L.getD k d0).key (if ltB lo from_ = true then from_ else lo) = b1 at *
        generalize ltB (L.getD k d0).key hi = b3 at *
        generalize ltB (L.getD k d0).key lw = b5 at *
        generalize decide (hi = []) = b2 at *
        cases b1 <;> cases b2 <;> cases b3 <;> cases bnd <;> cases b5 <;> first
          | exact absurd hpx (by decide)
          | (simp only [aBv, xM, aBw, aBx, Bool.not_true, Bool.not_false]; exact hN _ _ _ (by omega) rfl rfl ⟨by omega, hkm⟩)
      | true =>
        clear hN
        simp only [if_true, List.map_cons, List.map_nil, hpt] at hY
        have hmore := hmore rfl
        have hless := hless rfl
        generalize ltB (L.getD k d0).key (if ltB lo from_ = true then from_ else lo) = b1 at *
        generalize ltB (L.getD k d0).key hi = b3 at *
        generalize ltB (L.getD k d0).key lw = b5 at *
        generalize decide (hi = []) = b2 at *
        cases b1 <;> cases b2 <;> cases b3 <;> cases bnd <;> cases b5 <;> first
          | exact absurd hpx (by decide)
          | (simp only [aBv, xM, aBw, aBx, Bool.not_true, Bool.not_false]
             refine ⟨fun hle => ?_, fun hgt => ⟨hro _, ?_⟩⟩
             · rw [← hmore hle]; exact rest _ _
             · exact hY _ _ _ (by omega) rfl rfl ⟨by omega, by rw [List.length_append]; exact hless hgt⟩)
    · obtain rfl : k = L.length := by omega
      have d1 : decide ((L.length : Int) < (L.length : Int)) = false := decide_eq_false (by omega)
      clear back
      rw [List.take_length] at hkm ⊢
      rw [List.take_of_length_le hkm] at rest
      simp only [d1, aB, aB, gq, reduceEq, reduceLT, reduceLE, implies_true, reduceCtorEq, if_true, if_false, go_sem, reduceEqDiff, Nat.reduceLT, reduceAdd, reduceSub, reduceLeDiff, reduceReplicate, reduceToNat]
      exact rest _ _
end Lam
namespace Lam
open Go Go.Proofs
def uX (w : List Int) (s : Sc) : Sc := match sD w s.block with
  | none => { s with phase := 8 }
  | some x => { s with seek := x, phase := 3 }
def wV (w : List Int) (s : Sc) : Sc := { s with seek := rJ w s.seek, phase := if (rJ w s.seek).over = true then 4 else s.phase }
def kH (m : Mm) (s : Sc) : Mm × Sc :=
  if s.phase = 1 then (m, rL m.vol s)
  else if s.phase = 2 then (m, uX m.vol s)
  else if s.phase = 3 then (m, wV m.vol s)
  else if s.phase = 4 then (m, mE m.vol s)
  else if s.phase = 5 then (mR m s.block 0, { s with block := s.to_, phase := 2 })
  else if s.phase = 6 then (mR m s.block 0, { s with phase := 7 })
  else if s.phase = 7 then (mR m s.block 1, if s.to_ = 0 then { s with phase := 8 } else { s with block := s.to_, phase := 2 })
  else (m, s)
def eS.C : aF
  | [.agg [.sl false (.ints .i64 vol), .sl false (.ints .i64 per), .sl false (.pends pend)], .agg [.str lo, .str hi, .int .i64 limit, .int .i64 phase, .int .i64 block, .int .i64 to_, .agg [.int .i64 sb, .int .i64 st, .int .i64 sa, .sl false (.ints .i64 sr), .bool so], .str from_, .sl false (.pairs out)]] => some (false, pD (kY vol per pend ∧ pend.length + 1 ≤ 1000000 ∧ jO vol ∧ sr.length ≤ 200 ∧ out.length ≤ 1000) (.tup [(kH ⟨vol, per, pend⟩ ⟨lo, hi, limit, phase, block, to_, ⟨sb, st, sa, sr, so⟩, from_, out⟩).1.V, (kH ⟨vol, per, pend⟩ ⟨lo, hi, limit, phase, block, to_, ⟨sb, st, sa, sr, so⟩, from_, out⟩).2.V]))
  | _ => none
theorem eS.spec : bJ Tryz.prog 19 eS.C := by
  refine bJ.of (bU (F := [(39, gI.C), (40, fO.C), (41, gH.C), (42, fQ.C), (43, fC.C)]) (S := []) (by simpa using ⟨gI.spec, fO.spec, gH.spec, fQ.spec, fC.spec⟩) (by simp) eS.loops) eS.at eS.nm eS.bd ?_
  intro vs b S v news e hS
  unfold eS.C at e
  split at e
  rotate_left
  · cases e
  cases e
  rw [eS.eq]
  unfold eS.H
  simp (maxSteps := 4000000) only [go_sem, reduceEqDiff, Nat.reduceLT, reduceAdd, reduceSub, reduceLeDiff, reduceReplicate, reduceToNat, gI.C, fO.C, gH.C, fQ.C, fC.C]
  rename_i vol per pend lo hi limit phase block to_ sb st sa sr so from_ out
  obtain ⟨hsm, hpe, hsw, hsr, hout⟩ := hS
  have hr := jO.roomy hsw
  have hph : phase = 1 ∨ phase = 2 ∨ phase = 3 ∨ phase = 4 ∨ phase = 5 ∨ phase = 6 ∨ phase = 7 ∨ (phase ≠ 1 ∧ phase ≠ 2 ∧ phase ≠ 3 ∧ phase ≠ 4 ∧ phase ≠ 5 ∧ phase ≠ 6 ∧ phase ≠ 7) := by omega
  rcases hph with rfl | rfl | rfl | rfl | rfl | rfl | rfl | ⟨p1, p2, p3, p4, p5, p6, p7⟩
  · have hst : kH ⟨vol, per, pend⟩ ⟨lo, hi, limit, 1, block, to_, ⟨sb, st, sa, sr, so⟩, from_, out⟩ = (⟨vol, per, pend⟩, rL vol ⟨lo, hi, limit, 1, block, to_, ⟨sb, st, sa, sr, so⟩, from_, out⟩) := rfl
    rw [hst]
    generalize rL vol ⟨lo, hi, limit, 1, block, to_, ⟨sb, st, sa, sr, so⟩, from_, out⟩ = s'
    obtain ⟨lo', hi', limit', phase', block', to', ⟨sb', st', sa', sr', so'⟩, from', out'⟩ := s'
    simp only [Mm.V, memV, Sc.V, Sk.V, decide_true, decide_false, aB, aB, gq, reduceEq, reduceLT, reduceLE, implies_true, reduceCtorEq, if_true, if_false, go_sem, reduceEqDiff, Nat.reduceLT, reduceAdd, reduceSub, reduceLeDiff, reduceReplicate, reduceToNat]
    exact ⟨hsw, aJ rfl rfl⟩
  · have hst : kH ⟨vol, per, pend⟩ ⟨lo, hi, limit, 2, block, to_, ⟨sb, st, sa, sr, so⟩, from_, out⟩ = (⟨vol, per, pend⟩, uX vol ⟨lo, hi, limit, 2, block, to_, ⟨sb, st, sa, sr, so⟩, from_, out⟩) := rfl
    rw [hst]
    unfold uX
    simp only
    cases hb : sD vol block with
    | none =>
      have hbv : wT vol block = .tup [skZ.V, .int .i64 90] := by unfold wT; rw [hb]
      simp only [Mm.V, memV, Sc.V, Sk.V, skZ, hbv, decide_true, decide_false, aB, aB, gq, reduceEq, reduceLT, reduceLE, implies_true, reduceCtorEq, if_true, if_false, go_sem, reduceEqDiff, Nat.reduceLT, reduceAdd, reduceSub, reduceLeDiff, reduceReplicate, reduceToNat]
      exact ⟨hr, rfl, aJ rfl rfl⟩
    | some x =>
      obtain ⟨xb, xt, xa, xr, xo⟩ := x
      have hbv : wT vol block = .tup [Sk.V ⟨xb, xt, xa, xr, xo⟩, .int .i64 0] := by unfold wT; rw [hb]
      simp only [Mm.V, memV, Sc.V, Sk.V, skZ, hbv, decide_true, decide_false, aB, aB, gq, reduceEq, reduceLT, reduceLE, implies_true, reduceCtorEq, if_true, if_false, go_sem, reduceEqDiff, Nat.reduceLT, reduceAdd, reduceSub, reduceLeDiff, reduceReplicate, reduceToNat]
      exact ⟨hr, rfl, aJ rfl rfl⟩
  · have hst : kH ⟨vol, per, pend⟩ ⟨lo, hi, limit, 3, block, to_, ⟨sb, st, sa, sr, so⟩, from_, out⟩ = (⟨vol, per, pend⟩, wV vol ⟨lo, hi, limit, 3, block, to_, ⟨sb, st, sa, sr, so⟩, from_, out⟩) := rfl
    rw [hst]
    unfold wV
    simp only
    generalize hs : rJ vol ⟨sb, st, sa, sr, so⟩ = x
    obtain ⟨xb, xt, xa, xr, xo⟩ := x
    have h4 : vol.length ≤ 65536 ∧ sr.length ≤ 65536 := ⟨hsw.1, by omega⟩
    cases xo with
    | true =>
      simp only [Mm.V, memV, Sc.V, Sk.V, hs, decide_true, decide_false, aB, aB, gq, reduceEq, reduceLT, reduceLE, implies_true, reduceCtorEq, if_true, if_false, go_sem, reduceEqDiff, Nat.reduceLT, reduceAdd, reduceSub, reduceLeDiff, reduceReplicate, reduceToNat]
      exact ⟨h4, rfl, aJ rfl rfl⟩
    | false =>
      simp only [Mm.V, memV, Sc.V, Sk.V, hs, decide_true, decide_false, aB, aB, gq, reduceEq, reduceLT, reduceLE, implies_true, reduceCtorEq, if_true, if_false, go_sem, reduceEqDiff, Nat.reduceLT, reduceAdd, reduceSub, reduceLeDiff, reduceReplicate, reduceToNat]
      exact ⟨h4, rfl, aJ rfl rfl⟩
  · have hst : kH ⟨vol, per, pend⟩ ⟨lo, hi, limit, 4, block, to_, ⟨sb, st, sa, sr, so⟩, from_, out⟩ = (⟨vol, per, pend⟩, mE vol ⟨lo, hi, limit, 4, block, to_, ⟨sb, st, sa, sr, so⟩, from_, out⟩) := rfl
    rw [hst]
    generalize mE vol ⟨lo, hi, limit, 4, block, to_, ⟨sb, st, sa, sr, so⟩, from_, out⟩ = s'
    obtain ⟨lo', hi', limit', phase', block', to', ⟨sb', st', sa', sr', so'⟩, from', out'⟩ := s'
    simp only [Mm.V, memV, Sc.V, Sk.V, decide_true, decide_false, aB, aB, gq, reduceEq, reduceLT, reduceLE, implies_true, reduceCtorEq, if_true, if_false, go_sem, reduceEqDiff, Nat.reduceLT, reduceAdd, reduceSub, reduceLeDiff, reduceReplicate, reduceToNat]
    exact ⟨⟨hsw, hsr, hout⟩, aJ rfl rfl⟩
  · have hst : kH ⟨vol, per, pend⟩ ⟨lo, hi, limit, 5, block, to_, ⟨sb, st, sa, sr, so⟩, from_, out⟩ = (mR ⟨vol, per, pend⟩ block 0, ⟨lo, hi, limit, 2, to_, to_, ⟨sb, st, sa, sr, so⟩, from_, out⟩) := rfl
    rw [hst]
    generalize hkm : mR ⟨vol, per, pend⟩ block 0 = m'
    obtain ⟨vol', per', pend'⟩ := m'
    simp only [fC.C, hkm, Mm.V, memV, Sc.V, Sk.V, decide_true, decide_false, aB, aB, gq, reduceEq, reduceLT, reduceLE, implies_true, reduceCtorEq, if_true, if_false, go_sem, reduceEqDiff, Nat.reduceLT, reduceAdd, reduceSub, reduceLeDiff, reduceReplicate, reduceToNat]
    exact ⟨⟨hsm, by omega⟩, rfl, aJ rfl rfl⟩
  · have hst : kH ⟨vol, per, pend⟩ ⟨lo, hi, limit, 6, block, to_, ⟨sb, st, sa, sr, so⟩, from_, out⟩ = (mR ⟨vol, per, pend⟩ block 0, ⟨lo, hi, limit, 7, block, to_, ⟨sb, st, sa, sr, so⟩, from_, out⟩) := rfl
    rw [hst]
    generalize hkm : mR ⟨vol, per, pend⟩ block 0 = m'
    obtain ⟨vol', per', pend'⟩ := m'
    simp only [fC.C, hkm, Mm.V, memV, Sc.V, Sk.V, decide_true, decide_false, aB, aB, gq, reduceEq, reduceLT, reduceLE, implies_true, reduceCtorEq, if_true, if_false, go_sem, reduceEqDiff, Nat.reduceLT, reduceAdd, reduceSub, reduceLeDiff, reduceReplicate, reduceToNat]
    exact ⟨⟨hsm, by omega⟩, rfl, aJ rfl rfl⟩
  · have hst : kH ⟨vol, per, pend⟩ ⟨lo, hi, limit, 7, block, to_, ⟨sb, st, sa, sr, so⟩, from_, out⟩ = (mR ⟨vol, per, pend⟩ block 1, if to_ = 0 then ⟨lo, hi, limit, 8, block, to_, ⟨sb, st, sa, sr, so⟩, from_, out⟩ else ⟨lo, hi, limit, 2, to_, to_, ⟨sb, st, sa, sr, so⟩, from_, out⟩) := rfl
    rw [hst]
    generalize hkm : mR ⟨vol, per, pend⟩ block 1 = m'
    obtain ⟨vol', per', pend'⟩ := m'
    by_cases ht : to_ = 0
    · subst ht
      simp only [fC.C, hkm, Mm.V, memV, Sc.V, Sk.V, decide_true, decide_false, aB, aB, gq, reduceEq, reduceLT, reduceLE, implies_true, reduceCtorEq, if_true, if_false, go_sem, reduceEqDiff, Nat.reduceLT, reduceAdd, reduceSub, reduceLeDiff, reduceReplicate, reduceToNat]
      exact ⟨⟨hsm, by omega⟩, rfl, aJ rfl rfl⟩
    · simp only [fC.C, hkm, Mm.V, memV, Sc.V, Sk.V, ht, decide_true, decide_false, aB, aB, gq, reduceEq, reduceLT, reduceLE, implies_true, reduceCtorEq, if_true, if_false, go_sem, reduceEqDiff, Nat.reduceLT, reduceAdd, reduceSub, reduceLeDiff, reduceReplicate, reduceToNat]
      exact ⟨⟨hsm, by omega⟩, rfl, aJ rfl rfl⟩
  · have hst : kH ⟨vol, per, pend⟩ ⟨lo, hi, limit, phase, block, to_, ⟨sb, st, sa, sr, so⟩, from_, out⟩ = (⟨vol, per, pend⟩, ⟨lo, hi, limit, phase, block, to_, ⟨sb, st, sa, sr, so⟩, from_, out⟩) := by
      unfold kH
      simp only
      rw [if_neg p1, if_neg p2, if_neg p3, if_neg p4, if_neg p5, if_neg p6, if_neg p7]
    rw [hst]
    simp only [Mm.V, memV, Sc.V, Sk.V, p1, p2, p3, p4, p5, p6, p7, decide_true, decide_false, aB, aB, gq, reduceEq, reduceLT, reduceLE, implies_true, reduceCtorEq, if_true, if_false, go_sem, reduceEqDiff, Nat.reduceLT, reduceAdd, reduceSub, reduceLeDiff, reduceReplicate, reduceToNat]
    exact ⟨rfl, aJ rfl rfl⟩
end Lam
namespace Lam
open Go Go.Proofs
end Lam
namespace Lam
open Go Go.Proofs
end Lam
namespace Lam
open Go Go.Proofs
end Lam
namespace Lam
open Go Go.Proofs
end Lam
namespace Lam
open Go Go.Proofs
end Lam
namespace Lam
open Go Go.Proofs
theorem aEh {w : List Int} (b line : Int) : mR ⟨w, w, []⟩ b line = ⟨w, w, []⟩ := by
  unfold mR
  split
  · unfold doM
    split
    · rfl
    · rfl
  · rfl
end Lam
namespace Lam
open Go Go.Proofs
def aEK (n : Nat) : List Int := oQ n 1 ++ (fV iT ++ List.replicate (16 * n - 32) 0)
def uA (n : Int) : AV := if (decide (n < 2) || decide (256 < n)) = true then .tup [.sl false (.ints .i64 []), .int .i64 1] else .tup [.sl false (.ints .i64 (aEK n.toNat)), .int .i64 0]
def gE.C : aF
  | [.int .i64 n] => some (false, pD True (uA n))
  | _ => none
theorem gE.spec : bJ Tryz.prog 32 gE.C := by
  refine bJ.of (bU (F := [(56, eW.C), (57, eJ.C)]) (S := []) (by simpa using ⟨eW.spec, eJ.spec⟩) (by simp) gE.loops) gE.at gE.nm gE.bd ?_
  intro vs b S v news e hS
  unfold gE.C at e
  split at e
  rotate_left
  · cases e
  cases e
  rw [gE.eq]
  unfold gE.H
  simp (maxSteps := 4000000) only [go_sem, reduceEqDiff, Nat.reduceLT, reduceAdd, reduceSub, reduceLeDiff, reduceReplicate, reduceToNat, eW.C, eJ.C]
  rename_i n
  refine ⟨fun h => ?_, fun h => ?_⟩
  · have : uA n = .tup [.sl false (.ints .i64 []), .int .i64 1] := by unfold uA; rw [if_pos h]
    rw [this]; refine aJ ?_ rfl; simp only [go_sem, reduceEqDiff, Nat.reduceLT, reduceAdd, reduceSub, reduceLeDiff, reduceReplicate, reduceToNat]
  · have hv : uA n = .tup [.sl false (.ints .i64 (aEK n.toNat)), .int .i64 0] := by unfold uA; rw [if_neg (by rw [h]; decide)]
    rw [hv]
    clear hv
    simp only [Bool.or_eq_false_iff, decide_eq_false_iff_not] at h
    obtain ⟨k, rfl⟩ := Int.eq_ofNat_of_zero_le (show 0 ≤ n by omega)
    have hmay : mayB (k : Int) 1 = true := by unfold mayB; simp only [Bool.and_eq_true, decide_eq_true_eq]; omega
    have e1 : IntKind.i64.wrap (16 * (k : Int)) = ((16 * k : Nat) : Int) := by rw [w64 (by omega) (by omega)]; omega
    have hz : wR ⟨0, 0, 0, 0, []⟩ = .tup [.sl false (.ints .i64 (fV iT)), .int .i64 0] := by
      unfold wR; rw [if_pos (by decide)]; rfl
    have hsl : (oQ (k : Int) 1).length = 16 := rfl
    have hzl : (fV iT).length = 16 := rfl
    have hrl : (List.replicate (16 * k) (0 : Int)).length = 16 * k := List.length_replicate
    simp only [hmay, if_true, e1, hz, Int.toNat_natCast, hsl, hzl, aB, gq, reduceEq, reduceLT, reduceLE, implies_true, reduceCtorEq, if_true, if_false, go_sem, reduceEqDiff, Nat.reduceLT, reduceAdd, reduceSub, reduceLeDiff, reduceReplicate, reduceToNat]
    refine ⟨⟨by omega, by omega, by unfold roomy; omega⟩, by omega, ?_⟩
    have m1 : min (16 * k) 16 = 16 := by omega
    have m2 : min (16 * k - 16) 16 = 16 := by omega
    have t1 : (oQ (k : Int) 1).take (16 * k) = oQ (k : Int) 1 := List.take_of_length_le (by rw [hsl]; omega)
    have t2 : (fV iT).take (16 * k - 16) = fV iT := List.take_of_length_le (by rw [hzl]; omega)
    refine aJ ?_ rfl
    simp only [m1, m2, t1, t2, go_sem, reduceEqDiff, Nat.reduceLT, reduceAdd, reduceSub, reduceLeDiff, reduceReplicate, reduceToNat]
    have hR : List.take (16 * k - 16) (List.drop 16 (List.replicate (16 * k) (0 : Int))) = List.replicate (16 * k - 16) 0 := by simp
    rw [hR]
    have l1 : (oQ (k : Int) 1 ++ List.replicate (16 * k - 16) (0 : Int)).length = 16 * k := by rw [List.length_append, hsl, List.length_replicate]; omega
    have l2 : (oQ (k : Int) 1 ++ List.replicate (16 * k - 16) (0 : Int)).take 16 = oQ (k : Int) 1 := List.take_left' hsl
    have l3 : (oQ (k : Int) 1 ++ List.replicate (16 * k - 16) (0 : Int)).drop 32 = List.replicate (16 * k - 32) 0 := by
      rw [List.drop_append, hsl, List.drop_of_length_le (by rw [hsl]; omega), List.drop_replicate, List.nil_append]
      rw [show 16 * k - 16 - (32 - 16) = 16 * k - 32 by omega]
    rw [l1, l2, l3]
    have l4 : (List.replicate (16 * k - 32) (0 : Int)).take (16 * k - 32) = List.replicate (16 * k - 32) 0 := by simp
    rw [l4]
    have l5 : (oQ (k : Int) 1 ++ (fV iT ++ List.replicate (16 * k - 32) (0 : Int))).take (16 * k) = aEK k := by
      rw [List.take_of_length_le]
      · rfl
      · simp only [List.length_append, hsl, hzl, List.length_replicate]; omega
    rw [l5]
def A4 : List Int := aEK 4
theorem aFR : jO A4 := by
  refine ⟨by decide +kernel, ?_⟩
  have : A4.all (fun x => decide (x < 9223372036854775808)) = true := by decide +kernel
  intro x hx
  exact of_decide_eq_true (List.all_eq_true.1 this x hx)
end Lam
namespace Lam
open Go Go.Proofs
end Lam
namespace Lam
open Go Go.Proofs
def cD.loops : Nat → bX
 | 1 => ⟨[], [], [], [(5, none), (4, some [7, 11]), (2, none), (4, some [13, 17])], [], []⟩
 | _ => ⟨[], [], [], [], [], []⟩
def cD.H (c : Ctx) (t0 : AV) (h : List AObj) (K : AOut → List AObj → Prop) : Prop :=
 boxW aL t0 h fun t1 h =>
 runD (aC aL t1 0) h fun t3 h =>
 runD (fitD aP (aD h t3)) h fun t4 h =>
 runD (lenD aP h t4) h fun t5 h =>
 runD (binD aA .leq t5 (.int .i64 1000)) h fun t6 h =>
 aM (fun (J1 : AV → AV → List AObj → Prop) =>
 aX t6 true
 (runD (aC aL t1 1) h fun t8 h =>
 runD (fitD aP (aD h t8)) h fun t9 h =>
 runD (lenD aP h t9) h fun t10 h =>
 runD (binD aA .leq t10 (.int .i64 1000)) h fun t11 h =>
 J1 (.bool true) t11 h)
 (J1 (.bool false) .und h))
 (fun t7 t11 h => runD (bP t7 t11 (.bool false)) h fun t12 h =>
 aM (fun (J2 : AV → AV → List AObj → Prop) =>
 aX t12 true
 (runD (aC aL t1 2) h fun t14 h =>
 runD (fitD bY (aD h t14)) h fun t15 h =>
 runD (lenD bY h t15) h fun t16 h =>
 runD (binD aA .leq t16 (.int .i64 100)) h fun t17 h =>
 J2 (.bool true) t17 h)
 (J2 (.bool false) .und h))
 (fun t13 t17 h => runD (bP t13 t17 (.bool false)) h fun t18 h =>
 K (.ret t18) h))
theorem cD.eq (F : List (FuncId × aF)) (S : List (FuncId × Con)) (t0 : AV) (h : List AObj) (K : AOut → List AObj → Prop) : funW (ctx F S cD.loops) Tryz.f12 [t0] h K = cD.H (ctx F S cD.loops) t0 h K := by kernel_rfl
theorem cD.at : Tryz.prog.funcs[12]? = some Tryz.f12 := by kernel_rfl
theorem cD.nm : (Tryz.f12.name == "runtime.NumGoroutine") = false := by kernel_rfl
theorem cD.bd : Tryz.f12.body.isNone = false := by kernel_rfl
end Lam
namespace Lam
open Go Go.Proofs
def M16 : Mm := ⟨A4, A4, []⟩
theorem aAz : eO A4 1 = some iT := by decide +kernel
theorem aLf : sD A4 1 = some ⟨1, 0, 0, [], false⟩ := by
  unfold sD
  rw [aAz]; rfl
theorem aMi : aEJ A4 = 1 := by
  unfold aEJ
  rw [show lG A4 = true from by decide +kernel]; rfl
theorem aNh : uA 4 = .tup [.sl false (.ints .i64 A4), .int .i64 0] := by
  unfold uA; rw [if_neg (by decide)]; rfl
theorem aKi : newM A4 = .tup [memV A4 A4 [], .int .i64 0] := by
  unfold newM; rw [show szB A4.length = true from by decide +kernel]; rfl
def cD.C : aF
  | [.agg [.sl false (.ints .i64 vol), .sl false (.ints .i64 per), .sl false (.pends pend)]] => some (false, pD True (.bool (decide (vol.length ≤ 1000) && decide (per.length ≤ 1000) && decide (pend.length ≤ 100))))
  | _ => none
theorem cD.spec : bJ Tryz.prog 12 cD.C := by
  refine bJ.of (bU (F := []) (S := []) (by simp) (by simp) cD.loops) cD.at cD.nm cD.bd ?_
  intro vs b S v news e hS
  unfold cD.C at e
  split at e
  rotate_left
  · cases e
  cases e
  rw [cD.eq]
  unfold cD.H
  simp (maxSteps := 4000000) only [go_sem, reduceEqDiff, Nat.reduceLT, reduceAdd, reduceSub, reduceLeDiff, reduceReplicate, reduceToNat]
  rename_i vol per pend
  have e1 : decide ((vol.length : Int) ≤ 1000) = decide (vol.length ≤ 1000) := decide_eq_decide.2 (by omega)
  have e2 : decide ((per.length : Int) ≤ 1000) = decide (per.length ≤ 1000) := decide_eq_decide.2 (by omega)
  have e3 : decide ((pend.length : Int) ≤ 100) = decide (pend.length ≤ 100) := decide_eq_decide.2 (by omega)
  rw [e1, e2, e3]
  exact aJ rfl rfl
end Lam
