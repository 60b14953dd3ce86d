/- What functions of the program come to, each proved from its code. -/
import Derived.Test.YtmbmfnmjjelmkabGreatLm4
set_option linter.unusedVariables false
set_option linter.unusedSimpArgs false
set_option linter.unnecessarySimpa false
set_option linter.unusedSectionVars false
open Nat (reduceEqDiff reduceAdd reduceSub reduceLeDiff)
open Int (reduceToNat reduceEq reduceLE reduceLT)
open List (reduceReplicate)
set_option maxRecDepth 20000
namespace Lam
open Go Go.Proofs
def iK.loops : Nat → bU
 | _ => ⟨[], [], [], [], [], []⟩
def iK.H (c : Ctx) (t0 : AV) (t1 : AV) (h : List AObj) (K : AOut → List AObj → Prop) : Prop :=
 boxW aM t0 h fun t2 h =>
 boxW fS t1 h fun t3 h =>
 cS aM h fun t4 h =>
 runD (fitD aM (aD h t2)) h fun t6 h =>
 runD (fitD fS (aD h t3)) h fun t7 h =>
 runD (gC kA 1 [(0, t7)] h.length) h fun t8 h =>
 aP false c (.fn (.func 96) [] []) [t6, t8] h (fun t9 h =>
 runD (aW t9 0) h fun t10 h =>
 runD (aW t9 1) h fun t11 h =>
 runH (aR aM h t4 t10) h fun _ h =>
 dA (fitD aM (aD h t4)) fun r0 => K (.ret (.tup [r0, t11])) h)
 (fun v h => K (.pan v) h)
def iB.loops : Nat → bU
 | _ => ⟨[], [], [], [], [], []⟩
def iB.H (c : Ctx) (t0 : AV) (t1 : AV) (h : List AObj) (K : AOut → List AObj → Prop) : Prop :=
 boxW aM t0 h fun t2 h =>
 cS aM h fun t4 h =>
 runD (fitD aM (aD h t2)) h fun t6 h =>
 aP false c (.fn (.func 113) [] []) [t6, t1] h (fun t8 h =>
 runD (unD .not t8) h fun t9 h =>
 bE t9
 (runD (fitD aM (aD h t2)) h fun t10 h =>
 runH (aR aM h t4 t10) h fun _ h =>
 dA (fitD aM (aD h t4)) fun r0 => K (.ret (.tup [r0, (.int .i64 40)])) h)
 (runD (fitD aM (aD h t2)) h fun t11 h =>
 runD (lenD kA h t1) h fun t14 h =>
 aP false c (.fn (.func 114) [] []) [t11, t1, t14] h (fun t15 h =>
 runH (aR aM h t4 t15) h fun _ h =>
 dA (fitD aM (aD h t4)) fun r0 => K (.ret (.tup [r0, (.int .i64 0)])) h)
 (fun v h => K (.pan v) h)))
 (fun v h => K (.pan v) h)
def fU.loops : Nat → bU
 | 1 => ⟨[], [], [], [(3, none), (5, some [7, 12])], [], []⟩
 | _ => ⟨[], [], [], [], [], []⟩
def fU.H (c : Ctx) (t0 : AV) (t1 : AV) (h : List AObj) (K : AOut → List AObj → Prop) : Prop :=
 boxW aM t0 h fun t2 h =>
 runD (fitD aM (aD h t2)) h fun t5 h =>
 aP false c (.fn (.func 13) [] []) [t5] h (fun t6 h =>
 aL (fun (J1 : AV → AV → List AObj → Prop) =>
 bF t6 true
 (runD (aC aM t2 0) h fun t9 h =>
 runD (fitD aK (aD h t9)) h fun t10 h =>
 runD (lenD aK h t10) h fun t11 h =>
 aP false c (.fn (.func 123) [] []) [t1, t11] h (fun t12 h =>
 J1 (.bool true) t12 h)
 (fun v h => K (.pan v) h))
 (J1 (.bool false) .und h))
 (fun t7 t12 h => runD (bT t7 t12 (.bool false)) h fun t13 h =>
 K (.ret t13) h))
 (fun v h => K (.pan v) h)
def eP.loops : Nat → bU
 | 4 => ⟨[15], [false], [1, 6, 7, 8, 14], [], [], []⟩
 | _ => ⟨[], [], [], [], [], []⟩
def eP.L1 (c : Ctx) (J1 : AV → AV → List AObj → Prop) (K : AOut → List AObj → Prop) (lv : List AV) (h0 : List AObj) (n0 : Nat) (c1 : AV) (c6 : AV) (c7 : AV) (c8 : AV) (c14 : AV) : Prop :=
 ∃ I : Nat → List AV → List AObj → Prop, (∃ n, I n lv h0) ∧ ∀ n h, ∀ t15, I n [t15] h →
 runD (binD aB .lss t15 c14) h fun t16 h =>
 bE t16
 (runD (aG kA h c1 t15) h fun t21 h =>
 runD (aC fS t21 0) h fun t22 h =>
 runD (fitD aB (aD h t22)) h fun t23 h =>
 runD (lW fD h c8 t23) h fun t24 h =>
 runD (aG kA h c1 t15) h fun t28 h =>
 runD (fitD fS (aD h t28)) h fun t29 h =>
 aP false c t24 [c7, t29] h (fun t30 h =>
 runD (binD aB .add t15 (.int .i64 1)) h fun t31 h =>
 (∃ m, m < n ∧ I m (AV.norms n0 h [t31]) (cJ n0 h)) ∧ AV.norms n0 h [c1, c6, c7, c8, c14] = [c1, c6, c7, c8, c14])
 (fun v h => K (.pan v) h))
 (J1 c6 c7 h)
def eP.H (c : Ctx) (t0 : AV) (t1 : AV) (t2 : AV) (h : List AObj) (K : AOut → List AObj → Prop) : Prop :=
 boxW aM t0 h fun t3 h =>
 cS aM h fun t6 h =>
 runD (fitD aM (aD h t3)) h fun t10 h =>
 runD (gY jH [(0, t10)]) h fun t11 h =>
 boxW jH t11 h fun t12 h =>
 aP false c (.fn (.func 124) [] []) [] h (fun t13 h =>
 aL (fun (J1 : AV → AV → List AObj → Prop) =>
 dM [false] [(.int .i64 0)] h fun lv h => eP.L1 c J1 K (AV.norms h.length h lv) (cJ h.length h) h.length (AV.norm h.length h t1) (AV.norm h.length h t6) (AV.norm h.length h t12) (AV.norm h.length h t13) (AV.norm h.length h t2))
 (fun t6 t7 h => runD (bL t7) h fun t33 h =>
 runD (aC jH t33 0) h fun t34 h =>
 runD (fitD aM (aD h t34)) h fun t35 h =>
 runH (aR aM h t6 t35) h fun _ h =>
 dA (fitD aM (aD h t6)) fun r0 => K (.ret r0) h))
 (fun v h => K (.pan v) h)
def fV.loops : Nat → bU
 | 1 => ⟨[], [], [], [(3, none), (2, some [8, 10]), (2, none), (3, some [12, 15])], [], []⟩
 | 2 => ⟨[], [], [], [(2, none), (4, some [18, 22])], [], []⟩
 | _ => ⟨[], [], [], [], [], []⟩
def fV.H (c : Ctx) (t0 : AV) (t1 : AV) (h : List AObj) (K : AOut → List AObj → Prop) : Prop :=
 boxW aB t1 h fun t3 h =>
 runD (fitD aB (aD h t3)) h fun t6 h =>
 runD (binD aB .geq t6 (.int .i64 0)) h fun t7 h =>
 aL (fun (J1 : AV → AV → List AObj → Prop) =>
 bF t7 true
 (runD (fitD aB (aD h t3)) h fun t9 h =>
 runD (binD aB .leq t9 (.int .i64 4096)) h fun t10 h =>
 J1 (.bool true) t10 h)
 (J1 (.bool false) .und h))
 (fun t8 t10 h => runD (bT t8 t10 (.bool false)) h fun t11 h =>
 aL (fun (J2 : AV → AV → List AObj → Prop) =>
 bF t11 true
 (runD (fitD aB (aD h t3)) h fun t13 h =>
 runD (binD aB .rem t13 (.int .i64 8)) h fun t14 h =>
 runD (binD aB .eql t14 (.int .i64 0)) h fun t15 h =>
 J2 (.bool true) t15 h)
 (J2 (.bool false) .und h))
 (fun t12 t15 h => runD (bT t12 t15 (.bool false)) h fun t16 h =>
 aL (fun (J3 : AV → AV → List AObj → Prop) =>
 bF t16 true
 (aP false c (.fn (.func 136) [] []) [t0, (.fn (.func 137) [] [t3])] h (fun t21 h =>
 runD (unD .not t21) h fun t22 h =>
 J3 (.bool true) t22 h)
 (fun v h => K (.pan v) h))
 (J3 (.bool false) .und h))
 (fun t18 t22 h => runD (bT t18 t22 (.bool false)) h fun t23 h =>
 K (.ret t23) h)))
def eU.loops : Nat → bU
 | _ => ⟨[], [], [], [], [], []⟩
def eU.H (c : Ctx) (h : List AObj) (K : AOut → List AObj → Prop) : Prop :=
 runD (kR fD h.length) h fun t1 h =>
 runH (jQ fD h t1 (.int .i64 1) (.fn (.func 139) [] [])) h fun _ h =>
 runH (jQ fD h t1 (.int .i64 2) (.fn (.func 140) [] [])) h fun _ h =>
 K (.ret t1) h
def dV.loops : Nat → bU
 | _ => ⟨[], [], [], [], [], []⟩
def dV.H (c : Ctx) (t0 : AV) (t1 : AV) (h : List AObj) (K : AOut → List AObj → Prop) : Prop :=
 boxW fS t0 h fun t2 h =>
 runD (fitD fS (aD h t2)) h fun t4 h =>
 runD (fitD aB (aD h t1)) h fun t5 h =>
 aP false c (.fn (.func 138) [] []) [t4, t5] h (fun t6 h =>
 runD (unD .not t6) h fun t7 h =>
 K (.ret t7) h)
 (fun v h => K (.pan v) h)
def gW.loops : Nat → bU
 | 2 => ⟨[], [], [], [(4, none), (7, some [14, 21]), (2, none), (8, some [23, 31])], [], []⟩
 | _ => ⟨[], [], [], [], [], []⟩
def gW.H (c : Ctx) (t0 : AV) (t1 : AV) (h : List AObj) (K : AOut → List AObj → Prop) : Prop :=
 boxW fS t0 h fun t2 h =>
 runD (kR mK h.length) h fun t6 h =>
 runH (jQ mK h t6 (.int .i64 1) t1) h fun _ h =>
 runD (binD aB .quo t1 (.int .i64 8)) h fun t9 h =>
 runH (jQ mK h t6 (.int .i64 2) t9) h fun _ h =>
 runD (aC fS t2 1) h fun t11 h =>
 runD (fitD aB (aD h t11)) h fun t12 h =>
 runD (binD aB .geq t12 (.int .i64 0)) h fun t13 h =>
 aL (fun (J1 : AV → AV → List AObj → Prop) =>
 bF t13 true
 (runD (aC fS t2 1) h fun t15 h =>
 runD (fitD aB (aD h t15)) h fun t16 h =>
 runD (aC fS t2 0) h fun t18 h =>
 runD (fitD aB (aD h t18)) h fun t19 h =>
 runD (lW mK h t6 t19) h fun t20 h =>
 runD (binD aB .lss t16 t20) h fun t21 h =>
 J1 (.bool true) t21 h)
 (J1 (.bool false) .und h))
 (fun t14 t21 h => runD (bT t14 t21 (.bool false)) h fun t22 h =>
 aL (fun (J2 : AV → AV → List AObj → Prop) =>
 bF t22 true
 (runD (aC fS t2 0) h fun t24 h =>
 runD (fitD aB (aD h t24)) h fun t25 h =>
 runD (binD aB .eql t25 (.int .i64 1)) h fun t26 h =>
 aL (fun (J3 : AV → AV → List AObj → Prop) =>
 bF t26 false
 (runD (aC fS t2 2) h fun t28 h =>
 runD (fitD aB (aD h t28)) h fun t29 h =>
 runD (binD aB .eql t29 (.int .i64 0)) h fun t30 h =>
 J3 (.bool false) t30 h)
 (J3 (.bool true) .und h))
 (fun t27 t30 h => runD (bT t27 (.bool true) t30) h fun t31 h =>
 J2 (.bool true) t31 h))
 (J2 (.bool false) .und h))
 (fun t23 t31 h => runD (bT t23 t31 (.bool false)) h fun t32 h =>
 K (.ret t32) h))
def cZ.loops : Nat → bU
 | _ => ⟨[], [], [], [], [], []⟩
def cZ.H (c : Ctx) (t0 : AV) (t1 : AV) (h : List AObj) (K : AOut → List AObj → Prop) : Prop :=
 boxW fS t1 h fun t3 h =>
 runD (bL t0) h fun t7 h =>
 runD (aC jH t7 0) h fun t8 h =>
 runD (fitD aM (aD h t8)) h fun t9 h =>
 runD (aC fS t3 1) h fun t10 h =>
 runD (fitD aB (aD h t10)) h fun t11 h =>
 runD (aC fS t3 2) h fun t12 h =>
 runD (fitD aB (aD h t12)) h fun t13 h =>
 aP false c.noS (.fn (.func 148) [] []) [t9, t11, t13] h (fun t14 h =>
 runD (aW t14 0) h fun t15 h =>
 runD (aW t14 1) h fun t16 h =>
 runD (bL t0) h fun t17 h =>
 runD (aC jH t17 0) h fun t18 h =>
 runH (aR aM h t18 t15) h fun _ h =>
 K (.ret (.tup [])) h)
 (fun _ _ => False)
def cT.loops : Nat → bU
 | _ => ⟨[], [], [], [], [], []⟩
def cT.H (c : Ctx) (t0 : AV) (t1 : AV) (h : List AObj) (K : AOut → List AObj → Prop) : Prop :=
 boxW fS t1 h fun t3 h =>
 runD (bL t0) h fun t7 h =>
 runD (aC jH t7 0) h fun t8 h =>
 runD (fitD aM (aD h t8)) h fun t9 h =>
 runD (aC fS t3 1) h fun t10 h =>
 runD (fitD aB (aD h t10)) h fun t11 h =>
 aP false c.noS (.fn (.func 149) [] []) [t9, t11] h (fun t12 h =>
 runD (aW t12 0) h fun t13 h =>
 runD (aW t12 1) h fun t14 h =>
 runD (bL t0) h fun t15 h =>
 runD (aC jH t15 0) h fun t16 h =>
 runH (aR aM h t16 t13) h fun _ h =>
 runD (bL t0) h fun t20 h =>
 runD (aC jH t20 0) h fun t21 h =>
 runD (fitD aM (aD h t21)) h fun t22 h =>
 aP false c (.fn (.func 150) [] []) [t22] h (fun t23 h =>
 runD (aW t23 0) h fun t24 h =>
 runD (aW t23 1) h fun t25 h =>
 runD (bL t0) h fun t26 h =>
 runD (aC jH t26 0) h fun t27 h =>
 runH (aR aM h t27 t24) h fun _ h =>
 K (.ret (.tup [])) h)
 (fun v h => K (.pan v) h))
 (fun _ _ => False)
theorem iK.eq (F : List (FuncId × aE)) (S : List (FuncId × Con)) (t0 t1 : AV) (h : List AObj) (K : AOut → List AObj → Prop) : funW (ctx F S iK.loops) Tryz.f74 [t0, t1] h K = iK.H (ctx F S iK.loops) t0 t1 h K := by kernel_rfl
theorem iB.eq (F : List (FuncId × aE)) (S : List (FuncId × Con)) (t0 t1 : AV) (h : List AObj) (K : AOut → List AObj → Prop) : funW (ctx F S iB.loops) Tryz.f96 [t0, t1] h K = iB.H (ctx F S iB.loops) t0 t1 h K := by kernel_rfl
theorem fU.eq (F : List (FuncId × aE)) (S : List (FuncId × Con)) (t0 t1 : AV) (h : List AObj) (K : AOut → List AObj → Prop) : funW (ctx F S fU.loops) Tryz.f113 [t0, t1] h K = fU.H (ctx F S fU.loops) t0 t1 h K := by kernel_rfl
theorem eP.eq (F : List (FuncId × aE)) (S : List (FuncId × Con)) (t0 t1 t2 : AV) (h : List AObj) (K : AOut → List AObj → Prop) : funW (ctx F S eP.loops) Tryz.f114 [t0, t1, t2] h K = eP.H (ctx F S eP.loops) t0 t1 t2 h K := by kernel_rfl
theorem fV.eq (F : List (FuncId × aE)) (S : List (FuncId × Con)) (t0 t1 : AV) (h : List AObj) (K : AOut → List AObj → Prop) : funW (ctx F S fV.loops) Tryz.f123 [t0, t1] h K = fV.H (ctx F S fV.loops) t0 t1 h K := by kernel_rfl
theorem eU.eq (F : List (FuncId × aE)) (S : List (FuncId × Con)) (h : List AObj) (K : AOut → List AObj → Prop) : funW (ctx F S eU.loops) Tryz.f124 [] h K = eU.H (ctx F S eU.loops)  h K := by kernel_rfl
theorem dV.eq (F : List (FuncId × aE)) (S : List (FuncId × Con)) (t0 t1 : AV) (h : List AObj) (K : AOut → List AObj → Prop) : funW (ctx F S dV.loops) Tryz.f137 [t0, t1] h K = dV.H (ctx F S dV.loops) t0 t1 h K := by kernel_rfl
theorem gW.eq (F : List (FuncId × aE)) (S : List (FuncId × Con)) (t0 t1 : AV) (h : List AObj) (K : AOut → List AObj → Prop) : funW (ctx F S gW.loops) Tryz.f138 [t0, t1] h K = gW.H (ctx F S gW.loops) t0 t1 h K := by kernel_rfl
theorem cZ.eq (F : List (FuncId × aE)) (S : List (FuncId × Con)) (t0 t1 : AV) (h : List AObj) (K : AOut → List AObj → Prop) : funW (ctx F S cZ.loops) Tryz.f139 [t0, t1] h K = cZ.H (ctx F S cZ.loops) t0 t1 h K := by kernel_rfl
theorem cT.eq (F : List (FuncId × aE)) (S : List (FuncId × Con)) (t0 t1 : AV) (h : List AObj) (K : AOut → List AObj → Prop) : funW (ctx F S cT.loops) Tryz.f140 [t0, t1] h K = cT.H (ctx F S cT.loops) t0 t1 h K := by kernel_rfl
theorem iK.at : Tryz.prog.funcs[74]? = some Tryz.f74 := by kernel_rfl
theorem iK.nm : (Tryz.f74.name == "runtime.NumGoroutine") = false := by kernel_rfl
theorem iK.bd : Tryz.f74.body.isNone = false := by kernel_rfl
theorem iB.at : Tryz.prog.funcs[96]? = some Tryz.f96 := by kernel_rfl
theorem iB.nm : (Tryz.f96.name == "runtime.NumGoroutine") = false := by kernel_rfl
theorem iB.bd : Tryz.f96.body.isNone = false := by kernel_rfl
theorem fU.at : Tryz.prog.funcs[113]? = some Tryz.f113 := by kernel_rfl
theorem fU.nm : (Tryz.f113.name == "runtime.NumGoroutine") = false := by kernel_rfl
theorem fU.bd : Tryz.f113.body.isNone = false := by kernel_rfl
theorem eP.at : Tryz.prog.funcs[114]? = some Tryz.f114 := by kernel_rfl
theorem eP.nm : (Tryz.f114.name == "runtime.NumGoroutine") = false := by kernel_rfl
theorem eP.bd : Tryz.f114.body.isNone = false := by kernel_rfl
theorem fV.at : Tryz.prog.funcs[123]? = some Tryz.f123 := by kernel_rfl
theorem fV.nm : (Tryz.f123.name == "runtime.NumGoroutine") = false := by kernel_rfl
theorem fV.bd : Tryz.f123.body.isNone = false := by kernel_rfl
theorem eU.at : Tryz.prog.funcs[124]? = some Tryz.f124 := by kernel_rfl
theorem eU.nm : (Tryz.f124.name == "runtime.NumGoroutine") = false := by kernel_rfl
theorem eU.bd : Tryz.f124.body.isNone = false := by kernel_rfl
theorem dV.at : Tryz.prog.funcs[137]? = some Tryz.f137 := by kernel_rfl
theorem dV.nm : (Tryz.f137.name == "runtime.NumGoroutine") = false := by kernel_rfl
theorem dV.bd : Tryz.f137.body.isNone = false := by kernel_rfl
theorem gW.at : Tryz.prog.funcs[138]? = some Tryz.f138 := by kernel_rfl
theorem gW.nm : (Tryz.f138.name == "runtime.NumGoroutine") = false := by kernel_rfl
theorem gW.bd : Tryz.f138.body.isNone = false := by kernel_rfl
theorem cZ.at : Tryz.prog.funcs[139]? = some Tryz.f139 := by kernel_rfl
theorem cZ.nm : (Tryz.f139.name == "runtime.NumGoroutine") = false := by kernel_rfl
theorem cZ.bd : Tryz.f139.body.isNone = false := by kernel_rfl
theorem cT.at : Tryz.prog.funcs[140]? = some Tryz.f140 := by kernel_rfl
theorem cT.nm : (Tryz.f140.name == "runtime.NumGoroutine") = false := by kernel_rfl
theorem cT.bd : Tryz.f140.body.isNone = false := by kernel_rfl
end Lam
namespace Lam
open Go Go.Proofs
def gW.C : aE
  | [.agg [.int .i64 k, .int .i64 a, .int .i64 w], .int .i64 n] => some (false, pD True (.bool (mmay ⟨k, a, w⟩ n)))
  | _ => none
theorem gW.spec : bN Tryz.prog 138 gW.C := by
  refine bN.of (bQ (F := []) (S := []) (by simp) (by simp) gW.loops) gW.at gW.nm gW.bd ?_
  intro vs b S v news e hS
  unfold gW.C at e
  split at e
  rotate_left
  · cases e
  cases e
  rw [gW.eq]
  unfold gW.H
  simp (maxSteps := 4000000) only [go_sem, reduceEqDiff, Nat.reduceLT, reduceAdd, reduceSub, reduceLeDiff, reduceReplicate, reduceToNat]
  refine ⟨by decide, ?_⟩
  exact aH rfl rfl
def dV.K : Con := fun args h K => match args with
  | [a0, a1] => dV.H (ctx [(138, gW.C)] [] dV.loops) a0 a1 h K
  | _ => False
theorem dV.spec : cP Tryz.prog 137 dV.K := by
  refine cP.of (bQ (F := [(138, gW.C)]) (S := []) (by simpa using gW.spec) (by simp) dV.loops) dV.at dV.nm dV.bd ?_
  intro args h K hC
  unfold dV.K at hC
  split at hC
  · rw [dV.eq]; exact hC
  · exact hC.elim
def aN.K : Con := fun args h K => match args with
  | [a0, a1] => aN.H (ctx [] [(137, dV.K)] aN.loops) a0 a1 h K
  | _ => False
theorem aN.spec : cP Tryz.prog 147 aN.K := by
  refine cP.of (bQ (F := []) (S := [(137, dV.K)]) (by simp) (by simpa using dV.spec) aN.loops) aN.at aN.nm aN.bd ?_
  intro args h K hC
  unfold aN.K at hC
  split at hC
  · rw [aN.eq]; exact hC
  · exact hC.elim
def aQ.K : Con := fun args h K => match args with
  | [a0, a1] => aQ.H (ctx [] [(147, aN.K)] aQ.loops) a0 a1 h K
  | _ => False
theorem aQ.spec : cP Tryz.prog 136 aQ.K := by
  refine cP.of (bQ (F := []) (S := [(147, aN.K)]) (by simp) (by simpa using aN.spec) aQ.loops) aQ.at aQ.nm aQ.bd ?_
  intro args h K hC
  unfold aQ.K at hC
  split at hC
  · rw [aQ.eq]; exact hC
  · exact hC.elim

theorem aCd (x : Mic) (n : Int) (h : List AObj) (K : AOut → List AObj → Prop) (id : Nat) (hid : h[id]? = some (.box (.int .i64 n)))
    (hK : K (.ret (.bool (!mmay x n))) (h ++ [.box (aJF x)])) : dV.K [.agg [.int .i64 x.kind, .int .i64 x.at_, .int .i64 x.val], .ptr id []] h K := by
  have hlt : id < h.length := (List.getElem?_eq_some_iff.1 hid).1
  have hid' : ∀ r, (h ++ r)[id]? = some (.box (.int .i64 n)) := fun r => by rw [List.getElem?_append_left hlt]; exact hid
  have hlen : ∀ o r, (h ++ o :: r)[h.length]? = some o := fun o r => by simp
  unfold dV.K
  simp only
  unfold dV.H
  simp only [go_sem, reduceEqDiff, Nat.reduceLT, reduceAdd, reduceSub, reduceLeDiff, reduceReplicate, reduceToNat, hid', hlen, gW.C]
  exact hK

theorem aLQ (l : List Mic) (n : Int) (K : AOut → List AObj → Prop) (x : Bool) (hr : roomy l.length) (h : List AObj) (hh : h = [.box (.int .i64 n)])
    (hK : ∀ r h', (r = -1 ∧ (∀ y ∈ l, mmay y n = true)) ∨ (0 ≤ r ∧ ∃ y ∈ l, mmay y n = false) → K (.ret (.int .i64 r)) h') :
    aN.K [.sl x (.mics l), .fn (.func 137) [] [.ptr 0 []]] h K := by
  unfold roomy at hr
  unfold aN.K
  simp only
  unfold aN.H
  subst hh
  simp only [go_sem, reduceEqDiff, Nat.reduceLT, reduceAdd, reduceSub, reduceLeDiff, reduceReplicate, reduceToNat, aA]
  unfold aN.L1
  refine ⟨fun m lv h' => ∃ k : Nat, k + m = l.length ∧ lv = [.int .i64 k] ∧ h' = [.box (.int .i64 n)] ∧ ∀ y ∈ l.take k, mmay y n = true, ⟨l.length, 0, by omega, rfl, rfl, by simp⟩, ?_⟩
  rintro m h' t8 ⟨k, hk, hlv, rfl, hall⟩
  simp only [List.cons.injEq, and_true] at hlv
  subst hlv
  simp only [go_sem, reduceEqDiff, Nat.reduceLT, reduceAdd, reduceSub, reduceLeDiff, reduceReplicate, reduceToNat]
  refine ⟨fun hlt => ⟨by omega, ?_⟩, fun hge => ?_⟩
  · have hkl : k < l.length := by omega
    apply aCd _ n _ _ 0 rfl
    simp only [go_sem, reduceEqDiff, Nat.reduceLT, reduceAdd, reduceSub, reduceLeDiff, reduceReplicate, reduceToNat]
    refine ⟨fun h => hK _ _ (.inr ⟨by omega, _, lJ l k _ hkl, by simpa using h⟩), fun h => ?_⟩
    refine ⟨m - 1, by omega, k + 1, by omega, by rw [w64 (by omega) (by omega)]; rfl, ?_⟩
    intro y hy
    rw [iH l k ⟨0, 0, 0⟩ hkl] at hy
    rcases List.mem_append.1 hy with hy | hy
    · exact hall y hy
    · rw [List.mem_singleton.1 hy]; simpa using h
  · have : k = l.length := by omega
    subst this
    rw [List.take_length] at hall
    exact hK _ _ (.inl ⟨rfl, hall⟩)

theorem aHF (l : List Mic) (n : Int) (K : AOut → List AObj → Prop) (x : Bool) (hr : roomy l.length) (h : List AObj) (hh : h = [.box (.int .i64 n)])
    (hK : ∀ h', K (.ret (.bool (!l.all (mmay · n)))) h') :
    aQ.K [.sl x (.mics l), .fn (.func 137) [] [.ptr 0 []]] h K := by
  unfold aQ.K
  simp only
  unfold aQ.H
  subst hh
  simp only [go_sem, reduceEqDiff, Nat.reduceLT, reduceAdd, reduceSub, reduceLeDiff, reduceReplicate, reduceToNat]
  apply aLQ l n _ x hr _ rfl
  intro r h' hcase
  simp only [go_sem, reduceEqDiff, Nat.reduceLT, reduceAdd, reduceSub, reduceLeDiff, reduceReplicate, reduceToNat]
  have : decide (0 ≤ r) = !l.all (mmay · n) := by
    rcases hcase with ⟨rfl, h⟩ | ⟨h0, y, hy, h⟩
    · have : l.all (mmay · n) = true := List.all_eq_true.2 h
      rw [this]; rfl
    · have : l.all (mmay · n) = false := by
        rw [List.all_eq_false]; exact ⟨y, hy, by simp [h]⟩
      rw [this]; simpa using h0
  rw [this]; exact hK h'

def fV.C : aE
  | [.sl _ (.mics l), .int .i64 n] => some (false, pD (roomy l.length) (.bool (aAv n && l.all (mmay · n))))
  | _ => none
theorem fV.spec : bN Tryz.prog 123 fV.C := by
  refine bN.of (bQ (F := []) (S := [(136, aQ.K)]) (by simp) (by simpa using aQ.spec) fV.loops) fV.at fV.nm fV.bd ?_
  intro vs b S v news e hS
  unfold fV.C at e
  split at e
  rotate_left
  · cases e
  cases e
  rw [fV.eq]
  unfold fV.H
  simp (maxSteps := 4000000) only [go_sem, reduceEqDiff, Nat.reduceLT, reduceAdd, reduceSub, reduceLeDiff, reduceReplicate, reduceToNat]
  refine ⟨by simp, ?_⟩
  rw [aA]
  simp only [oF]
  refine ⟨fun hs => ?_, fun hs => ?_⟩
  · apply aHF _ _ _ _ hS _ rfl
    intro h'
    simp only [go_sem, reduceEqDiff, Nat.reduceLT, reduceAdd, reduceSub, reduceLeDiff, reduceReplicate, reduceToNat, Bool.not_not]
    exact aH (by rw [show aAv _ = true from hs, Bool.true_and]; rfl) rfl
  · simp only [go_sem, reduceEqDiff, Nat.reduceLT, reduceAdd, reduceSub, reduceLeDiff, reduceReplicate, reduceToNat]
    exact aH (by rw [show aAv _ = false from hs, Bool.false_and]; rfl) rfl


def cZ.K : Con := fun args h K => match args with
  | [a0, a1] => cZ.H (ctx [(148, iJ.C)] [] cZ.loops) a0 a1 h K
  | _ => False
theorem cZ.spec : cP Tryz.prog 139 cZ.K := by
  refine cP.of (bQ (F := [(148, iJ.C)]) (S := []) (by simpa using iJ.spec) (by simp) cZ.loops) cZ.at cZ.nm cZ.bd ?_
  intro args h K hC
  unfold cZ.K at hC
  split at hC
  · rw [cZ.eq]; exact hC
  · exact hC.elim
def cT.K : Con := fun args h K => match args with
  | [a0, a1] => cT.H (ctx [(149, gD.C), (150, gE.C)] [] cT.loops) a0 a1 h K
  | _ => False
theorem cT.spec : cP Tryz.prog 140 cT.K := by
  refine cP.of (bQ (F := [(149, gD.C), (150, gE.C)]) (S := []) (by simpa using ⟨gD.spec, gE.spec⟩) (by simp) cT.loops) cT.at cT.nm cT.bd ?_
  intro args h K hC
  unfold cT.K at hC
  split at hC
  · rw [cT.eq]; exact hC
  · exact hC.elim
def eU.K : Con := fun args h K => match args with
  | [] => eU.H (ctx [] [] eU.loops)  h K
  | _ => False
theorem eU.spec : cP Tryz.prog 124 eU.K := by
  refine cP.of (bQ (F := []) (S := []) (by simp) (by simp) eU.loops) eU.at eU.nm eU.bd ?_
  intro args h K hC
  unfold eU.K at hC
  split at hC
  · rw [eU.eq]; exact hC
  · exact hC.elim
def eP.C : aE
  | [.agg [.sl false (.ints .i64 vol), .sl false (.ints .i64 per), .sl false (.pends pend)], .sl _ (.mics l), .int .i64 n] => some (false, pD (Mm.ok ⟨vol, per, pend⟩ ∧ (∀ x ∈ l, MayN x vol.length) ∧ pend.length + l.length ≤ 1000000 ∧ 0 ≤ n ∧ n ≤ (l.length : Int)) (runS ⟨vol, per, pend⟩ (l.take n.toNat)).V)
  | _ => none
theorem eP.spec : bN Tryz.prog 114 eP.C := by
  refine bN.of (bQ (F := []) (S := [(124, eU.K), (139, cZ.K), (140, cT.K)]) (by simp) (by simpa using ⟨eU.spec, cZ.spec, cT.spec⟩) eP.loops) eP.at eP.nm eP.bd ?_
  intro vs b S v news e hS
  unfold eP.C at e
  split at e
  rotate_left
  · cases e
  cases e
  rw [eP.eq]
  unfold eP.H
  simp (maxSteps := 4000000) only [go_sem, reduceEqDiff, Nat.reduceLT, reduceAdd, reduceSub, reduceLeDiff, reduceReplicate, reduceToNat, eU.K, eU.H]
  rename_i vol per pend _ l n
  obtain ⟨ok, hl, hsz, hn0, hn1⟩ := hS
  rw [aA]
  unfold eP.L1
  refine lF (σ := Nat) (fun k => .int .i64 k) (fun k => [.box (memV vol per pend), .box (memV [] [] []), .box (.agg [(runS ⟨vol, per, pend⟩ (l.take k)).V]), .map (.ifn fun j => if j = 2 then some 140 else if j = 1 then some 139 else none)]) (fun k => n.toNat - k) (fun k => k ≤ n.toNat) 0 rfl rfl (Nat.zero_le _) ?_
  intro I back k hk
  have okk := aIa (l.take k) ok fun x hx => hl x ((List.take_sublist _ _).subset hx)
  have lenk := aGn (l.take k) ⟨vol, per, pend⟩
  have pendk := aAx (l.take k) ⟨vol, per, pend⟩
  rw [List.length_take] at pendk
  simp only [] at lenk pendk
  simp only [go_sem, reduceEqDiff, Nat.reduceLT, reduceAdd, reduceSub, reduceLeDiff, reduceReplicate, reduceToNat]
  refine ⟨fun hlt => ?_, fun hge => ?_⟩
  · have hkl : k < l.length := by omega
    have hnx : runS ⟨vol, per, pend⟩ (l.take (k + 1)) = jP (runS ⟨vol, per, pend⟩ (l.take k)) (l.getD k ⟨0, 0, 0⟩) := by
      rw [iH l k ⟨0, 0, 0⟩ hkl, aHx]; rfl
    have hx := hl _ (lJ l k ⟨0, 0, 0⟩ hkl)
    generalize l.getD k ⟨0, 0, 0⟩ = x at *
    generalize runS ⟨vol, per, pend⟩ (l.take k) = m at *
    have hsm : kP m.vol m.per m.pend := OkM.small okk (by omega)
    refine ⟨by omega, ?_⟩
    rcases hx with ⟨hkd, h0, h1⟩ | ⟨hkd, h0, h1, _⟩
    · have hp : mS m.vol m.per m.pend x.at_ = true := aEG.2 ⟨⟨h0, by omega⟩, okk⟩
      have hst : jP m x = store m x.at_ x.val := by unfold jP; rw [if_pos hkd]
      have e : (if x.kind = 2 then some 140 else if x.kind = 1 then some 139 else none : Option Nat) = some 139 := by rw [if_neg (by omega), if_pos hkd]
      simp only [e, cZ.K, cZ.H, iJ.C, aMV hp, go_sem, reduceEqDiff, Nat.reduceLT, reduceAdd, reduceSub, reduceLeDiff, reduceReplicate, reduceToNat]
      refine ⟨by omega, ⟨hsm, by unfold roomy; omega⟩, back (k + 1) (by omega) (by rw [eS (by omega)]) ?_ (by omega)⟩
      rw [hnx, hst]; rfl
    · have hp : mS m.vol m.per m.pend (oX m.vol x.at_) = true := (OkM.first okk h0 (by omega)).2
      have hst : jP m x = vD m x.at_ := by unfold jP; rw [if_neg (by omega)]
      have e : (if x.kind = 2 then some 140 else if x.kind = 1 then some 139 else none : Option Nat) = some 140 := by rw [if_pos hkd]
      have okf := okk.flush x.at_
      simp only [e, cT.K, cT.H, gD.C, aKt hp, aKu, aAu.2 okf, gE.C, go_sem, reduceEqDiff, Nat.reduceLT, reduceAdd, reduceSub, reduceLeDiff, reduceReplicate, reduceToNat]
      refine ⟨by omega, hsm, OkM.small okf (by rw [aIZ]; omega), back (k + 1) (by omega) (by rw [eS (by omega)]) ?_ (by omega)⟩
      rw [hnx, hst]; rfl
  · have : k = n.toNat := by omega
    subst this
    refine aH ?_ rfl
    simp only [go_sem, reduceEqDiff, Nat.reduceLT, reduceAdd, reduceSub, reduceLeDiff, reduceReplicate, reduceToNat]

def yA (m : Mm) (l : List Mic) : Bool := m.okB && aKv l m.vol.length
def fU.C : aE
  | [.agg [.sl false (.ints .i64 vol), .sl false (.ints .i64 per), .sl false (.pends pend)], .sl _ (.mics l)] => some (false, pD (kP vol per pend ∧ roomy l.length) (.bool (yA ⟨vol, per, pend⟩ l)))
  | _ => none
theorem fU.spec : bN Tryz.prog 113 fU.C := by
  refine bN.of (bQ (F := [(13, eA.C), (123, fV.C)]) (S := []) (by simpa using ⟨eA.spec, fV.spec⟩) (by simp) fU.loops) fU.at fU.nm fU.bd ?_
  intro vs b S v news e hS
  unfold fU.C at e
  split at e
  rotate_left
  · cases e
  cases e
  rw [fU.eq]
  unfold fU.H
  simp (maxSteps := 4000000) only [go_sem, reduceEqDiff, Nat.reduceLT, reduceAdd, reduceSub, reduceLeDiff, reduceReplicate, reduceToNat, eA.C, fV.C]
  exact ⟨hS.1, fun _ => hS.2, aH rfl rfl⟩
theorem aKL {m : Mm} {l : List Mic} : yA m l = true ↔ m.ok ∧ ∀ x ∈ l, MayN x m.vol.length := by
  unfold yA aKv
  rw [Bool.and_eq_true, Bool.and_eq_true, Mm.ok_iff, List.all_eq_true]
  constructor
  · rintro ⟨h1, _, h2⟩
    exact ⟨h1, fun x hx => (aGm h1.sz).1 (h2 x hx)⟩
  · rintro ⟨h1, h2⟩
    have hmd := h1.md
    have hsz := h1.sz
    refine ⟨h1, ?_, fun x hx => (aGm h1.sz).2 (h2 x hx)⟩
    unfold aAv
    simp only [Bool.and_eq_true, decide_eq_true_eq]
    refine ⟨⟨by omega, by omega⟩, ?_⟩
    rw [Int.tmod_eq_emod_of_nonneg (by omega)]; omega
def runV (m : Mm) (l : List Mic) : AV := if yA m l = true then .tup [(runS m l).V, .int .i64 0] else .tup [m.V, .int .i64 40]
def iB.C : aE
  | [.agg [.sl false (.ints .i64 vol), .sl false (.ints .i64 per), .sl false (.pends pend)], .sl _ (.mics l)] => some (false, pD (kP vol per pend ∧ pend.length + l.length ≤ 1000000) (runV ⟨vol, per, pend⟩ l))
  | _ => none
theorem iB.spec : bN Tryz.prog 96 iB.C := by
  refine bN.of (bQ (F := [(113, fU.C), (114, eP.C)]) (S := []) (by simpa using ⟨fU.spec, eP.spec⟩) (by simp) iB.loops) iB.at iB.nm iB.bd ?_
  intro vs b S v news e hS
  unfold iB.C at e
  split at e
  rotate_left
  · cases e
  cases e
  rw [iB.eq]
  unfold iB.H
  simp (maxSteps := 4000000) only [go_sem, reduceEqDiff, Nat.reduceLT, reduceAdd, reduceSub, reduceLeDiff, reduceReplicate, reduceToNat, fU.C, eP.C]
  rename_i vol per pend _ l
  obtain ⟨hs, hz⟩ := hS
  refine ⟨⟨hs, by unfold roomy; omega⟩, fun h => ?_, fun h => ?_⟩
  · unfold runV; rw [h]; exact aH rfl rfl
  · obtain ⟨ok, hl⟩ := aKL.1 h
    refine ⟨⟨ok, hl, hz, by omega, by omega⟩, ?_⟩
    unfold runV; simp only [h, if_true]
    refine aH ?_ rfl
    simp only [go_sem, reduceEqDiff, Nat.reduceLT, reduceAdd, reduceSub, reduceLeDiff, reduceReplicate, reduceToNat, Int.toNat_natCast, List.take_length]
def iK.C : aE
  | [.agg [.sl false (.ints .i64 vol), .sl false (.ints .i64 per), .sl false (.pends pend)], .agg [.int .i64 a, .int .i64 b, .int .i64 c]] => some (false, pD (kP vol per pend ∧ pend.length + 1 ≤ 1000000) (runV ⟨vol, per, pend⟩ [⟨a, b, c⟩]))
  | _ => none
theorem iK.spec : bN Tryz.prog 74 iK.C := by
  refine bN.of (bQ (F := [(96, iB.C)]) (S := []) (by simpa using iB.spec) (by simp) iK.loops) iK.at iK.nm iK.bd ?_
  intro vs b S v news e hS
  unfold iK.C at e
  split at e
  rotate_left
  · cases e
  cases e
  rw [iK.eq]
  unfold iK.H
  simp (maxSteps := 4000000) only [go_sem, reduceEqDiff, Nat.reduceLT, reduceAdd, reduceSub, reduceLeDiff, reduceReplicate, reduceToNat, iB.C]
  rename_i vol per pend a b c
  unfold runV
  cases h : yA ⟨vol, per, pend⟩ [⟨a, b, c⟩]
  · simp only [aA, gq, reduceEq, reduceLT, reduceLE, implies_true, reduceCtorEq, if_true, if_false, go_sem, reduceEqDiff, Nat.reduceLT, reduceAdd, reduceSub, reduceLeDiff, reduceReplicate, reduceToNat]
    exact ⟨⟨hS.1, by omega⟩, aH rfl rfl⟩
  · simp only [aA, gq, reduceEq, reduceLT, reduceLE, implies_true, reduceCtorEq, if_true, if_false, go_sem, reduceEqDiff, Nat.reduceLT, reduceAdd, reduceSub, reduceLeDiff, reduceReplicate, reduceToNat]
    exact ⟨⟨hS.1, by omega⟩, aH rfl rfl⟩
end Lam
namespace Lam
open Go Go.Proofs
def eB.loops : Nat → bU
 | 6 => ⟨[47], [false], [5, 45, 46], [], [], []⟩
 | _ => ⟨[], [], [], [], [], []⟩
def eB.L1 (c : Ctx) (J1 : List AObj → Prop) (J4 : AV → List AObj → Prop) (K : AOut → List AObj → Prop) (lv : List AV) (h0 : List AObj) (n0 : Nat) (c5 : AV) (c45 : AV) (c46 : AV) : Prop :=
 ∃ I : Nat → List AV → List AObj → Prop, (∃ n, I n lv h0) ∧ ∀ n h, ∀ t47, I n [t47] h →
 runD (binD aB .lss t47 c46) h fun t48 h =>
 bE t48
 (runD (aG aK h c45 t47) h fun t49 h =>
 runD (fitD aB (aD h t49)) h fun t50 h =>
 runD (binD aB .neq t50 (.int .i64 0)) h fun t52 h =>
 bE t52
 (J1 h)
 (runD (binD aB .add t47 (.int .i64 1)) h fun t53 h =>
 (∃ m, m < n ∧ I m (AV.norms n0 h [t53]) (cJ n0 h)) ∧ AV.norms n0 h [c5, c45, c46] = [c5, c45, c46]))
 (J4 c5 h)
def eB.H (c : Ctx) (t0 : AV) (h : List AObj) (K : AOut → List AObj → Prop) : Prop :=
 aL (fun (J1 : List AObj → Prop) =>
 cS dF h fun t5 h =>
 runD (lenD aK h t0) h fun t9 h =>
 runD (binD aB .lss t9 (.int .i64 32)) h fun t10 h =>
 bE t10
 (J1 h)
 (runD (aG aK h t0 (.int .i64 0)) h fun t12 h =>
 runD (fitD aB (aD h t12)) h fun t13 h =>
 runD (aG aK h t0 (.int .i64 1)) h fun t15 h =>
 runD (fitD aB (aD h t15)) h fun t16 h =>
 runD (aG aK h t0 (.int .i64 2)) h fun t18 h =>
 runD (fitD aB (aD h t18)) h fun t19 h =>
 runD (aG aK h t0 (.int .i64 3)) h fun t21 h =>
 runD (fitD aB (aD h t21)) h fun t22 h =>
 runD (gY dF [(0, t13), (1, t16), (2, t19), (3, t22)]) h fun t23 h =>
 runH (aR dF h t5 t23) h fun _ h =>
 runD (fitD dF (aD h t5)) h fun t24 h =>
 runD (aC dF t5 1) h fun t25 h =>
 runD (fitD aB (aD h t25)) h fun t26 h =>
 runD (aC dF t5 3) h fun t27 h =>
 runD (fitD aB (aD h t27)) h fun t28 h =>
 aP false c.noS (.fn (.func 65) [] []) [t26, t28] h (fun t29 h =>
 runD (binD dF .neq t24 t29) h fun t30 h =>
 aL (fun (J2 : AV → AV → List AObj → Prop) =>
 bF t30 false
 (runD (fitD dF (aD h t5)) h fun t32 h =>
 aP false c.noS (.fn (.func 66) [] []) [t32] h (fun t33 h =>
 runD (unD .not t33) h fun t34 h =>
 J2 (.bool false) t34 h)
 (fun _ _ => False))
 (J2 (.bool true) .und h))
 (fun t31 t34 h => runD (bT t31 (.bool true) t34) h fun t35 h =>
 aL (fun (J3 : AV → AV → List AObj → Prop) =>
 bF t35 false
 (runD (aC dF t5 1) h fun t37 h =>
 runD (fitD aB (aD h t37)) h fun t38 h =>
 runD (lenD aK h t0) h fun t40 h =>
 runD (binD aB .quo t40 (.int .i64 16)) h fun t41 h =>
 runD (binD aB .neq t38 t41) h fun t42 h =>
 J3 (.bool false) t42 h)
 (J3 (.bool true) .und h))
 (fun t36 t42 h => runD (bT t36 (.bool true) t42) h fun t43 h =>
 bE t43
 (J1 h)
 (runD (eH aK h t0 (some (.int .i64 4)) (some (.int .i64 16)) none) h fun t45 h =>
 runD (lenD aK h t45) h fun t46 h =>
 aL (fun (J4 : AV → List AObj → Prop) =>
 dM [false] [(.int .i64 0)] h fun lv h => eB.L1 c J1 J4 K (AV.norms h.length h lv) (cJ h.length h) h.length (AV.norm h.length h t5) (AV.norm h.length h t45) (AV.norm h.length h t46))
 (fun t5 h => runD (aC dF t5 1) h fun t54 h =>
 runD (fitD aB (aD h t54)) h fun t55 h =>
 runD (aC dF t5 3) h fun t56 h =>
 runD (fitD aB (aD h t56)) h fun t57 h =>
 K (.ret (.tup [t55, t57, (.int .i64 0)])) h)))))
 (fun _ _ => False)))
 (fun h => K (.ret (.tup [(.int .i64 0), (.int .i64 0), (.int .i64 80)])) h)
def fW.loops : Nat → bU
 | _ => ⟨[], [], [], [], [], []⟩
def fW.H (c : Ctx) (t0 : AV) (t1 : AV) (h : List AObj) (K : AOut → List AObj → Prop) : Prop :=
 aP false c (.fn (.func 65) [] []) [t0, t1] h (fun t10 h =>
 cS dF h fun t6 h =>
 runH (aR dF h t6 t10) h fun _ h =>
 runD (fitD dF (aD h t6)) h fun t11 h =>
 aP false c (.fn (.func 66) [] []) [t11] h (fun t12 h =>
 runD (unD .not t12) h fun t13 h =>
 bE t13
 (K (.ret (.tup [(.sl true (.ints .i64 [])), (.int .i64 1)])) h)
 (runD (kB aK (.int .i64 16) (.int .i64 16) h.length) h fun t14 h =>
 runD (aC dF t6 0) h fun t16 h =>
 runD (fitD aB (aD h t16)) h fun t17 h =>
 runD (aC dF t6 1) h fun t18 h =>
 runD (fitD aB (aD h t18)) h fun t19 h =>
 runD (aC dF t6 2) h fun t20 h =>
 runD (fitD aB (aD h t20)) h fun t21 h =>
 runD (aC dF t6 3) h fun t22 h =>
 runD (fitD aB (aD h t22)) h fun t23 h =>
 runD (gC aK 4 [(0, t17), (1, t19), (2, t21), (3, t23)] h.length) h fun t24 h =>
 runM (mA aK h t14 t24) h fun t25 h =>
 K (.ret (.tup [t14, (.int .i64 0)])) h))
 (fun v h => K (.pan v) h))
 (fun v h => K (.pan v) h)
def hH.loops : Nat → bU
 | _ => ⟨[], [], [], [], [], []⟩
def hH.H (c : Ctx) (t0 : AV) (t1 : AV) (h : List AObj) (K : AOut → List AObj → Prop) : Prop :=
 cS dF h fun t4 h =>
 runD (gC aK 2 [(0, (.int .i64 7015)), (1, t0)] h.length) h fun t7 h =>
 aP false c (.fn (.func 93) [] []) [t7] h (fun t8 h =>
 runD (gY dF [(0, (.int .i64 7015)), (1, t0), (2, t8), (3, t1)]) h fun t10 h =>
 runH (aR dF h t4 t10) h fun _ h =>
 dA (fitD dF (aD h t4)) fun r0 => K (.ret r0) h)
 (fun v h => K (.pan v) h)
def dP.loops : Nat → bU
 | 1 => ⟨[], [], [], [(4, none), (3, some [6, 9]), (2, none), (3, some [11, 14]), (2, none), (5, some [16, 21])], [], []⟩
 | _ => ⟨[], [], [], [], [], []⟩
def dP.H (c : Ctx) (t0 : AV) (h : List AObj) (K : AOut → List AObj → Prop) : Prop :=
 boxW dF t0 h fun t1 h =>
 runD (aC dF t1 1) h fun t3 h =>
 runD (fitD aB (aD h t3)) h fun t4 h =>
 runD (binD aB .geq t4 (.int .i64 2)) h fun t5 h =>
 aL (fun (J1 : AV → AV → List AObj → Prop) =>
 bF t5 true
 (runD (aC dF t1 1) h fun t7 h =>
 runD (fitD aB (aD h t7)) h fun t8 h =>
 runD (binD aB .leq t8 (.int .i64 256)) h fun t9 h =>
 J1 (.bool true) t9 h)
 (J1 (.bool false) .und h))
 (fun t6 t9 h => runD (bT t6 t9 (.bool false)) h fun t10 h =>
 aL (fun (J2 : AV → AV → List AObj → Prop) =>
 bF t10 true
 (runD (aC dF t1 3) h fun t12 h =>
 runD (fitD aB (aD h t12)) h fun t13 h =>
 runD (binD aB .geq t13 (.int .i64 1)) h fun t14 h =>
 J2 (.bool true) t14 h)
 (J2 (.bool false) .und h))
 (fun t11 t14 h => runD (bT t11 t14 (.bool false)) h fun t15 h =>
 aL (fun (J3 : AV → AV → List AObj → Prop) =>
 bF t15 true
 (runD (aC dF t1 3) h fun t17 h =>
 runD (fitD aB (aD h t17)) h fun t18 h =>
 runD (aC dF t1 1) h fun t19 h =>
 runD (fitD aB (aD h t19)) h fun t20 h =>
 runD (binD aB .lss t18 t20) h fun t21 h =>
 J3 (.bool true) t21 h)
 (J3 (.bool false) .und h))
 (fun t16 t21 h => runD (bT t16 t21 (.bool false)) h fun t22 h =>
 K (.ret t22) h)))
theorem eB.eq (F : List (FuncId × aE)) (S : List (FuncId × Con)) (t0 : AV) (h : List AObj) (K : AOut → List AObj → Prop) : funW (ctx F S eB.loops) Tryz.f38 [t0] h K = eB.H (ctx F S eB.loops) t0 h K := by kernel_rfl
theorem fW.eq (F : List (FuncId × aE)) (S : List (FuncId × Con)) (t0 t1 : AV) (h : List AObj) (K : AOut → List AObj → Prop) : funW (ctx F S fW.loops) Tryz.f56 [t0, t1] h K = fW.H (ctx F S fW.loops) t0 t1 h K := by kernel_rfl
theorem hH.eq (F : List (FuncId × aE)) (S : List (FuncId × Con)) (t0 t1 : AV) (h : List AObj) (K : AOut → List AObj → Prop) : funW (ctx F S hH.loops) Tryz.f65 [t0, t1] h K = hH.H (ctx F S hH.loops) t0 t1 h K := by kernel_rfl
theorem dP.eq (F : List (FuncId × aE)) (S : List (FuncId × Con)) (t0 : AV) (h : List AObj) (K : AOut → List AObj → Prop) : funW (ctx F S dP.loops) Tryz.f66 [t0] h K = dP.H (ctx F S dP.loops) t0 h K := by kernel_rfl
theorem eB.at : Tryz.prog.funcs[38]? = some Tryz.f38 := by kernel_rfl
theorem eB.nm : (Tryz.f38.name == "runtime.NumGoroutine") = false := by kernel_rfl
theorem eB.bd : Tryz.f38.body.isNone = false := by kernel_rfl
theorem fW.at : Tryz.prog.funcs[56]? = some Tryz.f56 := by kernel_rfl
theorem fW.nm : (Tryz.f56.name == "runtime.NumGoroutine") = false := by kernel_rfl
theorem fW.bd : Tryz.f56.body.isNone = false := by kernel_rfl
theorem hH.at : Tryz.prog.funcs[65]? = some Tryz.f65 := by kernel_rfl
theorem hH.nm : (Tryz.f65.name == "runtime.NumGoroutine") = false := by kernel_rfl
theorem hH.bd : Tryz.f65.body.isNone = false := by kernel_rfl
theorem dP.at : Tryz.prog.funcs[66]? = some Tryz.f66 := by kernel_rfl
theorem dP.nm : (Tryz.f66.name == "runtime.NumGoroutine") = false := by kernel_rfl
theorem dP.bd : Tryz.f66.body.isNone = false := by kernel_rfl
end Lam
namespace Lam
open Go Go.Proofs
def aJq (b r : Int) : AV := .agg [.int .i64 7015, .int .i64 b, .int .i64 (aBd [7015, b]), .int .i64 r]
def hH.C : aE
  | [.int .i64 b, .int .i64 r] => some (false, pD True (aJq b r))
  | _ => none
theorem hH.spec : bN Tryz.prog 65 hH.C := by
  refine bN.of (bQ (F := [(93, iP.C)]) (S := []) (by simpa using iP.spec) (by simp) hH.loops) hH.at hH.nm hH.bd ?_
  intro vs b S v news e hS
  unfold hH.C at e
  split at e
  rotate_left
  · cases e
  cases e
  rw [hH.eq]
  unfold hH.H
  simp (maxSteps := 4000000) only [go_sem, reduceEqDiff, Nat.reduceLT, reduceAdd, reduceSub, reduceLeDiff, reduceReplicate, reduceToNat, iP.C]
  exact ⟨by unfold roomy; decide, aH rfl rfl⟩
def mayB (b r : Int) : Bool := decide (2 ≤ b) && decide (b ≤ 256) && decide (1 ≤ r) && decide (r < b)
def dP.C : aE
  | [.agg [.int .i64 _, .int .i64 b, .int .i64 _, .int .i64 r]] => some (false, pD True (.bool (mayB b r)))
  | _ => none
theorem dP.spec : bN Tryz.prog 66 dP.C := by
  refine bN.of (bQ (F := []) (S := []) (by simp) (by simp) dP.loops) dP.at dP.nm dP.bd ?_
  intro vs b S v news e hS
  unfold dP.C at e
  split at e
  rotate_left
  · cases e
  cases e
  rw [dP.eq]
  unfold dP.H
  simp (maxSteps := 4000000) only [go_sem, reduceEqDiff, Nat.reduceLT, reduceAdd, reduceSub, reduceLeDiff, reduceReplicate, reduceToNat]
  exact aH rfl rfl
def qF (b r : Int) : List Int := [7015, b, aBd [7015, b], r] ++ List.replicate 12 0
def fW.C : aE
  | [.int .i64 b, .int .i64 r] => some (false, pD True (if mayB b r = true then .tup [.sl false (.ints .i64 (qF b r)), .int .i64 0] else .tup [.sl false (.ints .i64 []), .int .i64 1]))
  | _ => none
theorem fW.spec : bN Tryz.prog 56 fW.C := by
  refine bN.of (bQ (F := [(65, hH.C), (66, dP.C)]) (S := []) (by simpa using ⟨hH.spec, dP.spec⟩) (by simp) fW.loops) fW.at fW.nm fW.bd ?_
  intro vs b S v news e hS
  unfold fW.C at e
  split at e
  rotate_left
  · cases e
  cases e
  rw [fW.eq]
  unfold fW.H
  simp (maxSteps := 4000000) only [go_sem, reduceEqDiff, Nat.reduceLT, reduceAdd, reduceSub, reduceLeDiff, reduceReplicate, reduceToNat, hH.C, dP.C, aJq]
  refine ⟨fun h => ?_, fun h => ?_⟩
  · simp only [h, Bool.false_eq_true, if_false]; exact aH rfl rfl
  · refine ⟨by unfold roomy; decide, ?_⟩
    simp only [h, if_true]; exact aH rfl rfl

def aJr (l : List Int) : Bool := decide (l.getD 0 0 = 7015) && decide (l.getD 2 0 = aBd [7015, l.getD 1 0]) && mayB (l.getD 1 0) (l.getD 3 0) && decide (l.getD 1 0 = ((l.length / 16 : Nat) : Int))
def eL (l : List Int) : Bool := decide (32 ≤ l.length) && aJr l && ((l.drop 4).take 12).all (fun w => decide (w = 0))
theorem aSj (a b m d : Bool) : (!(a && b) || !m || !d) = !(a && b && m && d) := by cases a <;> cases b <;> cases m <;> cases d <;> rfl
def kQ (l : List Int) : AV := if eL l = true then .tup [.int .i64 (l.getD 1 0), .int .i64 (l.getD 3 0), .int .i64 0] else .tup [.int .i64 0, .int .i64 0, .int .i64 80]
@[go_sem] theorem aPs (l : List Int) : (kQ l).noSl = true := by unfold kQ; split <;> rfl
def eB.C : aE
  | [.sl _ (.ints .i64 l)] => some (false, pD (roomy l.length) (kQ l))
  | _ => none
theorem aCe (l : List Int) (hb : eL l = false) (h : List AObj) : Post false (kQ l) [] (.ret (.tup [.int .i64 0, .int .i64 0, .int .i64 80])) h := by
  unfold kQ; rw [hb]; exact aH rfl rfl
theorem eB.spec : bN Tryz.prog 38 eB.C := by
  refine bN.of (bQ (F := [(65, hH.C), (66, dP.C)]) (S := []) (by simpa using ⟨hH.spec, dP.spec⟩) (by simp) eB.loops) eB.at eB.nm eB.bd ?_
  intro vs b S v news e hS
  unfold eB.C at e
  split at e
  rotate_left
  · cases e
  cases e
  rw [eB.eq]
  unfold eB.H
  simp (maxSteps := 4000000) only [go_sem, reduceEqDiff, Nat.reduceLT, reduceAdd, reduceSub, reduceLeDiff, reduceReplicate, reduceToNat, hH.C, dP.C, aJq]
  rename_i l
  unfold roomy at hS
  have hw : IntKind.i64.wrap ((l.length : Int).tdiv 16) = ((l.length / 16 : Nat) : Int) := by rw [aNQ]; apply w64 <;> omega
  rw [aA]
  refine ⟨fun h => ?_, fun h => ?_⟩
  · apply aCe
    have : ¬ 32 ≤ l.length := by omega
    simp [eL, this]
  refine ⟨by omega, by omega, by omega, by omega, by simp, ?_⟩
  rw [hw, aSj]
  refine ⟨fun hc => aCe l ?_ _, fun hc => ⟨by omega, ?_⟩⟩
  · have hc : aJr l = false := by rw [Bool.not_eq_true'] at hc; exact hc
    simp [eL, hc]
  · have hc : aJr l = true := by rw [Bool.not_eq_false'] at hc; exact hc
    have h32 : 32 ≤ l.length := by omega
    have hlen : ((l.drop 4).take 12).length = 12 := by simp; omega
    rw [aA]
    unfold eB.L1
    generalize hz : (l.drop 4).take 12 = z at *
    refine ⟨fun m lv h' => ∃ k : Nat, k + m = z.length ∧ lv = [.int .i64 k] ∧ h' = [.box (.agg [.int .i64 (l.getD 0 0), .int .i64 (l.getD 1 0), .int .i64 (l.getD 2 0), .int .i64 (l.getD 3 0)])] ∧ ∀ y ∈ z.take k, y = 0, ⟨z.length, 0, by omega, rfl, rfl, by simp⟩, ?_⟩
    rintro m h' t8 ⟨k, hk, hlv, rfl, hall⟩
    simp only [List.cons.injEq, and_true] at hlv
    subst hlv
    simp only [go_sem, reduceEqDiff, Nat.reduceLT, reduceAdd, reduceSub, reduceLeDiff, reduceReplicate, reduceToNat]
    refine ⟨fun hlt => ⟨by omega, fun h0 => ?_, fun h0 => ?_⟩, fun hge => ?_⟩
    · apply aCe
      have hkz : k < z.length := by omega
      have : z.all (fun w => decide (w = 0)) = false := by
        rw [List.all_eq_false]; exact ⟨_, lJ z k 0 hkz, by simpa using h0⟩
      simp [eL, hz, this]
    · have hkz : k < z.length := by omega
      refine ⟨m - 1, by omega, k + 1, by omega, by rw [w64 (by omega) (by omega)]; rfl, ?_⟩
      intro y hy
      rw [iH z k 0 hkz] at hy
      rcases List.mem_append.1 hy with hy | hy
      · exact hall y hy
      · rw [List.mem_singleton.1 hy]; exact h0
    · have : k = z.length := by omega
      subst this
      rw [List.take_length] at hall
      have ha : z.all (fun w => decide (w = 0)) = true := by
        rw [List.all_eq_true]; intro y hy; simpa using hall y hy
      have hb : eL l = true := by simp [eL, hz, ha, hc, h32]
      unfold kQ
      rw [if_pos hb]
      exact aH rfl rfl

end Lam
namespace Lam
open Go Go.Proofs
def gG.C : aE
  | [.int .i64 b] => some (false, pD True (.bool (rN b)))
  | _ => none
theorem gG.spec : bN Tryz.prog 94 gG.C := by
  refine bN.of (bQ (F := []) (S := []) (by simp) (by simp) gG.loops) gG.at gG.nm gG.bd ?_
  intro vs b S v news e hS
  unfold gG.C at e
  split at e
  rotate_left
  · cases e
  cases e
  rw [gG.eq]
  unfold gG.H
  simp (maxSteps := 4000000) only [go_sem, reduceEqDiff, Nat.reduceLT, reduceAdd, reduceSub, reduceLeDiff, reduceReplicate, reduceToNat]
  exact ⟨fun _ => by decide, aH rfl rfl⟩
def gJ.C : aE
  | [.int .i64 b, .int .i64 s] => some (false, pD True (.int .i64 (oZ b s)))
  | _ => none
theorem gJ.spec : bN Tryz.prog 68 gJ.C := by
  refine bN.of (bQ (F := [(94, gG.C)]) (S := []) (by simpa using gG.spec) (by simp) gJ.loops) gJ.at gJ.nm gJ.bd ?_
  intro vs b S v news e hS
  unfold gJ.C at e
  split at e
  rotate_left
  · cases e
  cases e
  rw [gJ.eq]
  unfold gJ.H
  simp (maxSteps := 4000000) only [go_sem, reduceEqDiff, Nat.reduceLT, reduceAdd, reduceSub, reduceLeDiff, reduceReplicate, reduceToNat, gG.C]
  rename_i b s
  have e : (!rN b || decide (s < 0) || decide (13 ≤ s)) = !(rN b && decide (0 ≤ s) && decide (s < 13)) := by
    cases rN b
    · rfl
    · rw [Bool.eq_iff_iff]; simp only [Bool.and_eq_true, Bool.or_eq_true, Bool.not_eq_true', Bool.not_eq_false', Bool.not_eq_true, decide_eq_true_eq, decide_eq_false_iff_not, Bool.or_eq_false_iff, Bool.and_eq_false_iff, beq_iff_eq]; simp <;> omega
  rw [e]
  unfold oZ
  refine ⟨fun h => ?_, fun h => ?_⟩
  · rw [Bool.not_eq_true'] at h
    rw [h]; exact aH rfl rfl
  · rw [Bool.not_eq_false'] at h
    rw [h]; exact aH rfl rfl
def gK.C : aE
  | [.sl _ (.ints .i64 l), .int .i64 b] => some (false, pD (roomy l.length ∧ b ≤ 1099511627776) (.sl false (.ints .i64 (mJ l b))))
  | _ => none
theorem gK.spec : bN Tryz.prog 80 gK.C := by
  refine bN.of (bQ (F := [(94, gG.C), (102, bO.C), (34, aY.C)]) (S := []) (by simpa using ⟨gG.spec, bO.spec, aY.spec⟩) (by simp) gK.loops) gK.at gK.nm gK.bd ?_
  intro vs b S v news e hS
  unfold gK.C at e
  split at e
  rotate_left
  · cases e
  cases e
  rw [gK.eq]
  unfold gK.H
  simp (maxSteps := 4000000) only [go_sem, reduceEqDiff, Nat.reduceLT, reduceAdd, reduceSub, reduceLeDiff, reduceReplicate, reduceToNat, gG.C, bO.C, aY.C]
  rename_i _ l b
  obtain ⟨hr, hb⟩ := hS
  unfold roomy at hr
  cases hn : rN b with
  | false =>
    refine ⟨fun h => ?_, fun h => by simp at h⟩
    unfold mJ; rw [hn]; exact aH rfl rfl
  | true =>
    have hbb := (yW hb).1 hn
    have e1 : IntKind.i64.wrap (b + 16) = b + 16 := w64 (by omega) (by omega)
    have e2 : IntKind.i64.wrap (b + 3) = b + 3 := w64 (by omega) (by omega)
    rw [e1, e2]
    by_cases hlt : (l.length : Int) < b + 16
    · refine ⟨fun h => ?_, fun h => by simp at h; omega⟩
      unfold mJ; rw [hn, decide_eq_false (by omega)]; exact aH rfl rfl
    · refine ⟨fun h => by simp at h; omega, fun h => ⟨by omega, ?_⟩⟩
      have e3 : (b + 16).toNat - (b + 3).toNat = 13 := by omega
      have e4 : (b + 3).toNat = b.toNat + 3 := by omega
      have hsl : mJ l b = upTo ((l.drop (b.toNat + 3)).take 13) := by
        unfold mJ; rw [hn, decide_eq_true (by omega)]; rfl
      rw [e3, e4, hsl]
      have hlen : ((l.drop (b.toNat + 3)).take 13).length = 13 := by simp; omega
      generalize (l.drop (b.toNat + 3)).take 13 = z at *
      have hu := aLE z
      have hir := aJc lt1 z
      have hul : (upTo z).length ≤ z.length := by rw [← hu]; exact List.length_take_le' _ _
      refine ⟨by unfold roomy; omega, ?_⟩
      rw [aA]
      refine ⟨fun h => ?_, fun h => ?_⟩
      · rw [if_pos h] at hu
        rw [Int.toNat_natCast, List.take_length] at hu
        simp only [aY.C, Int.toNat_natCast, List.take_length, go_sem, reduceEqDiff, Nat.reduceLT, reduceAdd, reduceSub, reduceLeDiff, reduceReplicate, reduceToNat]
        refine ⟨by omega, by unfold roomy; omega, aH ?_ rfl⟩
        simp only [go_sem, reduceEqDiff, Nat.reduceLT, reduceAdd, reduceSub, reduceLeDiff, reduceReplicate, reduceToNat, List.take_length]
        rw [← hu]
      · rw [if_neg h] at hu
        simp only [aY.C, hu, go_sem, reduceEqDiff, Nat.reduceLT, reduceAdd, reduceSub, reduceLeDiff, reduceReplicate, reduceToNat]
        refine ⟨by omega, by unfold roomy; omega, aH ?_ rfl⟩
        simp only [go_sem, reduceEqDiff, Nat.reduceLT, reduceAdd, reduceSub, reduceLeDiff, reduceReplicate, reduceToNat, List.take_length]
def bP.K : Con := fun args h K => match args with
  | [a0] => bP.H (ctx [] [] bP.loops) a0 h K
  | _ => False
theorem bP.spec : cP Tryz.prog 98 bP.K := by
  refine cP.of (bQ (F := []) (S := []) (by simp) (by simp) bP.loops) bP.at bP.nm bP.bd ?_
  intro args h K hC
  unfold bP.K at hC
  split at hC
  · rw [bP.eq]; exact hC
  · exact hC.elim
theorem aJs (l : List Int) (hr : roomy l.length) (K : AOut → List AObj → Prop)
    (hK : ∀ x v l' k, k ≤ l'.length → l'.take k = plain l → K (.ret (.sref x 0 v 0 k)) [.row .own v (.ints .i64 l')]) :
    bP.K [.sref false 0 0 0 l.length] [.row .own 0 (.ints .i64 l)] K := by
  unfold roomy at hr
  unfold bP.K
  simp only
  unfold bP.H
  simp only [go_sem, reduceEqDiff, Nat.reduceLT, reduceAdd, reduceSub, reduceLeDiff, reduceReplicate, reduceToNat]
  refine ⟨fun h => ?_, fun h => ?_⟩
  · refine hK _ _ _ _ (Nat.le_refl _) ?_
    rw [List.take_length]
    rcases l with _ | ⟨a, _ | ⟨b, r⟩⟩
    · rfl
    · rfl
    · simp at h; omega
  rw [aA]
  unfold bP.L1
  refine lF (σ := Nat) (fun k => .int .i64 k) (fun k => [.row .own 0 (.ints .i64 l)]) (fun k => l.length - k) (fun k => 0 < k ∧ k ≤ l.length ∧ ∀ i, 0 < i → i < k → l.getD i 0 ≠ l.getD (i - 1) 0) 1 rfl rfl ⟨by omega, by omega, fun i h1 h2 => by omega⟩ ?_
  rintro I back k ⟨h0, hk, hall⟩
  simp only [go_sem, reduceEqDiff, Nat.reduceLT, reduceAdd, reduceSub, reduceLeDiff, reduceReplicate, reduceToNat]
  refine ⟨fun hlt => ?_, fun hge => ?_⟩
  · have e1 : IntKind.i64.wrap ((k : Int) - 1) = ((k - 1 : Nat) : Int) := by rw [w64 (by omega) (by omega)]; omega
    rw [aA, e1, Int.toNat_natCast]
    refine ⟨by omega, by omega, by omega, by omega, fun heq => ⟨by omega, ?_⟩, fun hne => ?_⟩
    · rw [aA]
      unfold bP.L2
      have hp0 : plain (l.take (k + 1)) = l.take k := by
        rw [aDi h0 (by omega), if_pos heq, yX]
        intro i hi0 hi
        rw [List.length_take] at hi
        have := hall i hi0 (by omega)
        rw [List.getD_eq_getElem?_getD, List.getD_eq_getElem?_getD, List.getElem?_take, List.getElem?_take, if_pos (by omega), if_pos (by omega), ← List.getD_eq_getElem?_getD, ← List.getD_eq_getElem?_getD]
        exact this
      refine pP (σ := Nat × Nat × List Int) (fun s => .int .i64 s.1) (fun s => .int .i64 s.2.1) (fun s => [.row .own 0 (.ints .i64 s.2.2)]) (fun s => l.length - k - s.2.1)
        (fun s => k ≤ s.1 ∧ s.1 ≤ k + s.2.1 - 1 ∧ 1 ≤ s.2.1 ∧ s.2.1 ≤ l.length - k ∧ s.2.2.length = l.length ∧ s.2.2.take s.1 = plain (l.take (k + s.2.1)) ∧ ∀ j, k + s.2.1 - 1 ≤ j → s.2.2.getD j 0 = l.getD j 0) (k, 1, l) rfl rfl
        ⟨Nat.le_refl _, by simp, Nat.le_refl _, by simp only; omega, rfl, hp0.symm, fun j _ => rfl⟩ ?_
      rintro I2 back2 ⟨w, q, R⟩ ⟨hw0, hw1, hq0, hq1, hRl, hRt, hRd⟩
      simp only [] at hw0 hw1 hq0 hq1 hRl hRt hRd ⊢
      simp only [go_sem, reduceEqDiff, Nat.reduceLT, reduceAdd, reduceSub, reduceLeDiff, reduceReplicate, reduceToNat, hRl]
      have e2 : IntKind.i64.wrap ((q : Int) - 1) = ((q - 1 : Nat) : Int) := by rw [w64 (by omega) (by omega)]; omega
      refine ⟨fun hql => ?_, fun hql => ?_⟩
      · have hnext := aDi (l := l) (k := k + q) (by omega) (by omega)
        rw [e2, Int.toNat_natCast, hRd (k + q) (by omega), hRd (k + (q - 1)) (by omega)]
        have e3 : k + q - 1 = k + (q - 1) := by omega
        rw [e3] at hnext
        refine ⟨by omega, by omega, by omega, by omega, ?_⟩
        rw [aA]
        refine ⟨fun hc => ⟨by omega, by omega, by omega, by omega, ?_⟩, fun hc => ?_⟩
        · simp only [go_sem, reduceEqDiff, Nat.reduceLT, reduceAdd, reduceSub, reduceLeDiff, reduceReplicate, reduceToNat]
          rw [if_neg hc] at hnext
          refine back2 (w + 1, q + 1, R.set w (l.getD (k + q) 0)) (by show _ - (q + 1) < _ - q; omega) (by rw [eS (by omega), eS (by omega)]) rfl ⟨by show k ≤ w + 1; omega, by show w + 1 ≤ k + (q + 1) - 1; omega, by show 1 ≤ q + 1; omega, by show q + 1 ≤ _; omega, by show (R.set _ _).length = _; rw [List.length_set]; exact hRl, ?_, fun j hj => ?_⟩
          · show (R.set w _).take (w + 1) = plain (l.take (k + (q + 1)))
            rw [show k + (q + 1) = k + q + 1 from by omega, hnext, ← hRt, iH _ w 0 (by rw [List.length_set]; omega), aCb, if_pos ⟨rfl, by omega⟩, List.take_set_of_le (Nat.le_refl _)]
          · show (R.set w _).getD j 0 = _
            have hj : k + (q + 1) - 1 ≤ j := hj
            rw [aCb, if_neg (by omega), hRd j (by omega)]
        · simp only [go_sem, reduceEqDiff, Nat.reduceLT, reduceAdd, reduceSub, reduceLeDiff, reduceReplicate, reduceToNat]
          rw [if_pos hc] at hnext
          refine back2 (w, q + 1, R) (by show _ - (q + 1) < _ - q; omega) (by rw [eS (by omega)]) rfl ⟨hw0, by show w ≤ k + (q + 1) - 1; omega, by show 1 ≤ q + 1; omega, by show q + 1 ≤ _; omega, hRl, ?_, fun j hj => hRd j (by have hj : k + (q + 1) - 1 ≤ j := hj; omega)⟩
          show R.take w = plain (l.take (k + (q + 1)))
          rw [show k + (q + 1) = k + q + 1 from by omega, hnext, hRt]
      · obtain rfl : q = l.length - k := by omega
        rw [show k + (l.length - k) = l.length from by omega, List.take_length] at hRt
        have hov : nZ (.slice (.int .i64)) [.row .own 0 (.ints .i64 R)] (.sref false 0 0 w (l.length - w)) = some (True, .tup [], 0, .row .own 0 (.ints .i64 (R.take w ++ List.replicate (l.length - w) 0))) := by
          have e4 : l.length - (w + (l.length - w)) = 0 := by omega
          simp [nZ, aCm, Lst.over, Lst.cut, Lst.app, LK.zeros, Lst.kind, jD, TyD.fitsRow, Lst.len, hRl, e4]
        rw [hov]
        simp only [go_sem, reduceEqDiff, Nat.reduceLT, reduceAdd, reduceSub, reduceLeDiff, reduceReplicate, reduceToNat]
        have hl2 : (R.take w ++ List.replicate (l.length - w) 0).length = l.length := by simp [hRl]; omega
        refine ⟨⟨by omega, by omega⟩, ⟨by omega, by omega⟩, ?_⟩
        refine hK _ _ _ _ (by omega) ?_
        rw [List.take_append_of_le_length (by rw [List.length_take]; omega), List.take_take, Nat.min_self, hRt]
    · simp only [go_sem, reduceEqDiff, Nat.reduceLT, reduceAdd, reduceSub, reduceLeDiff, reduceReplicate, reduceToNat]
      refine back (k + 1) (by omega) (by rw [eS (by omega)]) rfl ⟨by omega, by omega, fun i hi0 hi => ?_⟩
      by_cases e : i = k
      · subst e; exact hne
      · exact hall i hi0 (by omega)
  · obtain rfl : k = l.length := by omega
    refine hK _ _ _ _ (Nat.le_refl _) ?_
    rw [List.take_length, yX l hall]
def eI.C : aE
  | [.sl _ (.ints .i64 l)] => some (false, pD (roomy l.length) (.sl false (.ints .i64 (plain l))))
  | _ => none
theorem eI.spec : bN Tryz.prog 78 eI.C := by
  refine bN.of (bQ (F := [(34, aY.C)]) (S := [(98, bP.K)]) (by simpa using aY.spec) (by simpa using bP.spec) eI.loops) eI.at eI.nm eI.bd ?_
  intro vs b S v news e hS
  unfold eI.C at e
  split at e
  rotate_left
  · cases e
  cases e
  rw [eI.eq]
  unfold eI.H
  simp (maxSteps := 4000000) only [go_sem, reduceEqDiff, Nat.reduceLT, reduceAdd, reduceSub, reduceLeDiff, reduceReplicate, reduceToNat, aY.C]
  rename_i _ l
  refine ⟨hS, aJs l hS _ fun x v l' k hk he => ?_⟩
  simp only [go_sem, reduceEqDiff, Nat.reduceLT, reduceAdd, reduceSub, reduceLeDiff, reduceReplicate, reduceToNat]
  refine aH ?_ rfl
  simp only [go_sem, reduceEqDiff, Nat.reduceLT, reduceAdd, reduceSub, reduceLeDiff, reduceReplicate, reduceToNat, he]
end Lam
namespace Lam
open Go Go.Proofs
def gM.C : aE
  | [.agg [.int .i64 a, .int .i64 b, .int .i64 c, .int .i64 d, .sl false (.ints .i64 l)]] => some (false, pD True (.bool (ndB ⟨a, b, c, d, l⟩)))
  | _ => none
theorem gM.spec : bN Tryz.prog 86 gM.C := by
  refine bN.of (bQ (F := [(105, fA.C), (106, bW.C)]) (S := []) (by simpa using ⟨fA.spec, bW.spec⟩) (by simp) gM.loops) gM.at gM.nm gM.bd ?_
  intro vs b S v news e hS
  unfold gM.C at e
  split at e
  rotate_left
  · cases e
  cases e
  rw [gM.eq]
  unfold gM.H
  simp (maxSteps := 4000000) only [go_sem, reduceEqDiff, Nat.reduceLT, reduceAdd, reduceSub, reduceLeDiff, reduceReplicate, reduceToNat, fA.C, bW.C]
  rename_i a b c d l
  have h1 : (a < 0 ∨ 9 < a ∨ b < 0 ∨ 1099511627776 < b ∨ rO c = false ∨ rO d = false ∨ 13 < (l.length : Int)) → ndB ⟨a, b, c, d, l⟩ = false := by
    intro h
    rw [Bool.eq_false_iff]
    intro hh
    obtain ⟨q1, q2, q3, q4, q5, q6, q7, q8⟩ := xT.1 hh
    simp only at q1 q2 q3 q4 q5 q6 q7 q8
    unfold rO at h
    simp only [Bool.and_eq_false_iff, decide_eq_false_iff_not] at h
    omega
  have h2 : ¬ (a < 0 ∨ 9 < a ∨ b < 0 ∨ 1099511627776 < b ∨ rO c = false ∨ rO d = false ∨ 13 < (l.length : Int)) → ndB ⟨a, b, c, d, l⟩ = !l.any vE := by
    intro h
    simp only [not_or, Bool.not_eq_false] at h
    obtain ⟨q1, q2, q3, q4, q5, q6, q7⟩ := h
    unfold ndB
    rw [decide_eq_true (show 0 ≤ a by omega), decide_eq_true (show a ≤ 9 by omega), decide_eq_true (show 0 ≤ b by omega), decide_eq_true (show b ≤ 1099511627776 by omega), q5, q6, decide_eq_true (show l.length ≤ 13 by omega)]
    rfl
  generalize ndB ⟨a, b, c, d, l⟩ = R at *
  simp only [fA.C, bW.C, aA, gq, reduceEq, reduceLT, reduceLE, implies_true, reduceCtorEq, if_true, if_false, go_sem, reduceEqDiff, Nat.reduceLT, reduceAdd, reduceSub, reduceLeDiff, reduceReplicate, reduceToNat]
  repeat' (first | (with_reducible apply And.intro) | (with_reducible intro _))
  all_goals first
    | omega
    | (unfold roomy; omega)
    | (exfalso; simp_all; done)
    | (rw [h1 (by grind)]; exact aH rfl rfl)
    | (rw [h2 (by grind)]; exact aH rfl rfl)
    | skip
  all_goals trace_state
def gN.C : aE
  | [.agg [.int .i64 a, .int .i64 b, .int .i64 c, .int .i64 d, .sl false (.ints .i64 l)]] => some (false, pD (0 ≤ a ∧ a ≤ 9 ∧ 0 ≤ b ∧ b ≤ 1099511627776) (.int .i64 (aAC ⟨a, b, c, d, l⟩)))
  | _ => none
theorem gN.spec : bN Tryz.prog 87 gN.C := by
  refine bN.of (bQ (F := []) (S := []) (by simp) (by simp) gN.loops) gN.at gN.nm gN.bd ?_
  intro vs b S v news e hS
  unfold gN.C at e
  split at e
  rotate_left
  · cases e
  cases e
  rw [gN.eq]
  unfold gN.H
  simp (maxSteps := 4000000) only [go_sem, reduceEqDiff, Nat.reduceLT, reduceAdd, reduceSub, reduceLeDiff, reduceReplicate, reduceToNat]
  rename_i a b c d l
  rw [aJg hS.1 (by omega) hS.2.2.1 hS.2.2.2]
  exact ⟨by decide, aH rfl rfl⟩
def yB (n : Nd) : AV := if ndB n = true then .tup [.sl false (.ints .i64 (gP n)), .int .i64 0] else .tup [.sl false (.ints .i64 []), .int .i64 90]
def fJ.C : aE
  | [.agg [.int .i64 a, .int .i64 b, .int .i64 c, .int .i64 d, .sl false (.ints .i64 l)]] => some (false, pD True (yB ⟨a, b, c, d, l⟩))
  | _ => none
theorem fJ.spec : bN Tryz.prog 57 fJ.C := by
  refine bN.of (bQ (F := [(86, gM.C), (87, gN.C)]) (S := []) (by simpa using ⟨gM.spec, gN.spec⟩) (by simp) fJ.loops) fJ.at fJ.nm fJ.bd ?_
  intro vs b S v news e hS
  unfold fJ.C at e
  split at e
  rotate_left
  · cases e
  cases e
  rw [fJ.eq]
  unfold fJ.H
  simp (maxSteps := 4000000) only [go_sem, reduceEqDiff, Nat.reduceLT, reduceAdd, reduceSub, reduceLeDiff, reduceReplicate, reduceToNat, gM.C, gN.C]
  rename_i a b c d l
  refine ⟨fun h => ?_, fun h => ?_⟩
  · unfold yB; rw [h]; exact aH rfl rfl
  · have hok := xT.1 h
    obtain ⟨q1, q2, q3, q4, _, _, q7, _⟩ := hok
    simp only at q1 q2 q3 q4 q7
    have hw : aAC ⟨a, b, c, d, l⟩ :: c :: d :: (l.take 13 ++ List.take (16 - (3 + min 13 l.length)) (List.drop (3 + min 13 l.length) [aAC ⟨a, b, c, d, l⟩, c, d, 0, 0, 0, 0, 0, 0, 0, 0, 0, 0, 0, 0, 0])) = gP ⟨a, b, c, d, l⟩ := by
      unfold gP
      simp only
      rw [qU l q7, Nat.min_eq_right q7]
      congr 4
      have : ∀ k, k ≤ 13 → List.take (16 - (3 + k)) (List.drop (3 + k) [aAC ⟨a, b, c, d, l⟩, c, d, 0, 0, 0, 0, 0, 0, 0, 0, 0, 0, 0, 0, 0]) = List.replicate (13 - k) 0 := by
        intro k hk
        rcases k with _|_|_|_|_|_|_|_|_|_|_|_|_|_|k <;> first | rfl | omega
      exact this _ q7
    rw [hw]
    unfold yB; simp only [h, if_true]
    refine ⟨⟨by decide, by decide, by unfold roomy; omega⟩, ⟨q1, q2, q3, q4⟩, ⟨by decide, by decide⟩, ⟨by decide, by decide⟩, ⟨by decide, by decide⟩, rfl, rfl, rfl, ⟨by decide, by decide⟩, aH ?_ rfl⟩
    simp only [go_sem, reduceEqDiff, Nat.reduceLT, reduceAdd, reduceSub, reduceLeDiff, reduceReplicate, reduceToNat]
    rw [qU _ (Nat.le_of_eq (aAD (xT.1 h)))]
def qM (words : List Int) (at_ : Int) : AV := if (decide (at_ < 0) || decide (((words.length / 16 : Nat) : Int) ≤ at_)) = true then .tup [jL.V, .int .i64 1] else match aDk (kT words at_.toNat) with
  | some n => .tup [n.V, .int .i64 0]
  | none => .tup [jL.V, .int .i64 90]
def cK.C : aE
  | [.sl _ (.ints .i64 l), .int .i64 k] => some (false, pD (roomy l.length) (qM l k))
  | _ => none
theorem cK.spec : bN Tryz.prog 46 cK.C := by
  refine bN.of (bQ (F := [(80, gK.C), (57, fJ.C), (35, bV.C)]) (S := []) (by simpa using ⟨gK.spec, fJ.spec, bV.spec⟩) (by simp) cK.loops) cK.at cK.nm cK.bd ?_
  intro vs b S v news e hS
  unfold cK.C at e
  split at e
  rotate_left
  · cases e
  cases e
  rw [cK.eq]
  unfold cK.H
  simp (maxSteps := 4000000) only [go_sem, reduceEqDiff, Nat.reduceLT, reduceAdd, reduceSub, reduceLeDiff, reduceReplicate, reduceToNat, gK.C, fJ.C, bV.C]
  rename_i l k
  have hrl := hS
  unfold roomy at hS
  have e0 : IntKind.i64.wrap ((l.length : Int).tdiv 16) = ((l.length / 16 : Nat) : Int) := by
    rw [Int.tdiv_eq_ediv_of_nonneg (by omega)]; exact w64 (by omega) (by omega)
  rw [e0]
  unfold qM
  refine ⟨fun _ => by decide, fun h => ?_, fun h => ?_⟩
  · rw [if_pos h]
    refine aH ?_ rfl
    simp only [jL, go_sem, reduceEqDiff, Nat.reduceLT, reduceAdd, reduceSub, reduceLeDiff, reduceReplicate, reduceToNat]
  · rw [h]
    simp only [Bool.or_eq_false_iff, decide_eq_false_iff_not] at h
    obtain ⟨k, rfl⟩ := Int.eq_ofNat_of_zero_le (show 0 ≤ k by omega)
    have hk : 16 * k + 16 ≤ l.length := by omega
    have e1 : IntKind.i64.wrap (16 * (k : Int)) = 16 * (k : Int) := w64 (by omega) (by omega)
    have e2 : IntKind.i64.wrap ((k : Int) + 1) = (k : Int) + 1 := w64 (by omega) (by omega)
    have e3 : IntKind.i64.wrap (16 * ((k : Int) + 1)) = 16 * ((k : Int) + 1) := w64 (by omega) (by omega)
    have e4 : (16 * ((k : Int) + 1)).toNat - (16 * (k : Int)).toNat = 16 := by omega
    have e5 : (16 * (k : Int)).toNat = 16 * k := by omega
    have eb : (l.drop (16 * k)).take 16 = kT l k := rfl
    have hbl : (kT l k).length = 16 := by unfold kT; simp; omega
    rw [e2, e1, e3, e4, e5, eb, Int.toNat_natCast]
    generalize kT l k = w at *
    have hdp : (⟨andI .i64 (w.getD 0 0) 15, (xS .i64 (w.getD 0 0) 1152921504606846976).fdiv (2 ^ min 4 64), w.getD 1 0, w.getD 2 0, mJ w 0⟩ : Nd) = decP w := rfl
    have hV : (decP w).V = .agg [.int .i64 (andI .i64 (w.getD 0 0) 15), .int .i64 ((xS .i64 (w.getD 0 0) 1152921504606846976).fdiv (2 ^ min 4 64)), .int .i64 (w.getD 1 0), .int .i64 (w.getD 2 0), .sl false (.ints .i64 (mJ w 0))] := rfl
    rw [hdp, hbl, ← aLH]
    have hsr := aFj w 0
    refine ⟨by omega, by omega, by omega, by decide, by omega, by omega, ⟨by unfold roomy; omega, by decide⟩, ?_⟩
    unfold pA yB
    cases hd : ndB (decP w) with
    | false =>
      simp only [Bool.false_eq_true, if_false, Bool.false_and, aA, aA, gq, reduceEq, reduceLT, reduceLE, implies_true, reduceCtorEq, if_true, if_false, go_sem, reduceEqDiff, Nat.reduceLT, reduceAdd, reduceSub, reduceLeDiff, reduceReplicate, reduceToNat]
      refine aH ?_ rfl
      simp only [jL, go_sem, reduceEqDiff, Nat.reduceLT, reduceAdd, reduceSub, reduceLeDiff, reduceReplicate, reduceToNat]
    | true =>
      have hok := xT.1 hd
      have hwl := aAD hok
      simp only [if_true, Bool.true_and, bV.C, hwl, hbl, aA, gq, reduceEq, reduceLT, reduceLE, implies_true, reduceCtorEq, if_true, if_false, go_sem, reduceEqDiff, Nat.reduceLT, reduceAdd, reduceSub, reduceLeDiff, reduceReplicate, reduceToNat]
      refine ⟨by unfold roomy; omega, fun h => ?_, fun h => ?_⟩
      · rw [if_neg h]
        refine aH ?_ rfl
        simp only [jL, go_sem, reduceEqDiff, Nat.reduceLT, reduceAdd, reduceSub, reduceLeDiff, reduceReplicate, reduceToNat]
      · rw [if_pos h]
        exact aH rfl rfl
end Lam
namespace Lam
open Go Go.Proofs
def gH.loops : Nat → bU
 | 1 => ⟨[], [], [], [(3, none), (3, some [5, 8])], [], []⟩
 | _ => ⟨[], [], [], [], [], []⟩
def gH.H (c : Ctx) (t0 : AV) (h : List AObj) (K : AOut → List AObj → Prop) : Prop :=
 runD (binD cE .neq t0 (.str [])) h fun t4 h =>
 aL (fun (J1 : AV → AV → List AObj → Prop) =>
 bF t4 true
 (runD (lenD cE h t0) h fun t7 h =>
 runD (binD aB .leq t7 (.int .i64 21)) h fun t8 h =>
 J1 (.bool true) t8 h)
 (J1 (.bool false) .und h))
 (fun t5 t8 h => runD (bT t5 t8 (.bool false)) h fun t9 h =>
 K (.ret t9) h)
def eQ.loops : Nat → bU
 | 1 => ⟨[], [], [], [(3, none), (9, some [14, 23])], [], []⟩
 | 5 => ⟨[6, 31], [true, false], [1, 29, 30], [], [], []⟩
 | 7 => ⟨[], [], [], [(3, none), (2, some [37, 39])], [], []⟩
 | 10 => ⟨[6, 41], [true, false], [1, 8, 29, 30, 31], [], [], []⟩
 | 16 => ⟨[59], [false], [1, 6, 57, 58], [], [], []⟩
 | _ => ⟨[], [], [], [], [], []⟩
def eQ.L2 (c : Ctx) (J5 : AV → AV → AV → AV → AV → List AObj → Prop) (K : AOut → List AObj → Prop) (lv : List AV) (h0 : List AObj) (n0 : Nat) (c1 : AV) (c8 : AV) (c29 : AV) (c30 : AV) (c31 : AV) : Prop :=
 ∃ I : Nat → List AV → List AObj → Prop, (∃ n, I n lv h0) ∧ ∀ n h, ∀ t6, ∀ t41, I n [t6, t41] h →
 runD (binD aB .lss t41 (.int .i64 7)) h fun t42 h =>
 bE t42
 (runD (binD aB .sub (.int .i64 6) t41) h fun t47 h =>
 runD (binD aB .mul (.int .i64 8) t47) h fun t48 h =>
 runD (binD aB .shr c8 t48) h fun t49 h =>
 runD (jO h aB nH t49) h fun t50 h =>
 runD (gC kF 1 [(0, t50)] h.length) h fun t51 h =>
 kC (gS kF h t6 t51 h.length) (iC kF h t6 t51) h fun t52 h =>
 runD (binD aB .add t41 (.int .i64 1)) h fun t53 h =>
 (∃ m, m < n ∧ I m (AV.norms n0 h [t52, t53]) (cJ n0 h)) ∧ AV.norms n0 h [c1, c8, c29, c30, c31] = [c1, c8, c29, c30, c31])
 (J5 c1 t6 c29 c30 c31 h)
def eQ.L1 (c : Ctx) (J2 : AV → AV → List AObj → Prop) (K : AOut → List AObj → Prop) (lv : List AV) (h0 : List AObj) (n0 : Nat) (c1 : AV) (c29 : AV) (c30 : AV) : Prop :=
 ∃ I : Nat → List AV → List AObj → Prop, (∃ n, I n lv h0) ∧ ∀ n h, ∀ t6, ∀ t31, I n [t6, t31] h →
 runD (binD aB .lss t31 c30) h fun t32 h =>
 bE t32
 (aL (fun (J3 : AV → AV → AV → AV → AV → List AObj → Prop) =>
 runD (aG aK h c29 t31) h fun t33 h =>
 runD (fitD aB (aD h t33)) h fun t34 h =>
 runD (binD aB .lss t34 (.int .i64 0)) h fun t36 h =>
 aL (fun (J4 : AV → AV → List AObj → Prop) =>
 bF t36 false
 (runD (binD aB .geq t34 (.int .i64 72057594037927936)) h fun t39 h =>
 J4 (.bool false) t39 h)
 (J4 (.bool true) .und h))
 (fun t37 t39 h => runD (bT t37 (.bool true) t39) h fun t40 h =>
 bE t40
 (K (.ret (.tup [(.str []), (.int .i64 20)])) h)
 (aL (fun (J5 : AV → AV → AV → AV → AV → List AObj → Prop) =>
 dM [true, false] [t6, (.int .i64 0)] h fun lv h => eQ.L2 c J5 K (AV.norms h.length h lv) (cJ h.length h) h.length (AV.norm h.length h c1) (AV.norm h.length h t34) (AV.norm h.length h c29) (AV.norm h.length h c30) (AV.norm h.length h t31))
 (fun t1 t6 t29 t30 t31 h => J3 t1 t6 t29 t30 t31 h))))
 (fun t1 t6 t29 t30 t31 h => runD (binD aB .add t31 (.int .i64 1)) h fun t54 h =>
 (∃ m, m < n ∧ I m (AV.norms n0 h [t6, t54]) (cJ n0 h)) ∧ AV.norms n0 h [t1, t29, t30] = [c1, c29, c30]))
 (J2 c1 t6 h)
def eQ.L3 (c : Ctx) (J6 : AV → AV → List AObj → Prop) (K : AOut → List AObj → Prop) (lv : List AV) (h0 : List AObj) (n0 : Nat) (c1 : AV) (c6 : AV) (c57 : AV) (c58 : AV) : Prop :=
 ∃ I : Nat → List AV → List AObj → Prop, (∃ n, I n lv h0) ∧ ∀ n h, ∀ t59, I n [t59] h →
 runD (binD aB .lss t59 c58) h fun t60 h =>
 bE t60
 (runD (aG kF h c57 t59) h fun t61 h =>
 runD (fitD nH (aD h t61)) h fun t62 h =>
 runD (binD nH .neq t62 (.int .u8 0)) h fun t64 h =>
 bE t64
 (K (.ret (.tup [(.str []), (.int .i64 20)])) h)
 (runD (binD aB .add t59 (.int .i64 1)) h fun t65 h =>
 (∃ m, m < n ∧ I m (AV.norms n0 h [t65]) (cJ n0 h)) ∧ AV.norms n0 h [c1, c6, c57, c58] = [c1, c6, c57, c58]))
 (J6 c1 c6 h)
def eQ.H (c : Ctx) (t0 : AV) (t1 : AV) (h : List AObj) (K : AOut → List AObj → Prop) : Prop :=
 runD (binD aB .lss t1 (.int .i64 0)) h fun t13 h =>
 aL (fun (J1 : AV → AV → List AObj → Prop) =>
 bF t13 false
 (runD (lenD aK h t0) h fun t16 h =>
 runD (binD aB .quo t1 (.int .i64 7)) h fun t18 h =>
 runD (binD aB .rem t1 (.int .i64 7)) h fun t20 h =>
 runD (minD (.int .i64 1) t20) h fun t21 h =>
 runD (binD aB .add t18 t21) h fun t22 h =>
 runD (binD aB .neq t16 t22) h fun t23 h =>
 J1 (.bool false) t23 h)
 (J1 (.bool true) .und h))
 (fun t14 t23 h => runD (bT t14 (.bool true) t23) h fun t24 h =>
 bE t24
 (K (.ret (.tup [(.str []), (.int .i64 20)])) h)
 (runD (lenD aK h t0) h fun t26 h =>
 runD (binD aB .mul (.int .i64 7) t26) h fun t27 h =>
 runD (kB kF (.int .i64 0) t27 h.length) h fun t28 h =>
 runD (lenD aK h t0) h fun t30 h =>
 aL (fun (J2 : AV → AV → List AObj → Prop) =>
 dM [true, false] [t28, (.int .i64 0)] h fun lv h => eQ.L1 c J2 K (AV.norms h.length h lv) (cJ h.length h) h.length (AV.norm h.length h t1) (AV.norm h.length h t0) (AV.norm h.length h t30))
 (fun t1 t6 h => runD (eH kF h t6 (some t1) none none) h fun t57 h =>
 runD (lenD kF h t57) h fun t58 h =>
 aL (fun (J6 : AV → AV → List AObj → Prop) =>
 dM [false] [(.int .i64 0)] h fun lv h => eQ.L3 c J6 K (AV.norms h.length h lv) (cJ h.length h) h.length (AV.norm h.length h t1) (AV.norm h.length h t6) (AV.norm h.length h t57) (AV.norm h.length h t58))
 (fun t1 t6 h => runD (eH kF h t6 none (some t1) none) h fun t68 h =>
 runD (jO h kF cE t68) h fun t69 h =>
 K (.ret (.tup [t69, (.int .i64 0)])) h))))
def eV.loops : Nat → bU
 | _ => ⟨[], [], [], [], [], []⟩
def eV.H (c : Ctx) (t0 : AV) (h : List AObj) (K : AOut → List AObj → Prop) : Prop :=
 runD (lenD cE h t0) h fun t4 h =>
 runD (binD aB .leq t4 (.int .i64 21)) h fun t5 h =>
 K (.ret t5) h
def fQ.loops : Nat → bU
 | 2 => ⟨[], [], [], [], [2], []⟩
 | 5 => ⟨[4, 11], [false, false], [2, 3, 10], [], [], []⟩
 | _ => ⟨[], [], [], [], [], []⟩
def fQ.L1 (c : Ctx) (id : Nat) (r : Loop) (J3 : AV → AV → List AObj → Prop) (K : AOut → List AObj → Prop) (lv : List AV) (h0 : List AObj) (n0 : Nat) (c2 : AV) (c3 : AV) (c10 : AV) : Prop :=
 ∃ I : Nat → List AV → List AObj → Prop, (∃ n, I n lv h0) ∧ ∀ n h, ∀ t4, ∀ t11, I n [t4, t11] h →
 runD (binD aB .lss t11 c10) h fun t12 h =>
 bE t12
 (runD (tB cE c3 t11) h fun t17 h =>
 runD (jO h nH aB t17) h fun t18 h =>
 runD (binD aB .sub (.int .i64 6) t11) h fun t20 h =>
 runD (binD aB .mul (.int .i64 8) t20) h fun t21 h =>
 runD (binD aB .shl t18 t21) h fun t22 h =>
 runD (binD aB .or t4 t22) h fun t23 h =>
 runD (binD aB .add t11 (.int .i64 1)) h fun t24 h =>
 (∃ m, m < n ∧ I m (AV.norms n0 h [t23, t24]) (cJ n0 h)) ∧ AV.norms n0 h [c2, c3, c10] = [c2, c3, c10])
 (J3 c2 t4 h)
def fQ.H (c : Ctx) (t0 : AV) (h : List AObj) (K : AOut → List AObj → Prop) : Prop :=
 cS aK h fun t2 h =>
 aP false c (.fn (.func 125) [] []) [t0] h (fun t7 h =>
 aL (fun (J1 : AV → List AObj → Prop) =>
 xG c.iterS t7 (boxH [t2] h)
 (fun id r args h K => lpIs h id .ready r ∧ aAT args fun t8 =>
 lpIs h id .ready r ∧
 aL (fun (J2 : List AObj → Prop) =>
 runD (lenD cE (List.set h id (.lp .busy none r)) t8) (List.set h id (.lp .busy none r)) fun t10 h =>
 aL (fun (J3 : AV → AV → List AObj → Prop) =>
 dM [false, false] [(.int .i64 0), (.int .i64 0)] h fun lv h => fQ.L1 c id r J3 K (AV.norms h.length h lv) (cJ h.length h) h.length (AV.norm h.length h t2) (AV.norm h.length h t8) (AV.norm h.length h t10))
 (fun t2 t4 h => runD (fitD aK (aD h t2)) h fun t25 h =>
 runD (gC aK 1 [(0, t4)] h.length) h fun t27 h =>
 kC (gS aK h t25 t27 h.length) (iC aK h t25 t27) h fun t28 h =>
 runH (aR aK h t2 t28) h fun _ h =>
 J2 h))
 (fun h => lpIs h id .busy r ∧ K (.ret (.bool true)) (List.set h id (.lp .ready none r))))
 (fun id r ao h => endX id r ao h
 (fun h => J1 t2 h)
 (fun h => dA (fitD aK (aD h t2)) fun r0 => K (.ret r0) h)
 (fun i h => aFl i 0 (J1 t2 h) (False))
 (fun l h => False)
 (fun v h => K (.pan v) h)))
 (fun t2 h => runD (fitD aK (aD h t2)) h fun t29 h =>
 runH (aR aK h t2 t29) h fun _ h =>
 dA (fitD aK (aD h t2)) fun r0 => K (.ret r0) h))
 (fun v h => K (.pan v) h)
def fX.loops : Nat → bU
 | _ => ⟨[], [], [], [], [], []⟩
def fX.H (c : Ctx) (t0 : AV) (h : List AObj) (K : AOut → List AObj → Prop) : Prop :=
 boxW cE t0 h fun t1 h =>
 K (.ret (.fn (.func 141) [] [t1])) h
def dY.loops : Nat → bU
 | 0 => ⟨[], [], [0, 1], [], [], []⟩
 | _ => ⟨[], [], [], [], [], []⟩
def dY.L1 (c : Ctx) (J1 : List AObj → Prop) (K : AOut → List AObj → Prop) (lv : List AV) (h0 : List AObj) (n0 : Nat) (c0 : AV) (c1 : AV) : Prop :=
 ∃ I : Nat → List AV → List AObj → Prop, (∃ n, I n lv h0) ∧ ∀ n h, I n [] h →
 runD (fitD cE (aD h c1)) h fun t4 h =>
 runD (lenD cE h t4) h fun t5 h =>
 runD (binD aB .gtr t5 (.int .i64 0)) h fun t6 h =>
 bE t6
 (runD (fitD cE (aD h c1)) h fun t7 h =>
 runD (lenD cE h t7) h fun t8 h =>
 runD (minD (.int .i64 7) t8) h fun t9 h =>
 runD (fitD cE (aD h c1)) h fun t11 h =>
 runD (eH cE h t11 none (some t9) none) h fun t13 h =>
 aP false c c0 [t13] h (fun t14 h =>
 runD (unD .not t14) h fun t15 h =>
 bE t15
 (K (.ret (.tup [])) h)
 (runD (fitD cE (aD h c1)) h fun t16 h =>
 runD (eH cE h t16 (some t9) none none) h fun t18 h =>
 runH (aR cE h c1 t18) h fun _ h =>
 (∃ m, m < n ∧ I m (AV.norms n0 h []) (cJ n0 h)) ∧ AV.norms n0 h [c0, c1] = [c0, c1]))
 (fun v h => K (.pan v) h))
 (J1 h)
def dY.H (c : Ctx) (t0 : AV) (t1 : AV) (h : List AObj) (K : AOut → List AObj → Prop) : Prop :=
 aL (fun (J1 : List AObj → Prop) =>
 dM [] [] h fun lv h => dY.L1 c J1 K (AV.norms h.length h lv) (cJ h.length h) h.length (AV.norm h.length h t0) (AV.norm h.length h t1))
 (fun h => K (.ret (.tup [])) h)
theorem gH.eq (F : List (FuncId × aE)) (S : List (FuncId × Con)) (t0 : AV) (h : List AObj) (K : AOut → List AObj → Prop) : funW (ctx F S gH.loops) Tryz.f53 [t0] h K = gH.H (ctx F S gH.loops) t0 h K := by kernel_rfl
theorem eQ.eq (F : List (FuncId × aE)) (S : List (FuncId × Con)) (t0 t1 : AV) (h : List AObj) (K : AOut → List AObj → Prop) : funW (ctx F S eQ.loops) Tryz.f115 [t0, t1] h K = eQ.H (ctx F S eQ.loops) t0 t1 h K := by kernel_rfl
theorem eV.eq (F : List (FuncId × aE)) (S : List (FuncId × Con)) (t0 : AV) (h : List AObj) (K : AOut → List AObj → Prop) : funW (ctx F S eV.loops) Tryz.f116 [t0] h K = eV.H (ctx F S eV.loops) t0 h K := by kernel_rfl
theorem fQ.eq (F : List (FuncId × aE)) (S : List (FuncId × Con)) (Is : List (FuncId × (Con → Con))) (t0 : AV) (h : List AObj) (K : AOut → List AObj → Prop) : funW (ctxI F S Is fQ.loops) Tryz.f117 [t0] h K = fQ.H (ctxI F S Is fQ.loops) t0 h K := by kernel_rfl
theorem fX.eq (F : List (FuncId × aE)) (S : List (FuncId × Con)) (t0 : AV) (h : List AObj) (K : AOut → List AObj → Prop) : funW (ctx F S fX.loops) Tryz.f125 [t0] h K = fX.H (ctx F S fX.loops) t0 h K := by kernel_rfl
theorem dY.eq (F : List (FuncId × aE)) (S : List (FuncId × Con)) (l : Nat) (Y : Con) (t0 t1 : AV) (h : List AObj) (K : AOut → List AObj → Prop) : funW ((ctx F S dY.loops).withY l Y) Tryz.f141 [t0, t1] h K = dY.H ((ctx F S dY.loops).withY l Y) t0 t1 h K := by kernel_rfl
theorem gH.at : Tryz.prog.funcs[53]? = some Tryz.f53 := by kernel_rfl
theorem gH.nm : (Tryz.f53.name == "runtime.NumGoroutine") = false := by kernel_rfl
theorem gH.bd : Tryz.f53.body.isNone = false := by kernel_rfl
theorem eQ.at : Tryz.prog.funcs[115]? = some Tryz.f115 := by kernel_rfl
theorem eQ.nm : (Tryz.f115.name == "runtime.NumGoroutine") = false := by kernel_rfl
theorem eQ.bd : Tryz.f115.body.isNone = false := by kernel_rfl
theorem eV.at : Tryz.prog.funcs[116]? = some Tryz.f116 := by kernel_rfl
theorem eV.nm : (Tryz.f116.name == "runtime.NumGoroutine") = false := by kernel_rfl
theorem eV.bd : Tryz.f116.body.isNone = false := by kernel_rfl
theorem fQ.at : Tryz.prog.funcs[117]? = some Tryz.f117 := by kernel_rfl
theorem fQ.nm : (Tryz.f117.name == "runtime.NumGoroutine") = false := by kernel_rfl
theorem fQ.bd : Tryz.f117.body.isNone = false := by kernel_rfl
theorem fX.at : Tryz.prog.funcs[125]? = some Tryz.f125 := by kernel_rfl
theorem fX.nm : (Tryz.f125.name == "runtime.NumGoroutine") = false := by kernel_rfl
theorem fX.bd : Tryz.f125.body.isNone = false := by kernel_rfl
theorem dY.at : Tryz.prog.funcs[141]? = some Tryz.f141 := by kernel_rfl
theorem dY.nm : (Tryz.f141.name == "runtime.NumGoroutine") = false := by kernel_rfl
theorem dY.bd : Tryz.f141.body.isNone = false := by kernel_rfl
end Lam
namespace Lam
open Go Go.Proofs
theorem aGA (c : Ctx) (id : Nat) (r : Loop) (J : AV → AV → List AObj → Prop) (K : AOut → List AObj → Prop) (p : bD) (hp : p.length ≤ 7) (v k : Nat) (s : bD) (xs : List Int)
    (hJ : J (.ptr 0 []) (.int .i64 (pw p : Nat)) [.box (.sref false 2 v 0 k), .box (.str s), .row .own v (.ints .i64 xs), .lp .busy none r]) :
    fQ.L1 c id r J K [.int .i64 0, .int .i64 0] [.box (.sref false 2 v 0 k), .box (.str s), .row .own v (.ints .i64 xs), .lp .busy none r] 4 (.ptr 0 []) (.str p) (.int .i64 p.length) := by
  unfold fQ.L1
  refine ⟨fun m lv h' => ∃ j : Nat, j + m = p.length ∧ lv = [.int .i64 (pv (p.take j) * 256 ^ (7 - j) : Nat), .int .i64 j] ∧ h' = [.box (.sref false 2 v 0 k), .box (.str s), .row .own v (.ints .i64 xs), .lp .busy none r],
    ⟨p.length, 0, by omega, by simp [pv], rfl⟩, ?_⟩
  rintro m h' t4 t11 ⟨j, hj, hlv, rfl⟩
  simp only [List.cons.injEq, and_true] at hlv
  obtain ⟨rfl, rfl⟩ := hlv
  simp only [go_sem, reduceEqDiff, Nat.reduceLT, reduceAdd, reduceSub, reduceLeDiff, reduceReplicate, reduceToNat]
  refine ⟨fun hlt => ?_, fun hge => ?_⟩
  · have hjp : j < p.length := by omega
    have e1 : IntKind.i64.wrap (6 - (j : Int)) = 6 - j := w64 (by omega) (by omega)
    refine ⟨by omega, by rw [e1, w64 (by omega) (by omega)]; omega, m - 1, by omega, j + 1, by omega, ?_⟩
    rw [aMW p hp hjp, w64 (by omega) (by omega)]
    rfl
  · have : j = p.length := by omega
    subst this
    rw [List.take_length] at *
    exact hJ

def dY.I : Con → Con := fun Y args h K => match args with
  | [.fn (.yield l) [] [], a0] => dY.H ((ctx [] [] dY.loops).withY l Y) (.fn (.yield l) [] []) a0 h K
  | _ => False
theorem dY.spec : sX Tryz.prog 141 dY.I := by
  refine sX.of (bQ (F := []) (S := []) (by simp) (by simp) dY.loops).toOkI dY.at dY.nm dY.bd ?_
  intro Yc l cap h K hC
  unfold dY.I at hC
  split at hC
  · rename_i e
    simp only [List.cons.injEq, AV.fn.injEq, Fn.yield.injEq, and_true, true_and] at e
    obtain ⟨rfl, rfl⟩ := e
    rw [dY.eq]; exact hC
  · exact hC.elim
def fX.K : Con := fun args h K => match args with
  | [a0] => fX.H (ctx [] [] fX.loops) a0 h K
  | _ => False
theorem fX.spec : cP Tryz.prog 125 fX.K := by
  refine cP.of (bQ (F := []) (S := []) (by simp) (by simp) fX.loops) fX.at fX.nm fX.bd ?_
  intro args h K hC
  unfold fX.K at hC
  split at hC
  · rw [fX.eq]; exact hC
  · exact hC.elim
def fQ.C : aE
  | [.str s] => some (false, pD (roomy s.length) (.sl false (.ints .i64 (keyW s))))
  | _ => none
theorem fQ.spec : bN Tryz.prog 117 fQ.C := by
  refine bN.of (aDU (F := []) (S := [(125, fX.K)]) (Is := [(141, dY.I)]) (by simp) (by simpa using fX.spec) (by simpa using dY.spec) fQ.loops) fQ.at fQ.nm fQ.bd ?_
  intro vs b S v news e hS
  unfold fQ.C at e
  split at e
  rotate_left
  · cases e
  cases e
  rw [fQ.eq]
  unfold fQ.H
  simp (maxSteps := 4000000) only [go_sem, reduceEqDiff, Nat.reduceLT, reduceAdd, reduceSub, reduceLeDiff, reduceReplicate, reduceToNat, fX.K, fX.H, dY.I, dY.H, aA]
  rename_i s
  unfold roomy at hS
  intro l r
  unfold dY.L1
  refine ⟨fun m lv h' => ∃ k v : Nat, k + m = iN s ∧ h' = [.box (.sref false 2 v 0 k), .box (.str (s.drop (7*k))), .row .own v (.ints .i64 ((keyW s).take k)), .lp .ready none r], ⟨iN s, 0, 0, by omega, by simp⟩, ?_⟩
  rintro m h' ⟨k, v, hk, rfl⟩
  have hwl : (keyW s).length = iN s := by simp [keyW]
  have hnp : iN s = (s.length + 6) / 7 := rfl
  have hacc : ((keyW s).take k).length = k := by simp; omega
  simp only [go_sem, reduceEqDiff, Nat.reduceLT, reduceAdd, reduceSub, reduceLeDiff, reduceReplicate, reduceToNat, List.length_drop]
  refine ⟨fun hlt => ?_, fun hge => ?_⟩
  · have hn : (if ((s.length - 7 * k : Nat) : Int) < 7 then ((s.length - 7 * k : Nat) : Int) else 7) = ((min 7 (s.length - 7 * k) : Nat) : Int) := by split <;> omega
    simp only [hn, Int.toNat_natCast]
    have hpc : (s.drop (7 * k)).take (min 7 (s.length - 7 * k)) = pB s k := by
      unfold pB
      rcases Nat.lt_or_ge (s.length - 7 * k) 7 with h | h
      · rw [Nat.min_eq_right (by omega), List.take_of_length_le (by simp), List.take_of_length_le (by simp; omega)]
      · rw [Nat.min_eq_left (by omega)]
    rw [hpc]
    have hpl : (pB s k).length ≤ 7 := by unfold pB; simp; omega
    refine ⟨by omega, aGA _ _ _ _ _ _ hpl _ _ _ _ ?_⟩
    simp only [go_sem, reduceEqDiff, Nat.reduceLT, reduceAdd, reduceSub, reduceLeDiff, reduceReplicate, reduceToNat, hacc]
    have hkn : k < iN s := by omega
    have hnext : (keyW s).take (k + 1) = (keyW s).take k ++ [(pw (pB s k) : Int)] := by
      rw [iH _ k 0 (by omega), aJk s hkn]
    have hd : (s.drop (7 * k)).drop (min 7 (s.length - 7 * k)) = s.drop (7 * (k + 1)) := by
      rw [List.drop_drop]
      rcases Nat.lt_or_ge (s.length - 7 * k) 7 with h | h
      · rw [List.drop_eq_nil_of_le (by omega), List.drop_eq_nil_of_le (by omega)]
      · congr 1; omega
    have hl1 : ((keyW s).take (k + 1)).length = k + 1 := by simp; omega
    rw [← hnext, hd, hl1]
    refine ⟨by unfold roomy; omega, by simp; omega, m - 1, by omega, k + 1, v + 1, by omega, rfl⟩
  · have : k = iN s := by omega
    subst this
    rw [List.take_of_length_le (by omega)]
    refine aH ?_ rfl
    have := hacc
    rw [List.take_of_length_le (by omega)] at this
    simp only [go_sem, reduceEqDiff, Nat.reduceLT, reduceAdd, reduceSub, reduceLeDiff, reduceReplicate, reduceToNat, List.take_of_length_le (Nat.le_of_eq hwl)]
def aBh (l : List Int) (n : Int) : AV := .tup [.str (if nT l n = true then wL l n else []), .int .i64 (if nT l n = true then 0 else 20)]
@[go_sem] theorem aSk (l : List Int) (n : Int) : (aBh l n).noSl = true := (rfl)
theorem aCf {l : List Int} {n : Int} (hb : nT l n = false) (h : List AObj) : Post false (aBh l n) [] (.ret (.tup [.str [], .int .i64 20])) h := by
  unfold aBh; rw [hb]; exact aH rfl rfl
def eQ.C : aE
  | [.sl _ (.ints .i64 l), .int .i64 n] => some (false, pD (roomy (7 * l.length) ∧ n < 9223372036854775808) (aBh l n))
  | _ => none
theorem aHG (c : Ctx) (J : AV → AV → AV → AV → AV → List AObj → Prop) (K : AOut → List AObj → Prop) (n w : Int) (l pre : List Int) (v k len : Nat) (hr : pre.length + 7 ≤ 1099511627776)
    (hJ : J (.int .i64 n) (.sref false 0 (v + 7) 0 (pre.length + 7)) (.sl false (.ints .i64 l)) (.int .i64 len) (.int .i64 k) [.row .own (v + 7) (.ints .u8 (pre ++ rQ w))]) :
    eQ.L2 c J K [.sref false 0 v 0 pre.length, .int .i64 0] [.row .own v (.ints .u8 pre)] 1 (.int .i64 n) (.int .i64 w) (.sl false (.ints .i64 l)) (.int .i64 len) (.int .i64 k) := by
  unfold eQ.L2
  refine ⟨fun m lv h' => ∃ j : Nat, j + m = 7 ∧ lv = [.sref false 0 (v + j) 0 (pre.length + j), .int .i64 j] ∧ h' = [.row .own (v + j) (.ints .u8 (pre ++ (List.range j).map (rP w)))],
    ⟨7, 0, by omega, by simp, by simp⟩, ?_⟩
  rintro m h' t6 t41 ⟨j, hj, hlv, rfl⟩
  simp only [List.cons.injEq, and_true] at hlv
  obtain ⟨rfl, rfl⟩ := hlv
  have hlen : (pre ++ (List.range j).map (rP w)).length = pre.length + j := by simp
  simp only [go_sem, reduceEqDiff, Nat.reduceLT, reduceAdd, reduceSub, reduceLeDiff, reduceReplicate, reduceToNat, hlen]
  refine ⟨fun hlt => ?_, fun hge => ?_⟩
  · have e1 : IntKind.i64.wrap (6 - (j : Int)) = 6 - j := w64 (by omega) (by omega)
    have e2 : IntKind.i64.wrap (8 * (6 - (j : Int))) = 8 * (6 - j) := w64 (by omega) (by omega)
    have e3 : (8 * (6 - (j : Int))).toNat = 8 * (6 - j) := by omega
    have e4 : min (8 * (6 - j)) 64 = 8 * (6 - j) := by omega
    simp only [e1, e2, e3, e4]
    have hz : (List.range j).map (rP w) ++ [IntKind.u8.wrap (w.fdiv (2 ^ (8 * (6 - j))))] = (List.range (j + 1)).map (rP w) := by rw [List.range_succ]; simp [rP]
    have hl2 : (pre ++ (List.range (j + 1)).map (rP w)).length = pre.length + (j + 1) := by simp
    rw [hz, hl2, w64 (by omega) (by omega)]
    exact ⟨by omega, by unfold roomy; omega, m - 1, by omega, j + 1, by omega, rfl, rfl⟩
  · have : j = 7 := by omega
    subst this
    exact hJ

theorem eQ.spec : bN Tryz.prog 115 eQ.C := by
  refine bN.of (bQ (F := []) (S := []) (by simp) (by simp) eQ.loops) eQ.at eQ.nm eQ.bd ?_
  intro vs b S v news e hS
  unfold eQ.C at e
  split at e
  rotate_left
  · cases e
  cases e
  rw [eQ.eq]
  unfold eQ.H
  simp (maxSteps := 4000000) only [go_sem, reduceEqDiff, Nat.reduceLT, reduceAdd, reduceSub, reduceLeDiff, reduceReplicate, reduceToNat]
  rename_i l n
  unfold roomy at hS
  obtain ⟨hS, hn63⟩ := hS
  refine ⟨fun _ => by decide, fun hb => aCf ?_ _, fun hb => ?_⟩
  · have hb : (!decide (n < 0) && decide ((l.length : Int) = lenT n)) = false := by
      unfold lenT
      revert hb
      cases decide (n < 0) <;> simp
    unfold nT
    rw [hb]; rfl
  have hb1 : ¬ n < 0 := by intro h; simp [h] at hb
  have hb2 : (l.length : Int) = lenT n := by
    rw [decide_eq_false hb1, Bool.false_or, Bool.not_eq_false', decide_eq_true_eq] at hb
    exact hb
  have e7 : IntKind.i64.wrap (7 * (l.length : Int)) = ((7 * l.length : Nat) : Int) := by rw [w64 (by omega) (by omega)]; omega
  refine ⟨⟨by omega, by rw [e7]; omega, by rw [e7, Int.toNat_natCast]; exact hS⟩, ?_⟩
  rw [aA]
  unfold eQ.L1
  refine ⟨fun m lv h' => ∃ k v : Nat, k + m = l.length ∧ lv = [.sref false 0 v 0 (7 * k), .int .i64 k] ∧ h' = [.row .own v (.ints .u8 (jV (l.take k)))] ∧ (l.take k).all wMay = true,
    ⟨l.length, 0, 0, by omega, rfl, rfl, rfl⟩, ?_⟩
  rintro m h' t6 t31 ⟨k, v, hk, hlv, rfl, hall⟩
  simp only [List.cons.injEq, and_true] at hlv
  obtain ⟨rfl, rfl⟩ := hlv
  have hfl : (jV (l.take k)).length = 7 * k := by rw [aKA, List.length_take, Nat.min_eq_left (by omega)]
  simp only [go_sem, reduceEqDiff, Nat.reduceLT, reduceAdd, reduceSub, reduceLeDiff, reduceReplicate, reduceToNat, hfl]
  refine ⟨fun hlt => ?_, fun hge => ?_⟩
  · have hkl : k < l.length := by omega
    rw [aA]
    refine ⟨by omega, fun hbad => aCf ?_ _, fun hok => ?_⟩
    · have : l.all wMay = false := by
        rw [List.all_eq_false]
        refine ⟨_, lJ l k 0 hkl, fun h => ?_⟩
        simp only [wMay, Bool.and_eq_true, decide_eq_true_eq] at h
        simp only [Bool.or_eq_true, decide_eq_true_eq] at hbad
        omega
      simp [nT, this]
    · have hw : wMay (l.getD k 0) = true := by
        simp only [Bool.or_eq_false_iff, decide_eq_false_iff_not] at hok
        simp only [wMay, Bool.and_eq_true, decide_eq_true_eq]; omega
      rw [aA]
      have hL2 := aHG (ctx [] [] eQ.loops)
      rw [← hfl]
      refine hL2 _ _ _ _ _ _ _ _ _ (by rw [hfl]; omega) ?_
      have hnx : jV (l.take k) ++ rQ (l.getD k 0) = jV (l.take (k + 1)) := by
        rw [iH l k 0 hkl]; simp [jV]
      rw [hnx, hfl]
      simp only [go_sem, reduceEqDiff, Nat.reduceLT, reduceAdd, reduceSub, reduceLeDiff, reduceReplicate, reduceToNat]
      have hmx : ¬ (False) := id
      refine ⟨m - 1, by omega, k + 1, v + 7, by omega, by rw [w64 (by omega) (by omega)]; rfl, rfl, ?_⟩
      rw [iH l k 0 hkl, List.all_append, hall, Bool.true_and, List.all_cons, hw]
      rfl
  · have : k = l.length := by omega
    subst this
    rw [List.take_length] at *
    obtain ⟨N, rfl⟩ : ∃ N : Nat, n = N := ⟨n.toNat, by omega⟩
    have hN : (l.length : Int) = ((N + 6) / 7 : Nat) := by rw [hb2, aGp N (by omega)]
    refine ⟨by omega, ?_⟩
    rw [aA, Int.toNat_natCast]
    unfold eQ.L3
    refine ⟨fun m lv h' => ∃ j : Nat, j + m = 7 * l.length - N ∧ lv = [.int .i64 j] ∧ h' = [.row .own v (.ints .u8 (jV l))] ∧ ∀ i, i < j → (jV l).getD (N + i) 0 = 0,
      ⟨_, 0, Nat.zero_add _, rfl, rfl, fun i hi => by omega⟩, ?_⟩
    rintro m h' t59 ⟨j, hj, hlv, rfl, hz⟩
    simp only [List.cons.injEq, and_true] at hlv
    subst hlv
    simp only [go_sem, reduceEqDiff, Nat.reduceLT, reduceAdd, reduceSub, reduceLeDiff, reduceReplicate, reduceToNat, hfl]
    refine ⟨fun hlt => ⟨by omega, by omega, fun h0 => aCf ?_ _, fun h0 => ?_⟩, fun hge => ⟨by omega, ?_⟩⟩
    · have : ((jV l).drop N).all (fun b => decide (b = 0)) = false := by
        rw [List.all_eq_false]
        have hjl : j < ((jV l).drop N).length := by rw [List.length_drop, hfl]; omega
        have e : ((jV l).drop N).getD j 0 = (jV l).getD (N + j) 0 := by rw [List.getD_eq_getElem?_getD, List.getD_eq_getElem?_getD, List.getElem?_drop]
        exact ⟨_, lJ _ j 0 hjl, by rw [e]; simpa using h0⟩
      simp [nT, this]
    · refine ⟨m - 1, by omega, j + 1, by omega, by rw [w64 (by omega) (by omega)]; rfl, fun i hi => ?_⟩
      by_cases e : i = j
      · subst e; exact h0
      · exact hz i (by omega)
    · have hj2 : j = 7 * l.length - N := by omega
      have hzero : ((jV l).drop N).all (fun b => decide (b = 0)) = true := by
        rw [List.all_eq_true]
        intro b hb
        obtain ⟨i, hi, rfl⟩ := List.getElem_of_mem hb
        rw [List.length_drop, hfl] at hi
        have := hz i (by omega)
        rw [List.getD_eq_getElem?_getD, List.getElem?_eq_getElem (by rw [hfl]; omega)] at this
        rw [List.getElem_drop]
        simpa using this
      have hB : nT l N = true := by
        unfold nT
        rw [hall, Int.toNat_natCast, hzero, decide_eq_false hb1, decide_eq_true hb2]; rfl
      unfold aBh wL
      simp only [hB, if_true]
      exact aH rfl rfl
def gH.C : aE
  | [.str s] => some (false, pD True (.bool (decide (s ≠ []) && decide ((s.length : Int) ≤ 21))))
  | _ => none
theorem gH.spec : bN Tryz.prog 53 gH.C := by
  refine bN.of (bQ (F := []) (S := []) (by simp) (by simp) gH.loops) gH.at gH.nm gH.bd ?_
  intro vs b S v news e hS
  unfold gH.C at e
  split at e
  rotate_left
  · cases e
  cases e
  rw [gH.eq]
  unfold gH.H
  simp (maxSteps := 4000000) only [go_sem, reduceEqDiff, Nat.reduceLT, reduceAdd, reduceSub, reduceLeDiff, reduceReplicate, reduceToNat]
  rename_i s
  have : (decide ¬s = []) = !decide (s = []) := by by_cases h : s = [] <;> simp [h]
  rw [this]
  exact aH rfl rfl
def eV.C : aE
  | [.str s] => some (false, pD True (.bool (decide ((s.length : Int) ≤ 21))))
  | _ => none
theorem eV.spec : bN Tryz.prog 116 eV.C := by
  refine bN.of (bQ (F := []) (S := []) (by simp) (by simp) eV.loops) eV.at eV.nm eV.bd ?_
  intro vs b S v news e hS
  unfold eV.C at e
  split at e
  rotate_left
  · cases e
  cases e
  rw [eV.eq]
  unfold eV.H
  simp (maxSteps := 4000000) only [go_sem, reduceEqDiff, Nat.reduceLT, reduceAdd, reduceSub, reduceLeDiff, reduceReplicate, reduceToNat]
  exact aH rfl rfl
end Lam
namespace Lam
open Go Go.Proofs
def dW.loops : Nat → bU
 | 1 => ⟨[], [], [], [(3, none), (5, some [11, 16])], [], []⟩
 | _ => ⟨[], [], [], [], [], []⟩
def dW.H (c : Ctx) (t0 : AV) (t1 : AV) (h : List AObj) (K : AOut → List AObj → Prop) : Prop :=
 cS aJ h fun t4 h =>
 runD (binD aB .lss t1 (.int .i64 0)) h fun t10 h =>
 aL (fun (J1 : AV → AV → List AObj → Prop) =>
 bF t10 false
 (runD (lenD aK h t0) h fun t14 h =>
 runD (binD aB .quo t14 (.int .i64 16)) h fun t15 h =>
 runD (binD aB .geq t1 t15) h fun t16 h =>
 J1 (.bool false) t16 h)
 (J1 (.bool true) .und h))
 (fun t11 t16 h => runD (bT t11 (.bool true) t16) h fun t17 h =>
 bE t17
 (runD (gY aJ []) h fun t18 h =>
 runH (aR aJ h t4 t18) h fun _ h =>
 dA (fitD aJ (aD h t4)) fun r0 => K (.ret (.tup [r0, (.int .i64 1)])) h)
 (cS dT h fun t6 h =>
 runD (eH dT h t6 none none none) h fun t19 h =>
 runD (binD aB .mul (.int .i64 16) t1) h fun t22 h =>
 runD (eH aK h t0 (some t22) none none) h fun t23 h =>
 runM (mA aK h t19 t23) h fun t24 h =>
 runD (aG dT h t6 (.int .i64 0)) h fun t25 h =>
 runD (fitD aB (aD h t25)) h fun t26 h =>
 runD (gY aJ [(0, t26)]) h fun t27 h =>
 cS aJ h fun t7 h =>
 runH (aR aJ h t7 t27) h fun _ h =>
 runD (fitD dT (aD h t6)) h fun t29 h =>
 runD (aG dT h t6 (.int .i64 1)) h fun t30 h =>
 runD (fitD aB (aD h t30)) h fun t31 h =>
 runD (binD aB .quo t31 (.int .i64 32)) h fun t32 h =>
 aP false c (.fn (.func 99) [] []) [t29, (.int .i64 3), t32] h (fun t33 h =>
 runD (aW t33 0) h fun t34 h =>
 runD (aW t33 1) h fun t35 h =>
 runD (aC aJ t7 1) h fun t36 h =>
 runH (aR cE h t36 t34) h fun _ h =>
 runD (unD .not t35) h fun t38 h =>
 bE t38
 (runD (gY aJ []) h fun t39 h =>
 runH (aR aJ h t4 t39) h fun _ h =>
 dA (fitD aJ (aD h t4)) fun r0 => K (.ret (.tup [r0, (.int .i64 70)])) h)
 (runD (aC aJ t7 0) h fun t40 h =>
 runD (fitD aB (aD h t40)) h fun t41 h =>
 runD (binD aB .eql t41 (.int .i64 1)) h fun t43 h =>
 aL (fun (J2 : AV → List AObj → Prop) =>
 bE t43
 (runD (fitD dT (aD h t6)) h fun t45 h =>
 runD (aG dT h t6 (.int .i64 1)) h fun t46 h =>
 runD (fitD aB (aD h t46)) h fun t47 h =>
 runD (binD aB .rem t47 (.int .i64 32)) h fun t48 h =>
 aP false c (.fn (.func 99) [] []) [t45, (.int .i64 6), t48] h (fun t49 h =>
 runD (aW t49 0) h fun t50 h =>
 runD (aW t49 1) h fun t51 h =>
 runD (aC aJ t7 2) h fun t52 h =>
 runH (aR cE h t52 t50) h fun _ h =>
 J2 t51 h)
 (fun v h => K (.pan v) h))
 (runD (binD aB .eql t41 (.int .i64 2)) h fun t54 h =>
 aL (fun (J3 : List AObj → Prop) =>
 bE t54
 (runD (aG dT h t6 (.int .i64 6)) h fun t55 h =>
 runD (fitD aB (aD h t55)) h fun t56 h =>
 runD (aC aJ t7 3) h fun t57 h =>
 runH (aR aB h t57 t56) h fun _ h =>
 J3 h)
 (J3 h))
 (fun h => J2 t35 h)))
 (fun t8 h => runD (unD .not t8) h fun t59 h =>
 aL (fun (J4 : AV → AV → List AObj → Prop) =>
 bF t59 false
 (runD (fitD aJ (aD h t7)) h fun t61 h =>
 aP false c.noS (.fn (.func 100) [] []) [t61] h (fun t62 h =>
 runD (unD .not t62) h fun t63 h =>
 J4 (.bool false) t63 h)
 (fun _ _ => False))
 (J4 (.bool true) .und h))
 (fun t60 t63 h => runD (bT t60 (.bool true) t63) h fun t64 h =>
 aL (fun (J5 : AV → AV → List AObj → Prop) =>
 bF t64 false
 (runD (fitD aJ (aD h t7)) h fun t66 h =>
 aP false c.noS (.fn (.func 101) [] []) [t66] h (fun t67 h =>
 runD (fitD dT (aD h t6)) h fun t68 h =>
 runD (binD dT .neq t67 t68) h fun t69 h =>
 J5 (.bool false) t69 h)
 (fun _ _ => False))
 (J5 (.bool true) .und h))
 (fun t65 t69 h => runD (bT t65 (.bool true) t69) h fun t70 h =>
 bE t70
 (runD (gY aJ []) h fun t71 h =>
 runH (aR aJ h t4 t71) h fun _ h =>
 dA (fitD aJ (aD h t4)) fun r0 => K (.ret (.tup [r0, (.int .i64 70)])) h)
 (runD (fitD aJ (aD h t7)) h fun t72 h =>
 runH (aR aJ h t4 t72) h fun _ h =>
 dA (fitD aJ (aD h t4)) fun r0 => K (.ret (.tup [r0, (.int .i64 0)])) h))))))
 (fun v h => K (.pan v) h)))
def iL.loops : Nat → bU
 | 1 => ⟨[], [], [], [(3, none), (2, some [12, 14])], [], []⟩
 | _ => ⟨[], [], [], [], [], []⟩
def iL.H (c : Ctx) (t0 : AV) (t1 : AV) (t2 : AV) (h : List AObj) (K : AOut → List AObj → Prop) : Prop :=
 boxW dT t0 h fun t3 h =>
 runD (binD aB .lss t2 (.int .i64 0)) h fun t11 h =>
 aL (fun (J1 : AV → AV → List AObj → Prop) =>
 bF t11 false
 (runD (binD aB .gtr t2 (.int .i64 21)) h fun t14 h =>
 J1 (.bool false) t14 h)
 (J1 (.bool true) .und h))
 (fun t12 t14 h => runD (bT t12 (.bool true) t14) h fun t15 h =>
 bE t15
 (K (.ret (.tup [(.str []), (.bool false)])) h)
 (runD (binD aB .add t2 (.int .i64 6)) h fun t20 h =>
 runD (binD aB .quo t20 (.int .i64 7)) h fun t21 h =>
 runD (binD aB .add t1 t21) h fun t22 h =>
 runD (eH dT h t3 (some t1) (some t22) none) h fun t23 h =>
 aP false c (.fn (.func 115) [] []) [t23, t2] h (fun t25 h =>
 runD (aW t25 0) h fun t26 h =>
 runD (aW t25 1) h fun t27 h =>
 runD (binD cN .eql t27 (.int .i64 0)) h fun t30 h =>
 K (.ret (.tup [t26, t30])) h)
 (fun v h => K (.pan v) h)))
def fH.loops : Nat → bU
 | 3 => ⟨[], [], [], [(4, none), (3, some [10, 13]), (2, none), (3, some [15, 18])], [], []⟩
 | 5 => ⟨[], [], [], [(4, none), (3, some [25, 28]), (2, none), (3, some [30, 33]), (2, none), (3, some [35, 38]), (2, none), (3, some [40, 43])], [], []⟩
 | _ => ⟨[], [], [], [], [], []⟩
def fH.H (c : Ctx) (t0 : AV) (h : List AObj) (K : AOut → List AObj → Prop) : Prop :=
 boxW aJ t0 h fun t1 h =>
 runD (aC aJ t1 0) h fun t3 h =>
 runD (fitD aB (aD h t3)) h fun t4 h =>
 runD (binD aB .eql t4 (.int .i64 1)) h fun t6 h =>
 bE t6
 (runD (aC aJ t1 1) h fun t7 h =>
 runD (fitD cE (aD h t7)) h fun t8 h =>
 aP false c (.fn (.func 53) [] []) [t8] h (fun t9 h =>
 aL (fun (J1 : AV → AV → List AObj → Prop) =>
 bF t9 true
 (runD (aC aJ t1 2) h fun t11 h =>
 runD (fitD cE (aD h t11)) h fun t12 h =>
 aP false c (.fn (.func 116) [] []) [t12] h (fun t13 h =>
 J1 (.bool true) t13 h)
 (fun v h => K (.pan v) h))
 (J1 (.bool false) .und h))
 (fun t10 t13 h => runD (bT t10 t13 (.bool false)) h fun t14 h =>
 aL (fun (J2 : AV → AV → List AObj → Prop) =>
 bF t14 true
 (runD (aC aJ t1 3) h fun t16 h =>
 runD (fitD aB (aD h t16)) h fun t17 h =>
 runD (binD aB .eql t17 (.int .i64 0)) h fun t18 h =>
 J2 (.bool true) t18 h)
 (J2 (.bool false) .und h))
 (fun t15 t18 h => runD (bT t15 t18 (.bool false)) h fun t19 h =>
 K (.ret t19) h)))
 (fun v h => K (.pan v) h))
 (runD (binD aB .eql t4 (.int .i64 2)) h fun t21 h =>
 bE t21
 (runD (aC aJ t1 1) h fun t22 h =>
 runD (fitD cE (aD h t22)) h fun t23 h =>
 runD (binD cE .eql t23 (.str [])) h fun t24 h =>
 aL (fun (J3 : AV → AV → List AObj → Prop) =>
 bF t24 false
 (runD (aC aJ t1 1) h fun t26 h =>
 runD (fitD cE (aD h t26)) h fun t27 h =>
 aP false c (.fn (.func 53) [] []) [t27] h (fun t28 h =>
 J3 (.bool false) t28 h)
 (fun v h => K (.pan v) h))
 (J3 (.bool true) .und h))
 (fun t25 t28 h => runD (bT t25 (.bool true) t28) h fun t29 h =>
 aL (fun (J4 : AV → AV → List AObj → Prop) =>
 bF t29 true
 (runD (aC aJ t1 2) h fun t31 h =>
 runD (fitD cE (aD h t31)) h fun t32 h =>
 runD (binD cE .eql t32 (.str [])) h fun t33 h =>
 J4 (.bool true) t33 h)
 (J4 (.bool false) .und h))
 (fun t30 t33 h => runD (bT t30 t33 (.bool false)) h fun t34 h =>
 aL (fun (J5 : AV → AV → List AObj → Prop) =>
 bF t34 true
 (runD (aC aJ t1 3) h fun t36 h =>
 runD (fitD aB (aD h t36)) h fun t37 h =>
 runD (binD aB .gtr t37 (.int .i64 0)) h fun t38 h =>
 J5 (.bool true) t38 h)
 (J5 (.bool false) .und h))
 (fun t35 t38 h => runD (bT t35 t38 (.bool false)) h fun t39 h =>
 aL (fun (J6 : AV → AV → List AObj → Prop) =>
 bF t39 true
 (runD (aC aJ t1 3) h fun t41 h =>
 runD (fitD aB (aD h t41)) h fun t42 h =>
 runD (binD aB .lss t42 (.int .i64 256)) h fun t43 h =>
 J6 (.bool true) t43 h)
 (J6 (.bool false) .und h))
 (fun t40 t43 h => runD (bT t40 t43 (.bool false)) h fun t44 h =>
 K (.ret t44) h)))))
 (K (.ret (.bool false)) h))
def jB.loops : Nat → bU
 | _ => ⟨[], [], [], [], [], []⟩
def jB.H (c : Ctx) (t0 : AV) (h : List AObj) (K : AOut → List AObj → Prop) : Prop :=
 boxW aJ t0 h fun t1 h =>
 cS dT h fun t2 h =>
 runD (aC aJ t1 0) h fun t4 h =>
 runD (fitD aB (aD h t4)) h fun t5 h =>
 runD (aC aJ t1 1) h fun t6 h =>
 runD (fitD cE (aD h t6)) h fun t7 h =>
 runD (lenD cE h t7) h fun t8 h =>
 runD (binD aB .mul (.int .i64 32) t8) h fun t9 h =>
 runD (aC aJ t1 2) h fun t10 h =>
 runD (fitD cE (aD h t10)) h fun t11 h =>
 runD (lenD cE h t11) h fun t12 h =>
 runD (binD aB .add t9 t12) h fun t13 h =>
 runD (gY dT [(0, t5), (1, t13)]) h fun t14 h =>
 cS dT h fun t3 h =>
 runH (aR dT h t3 t14) h fun _ h =>
 runD (eH dT h t3 (some (.int .i64 3)) none none) h fun t15 h =>
 runD (aC aJ t1 1) h fun t16 h =>
 runD (fitD cE (aD h t16)) h fun t17 h =>
 aP false c.noS (.fn (.func 117) [] []) [t17] h (fun t18 h =>
 runM (mA aK h t15 t18) h fun t19 h =>
 runD (eH dT h t3 (some (.int .i64 6)) none none) h fun t20 h =>
 runD (aC aJ t1 2) h fun t21 h =>
 runD (fitD cE (aD h t21)) h fun t22 h =>
 aP false c.noS (.fn (.func 117) [] []) [t22] h (fun t23 h =>
 runM (mA aK h t20 t23) h fun t24 h =>
 runD (aC aJ t1 0) h fun t25 h =>
 runD (fitD aB (aD h t25)) h fun t26 h =>
 runD (binD aB .eql t26 (.int .i64 2)) h fun t27 h =>
 aL (fun (J1 : List AObj → Prop) =>
 bE t27
 (runD (aC aJ t1 3) h fun t28 h =>
 runD (fitD aB (aD h t28)) h fun t29 h =>
 runD (aG dT h t3 (.int .i64 6)) h fun t30 h =>
 runH (aR aB h t30 t29) h fun _ h =>
 J1 h)
 (J1 h))
 (fun h => runD (fitD dT (aD h t3)) h fun t31 h =>
 aP false c (.fn (.func 118) [] []) [t31] h (fun t32 h =>
 runH (aR dT h t2 t32) h fun _ h =>
 dA (fitD dT (aD h t2)) fun r0 => K (.ret r0) h)
 (fun v h => K (.pan v) h)))
 (fun _ _ => False))
 (fun _ _ => False)
def gF.loops : Nat → bU
 | _ => ⟨[], [], [], [], [], []⟩
def gF.H (c : Ctx) (t0 : AV) (h : List AObj) (K : AOut → List AObj → Prop) : Prop :=
 boxW dT t0 h fun t1 h =>
 cS dT h fun t2 h =>
 runD (aG dT h t1 (.int .i64 0)) h fun t4 h =>
 runD (fitD aB (aD h t4)) h fun t5 h =>
 runD (aG dT h t1 (.int .i64 1)) h fun t6 h =>
 runD (fitD aB (aD h t6)) h fun t7 h =>
 runD (gC aK 2 [(0, t5), (1, t7)] h.length) h fun t8 h =>
 runD (eH dT h t1 (some (.int .i64 3)) none none) h fun t9 h =>
 kC (gS aK h t8 t9 h.length) (iC aK h t8 t9) h fun t10 h =>
 aP false c (.fn (.func 93) [] []) [t10] h (fun t12 h =>
 runD (aG dT h t1 (.int .i64 2)) h fun t13 h =>
 runH (aR aB h t13 t12) h fun _ h =>
 runD (fitD dT (aD h t1)) h fun t14 h =>
 runH (aR dT h t2 t14) h fun _ h =>
 dA (fitD dT (aD h t2)) fun r0 => K (.ret r0) h)
 (fun v h => K (.pan v) h)
theorem dW.eq (F : List (FuncId × aE)) (S : List (FuncId × Con)) (t0 t1 : AV) (h : List AObj) (K : AOut → List AObj → Prop) : funW (ctx F S dW.loops) Tryz.f79 [t0, t1] h K = dW.H (ctx F S dW.loops) t0 t1 h K := by kernel_rfl
theorem iL.eq (F : List (FuncId × aE)) (S : List (FuncId × Con)) (t0 t1 t2 : AV) (h : List AObj) (K : AOut → List AObj → Prop) : funW (ctx F S iL.loops) Tryz.f99 [t0, t1, t2] h K = iL.H (ctx F S iL.loops) t0 t1 t2 h K := by kernel_rfl
theorem fH.eq (F : List (FuncId × aE)) (S : List (FuncId × Con)) (t0 : AV) (h : List AObj) (K : AOut → List AObj → Prop) : funW (ctx F S fH.loops) Tryz.f100 [t0] h K = fH.H (ctx F S fH.loops) t0 h K := by kernel_rfl
theorem jB.eq (F : List (FuncId × aE)) (S : List (FuncId × Con)) (t0 : AV) (h : List AObj) (K : AOut → List AObj → Prop) : funW (ctx F S jB.loops) Tryz.f101 [t0] h K = jB.H (ctx F S jB.loops) t0 h K := by kernel_rfl
theorem gF.eq (F : List (FuncId × aE)) (S : List (FuncId × Con)) (t0 : AV) (h : List AObj) (K : AOut → List AObj → Prop) : funW (ctx F S gF.loops) Tryz.f118 [t0] h K = gF.H (ctx F S gF.loops) t0 h K := by kernel_rfl
theorem dW.at : Tryz.prog.funcs[79]? = some Tryz.f79 := by kernel_rfl
theorem dW.nm : (Tryz.f79.name == "runtime.NumGoroutine") = false := by kernel_rfl
theorem dW.bd : Tryz.f79.body.isNone = false := by kernel_rfl
theorem iL.at : Tryz.prog.funcs[99]? = some Tryz.f99 := by kernel_rfl
theorem iL.nm : (Tryz.f99.name == "runtime.NumGoroutine") = false := by kernel_rfl
theorem iL.bd : Tryz.f99.body.isNone = false := by kernel_rfl
theorem fH.at : Tryz.prog.funcs[100]? = some Tryz.f100 := by kernel_rfl
theorem fH.nm : (Tryz.f100.name == "runtime.NumGoroutine") = false := by kernel_rfl
theorem fH.bd : Tryz.f100.body.isNone = false := by kernel_rfl
theorem jB.at : Tryz.prog.funcs[101]? = some Tryz.f101 := by kernel_rfl
theorem jB.nm : (Tryz.f101.name == "runtime.NumGoroutine") = false := by kernel_rfl
theorem jB.bd : Tryz.f101.body.isNone = false := by kernel_rfl
theorem gF.at : Tryz.prog.funcs[118]? = some Tryz.f118 := by kernel_rfl
theorem gF.nm : (Tryz.f118.name == "runtime.NumGoroutine") = false := by kernel_rfl
theorem gF.bd : Tryz.f118.body.isNone = false := by kernel_rfl
end Lam
namespace Lam
open Go Go.Proofs
def fH.C : aE
  | [.agg [.int .i64 a, .str k, .str v, .int .i64 c]] => some (false, pD True (.bool (recB ⟨a, k, v, c⟩)))
  | _ => none
theorem fH.spec : bN Tryz.prog 100 fH.C := by
  refine bN.of (bQ (F := [(53, gH.C), (116, eV.C)]) (S := []) (by simpa using ⟨gH.spec, eV.spec⟩) (by simp) fH.loops) fH.at fH.nm fH.bd ?_
  intro vs b S v news e hS
  unfold fH.C at e
  split at e
  rotate_left
  · cases e
  cases e
  rw [fH.eq]
  unfold fH.H
  simp (maxSteps := 4000000) only [go_sem, reduceEqDiff, Nat.reduceLT, reduceAdd, reduceSub, reduceLeDiff, reduceReplicate, reduceToNat, gH.C, eV.C]
  rename_i a k v c
  have r1 : a = 1 → recB ⟨a, k, v, c⟩ = (decide (¬ k = []) && decide ((List.length k : Int) ≤ 21) && decide ((List.length v : Int) ≤ 21) && decide (c = 0)) := by
    rintro rfl
    unfold recB keyB
    rw [Bool.eq_iff_iff]
    simp [and_assoc]
  have r2 : a = 2 → recB ⟨a, k, v, c⟩ = ((decide (k = []) || decide (¬ k = []) && decide ((List.length k : Int) ≤ 21)) && decide (v = []) && decide (0 < c) && decide (c < 256)) := by
    rintro rfl
    unfold recB keyB
    rw [Bool.eq_iff_iff]
    simp [and_assoc]
  have r3 : ¬ a = 1 → ¬ a = 2 → recB ⟨a, k, v, c⟩ = false := by
    intro h1 h2
    unfold recB
    rw [decide_eq_false h1, decide_eq_false h2]; rfl
  refine ⟨fun h => ?_, fun h => ⟨fun h2 => ?_, fun h2 => ?_⟩⟩
  · rw [r1 h]; exact aH rfl rfl
  · rw [r2 h2]; exact aH rfl rfl
  · rw [r3 h h2]; exact aH rfl rfl
def gF.C : aE
  | [.arr (.ints .i64 l)] => some (false, pD (l.length = 16) (.arr (.ints .i64 (l.set 2 (aBd (l.getD 0 0 :: l.getD 1 0 :: l.drop 3))))))
  | _ => none
theorem gF.spec : bN Tryz.prog 118 gF.C := by
  refine bN.of (bQ (F := [(93, iP.C)]) (S := []) (by simpa using iP.spec) (by simp) gF.loops) gF.at gF.nm gF.bd ?_
  intro vs b S v news e hS
  unfold gF.C at e
  split at e
  rotate_left
  · cases e
  cases e
  rw [gF.eq]
  unfold gF.H
  simp (maxSteps := 4000000) only [go_sem, reduceEqDiff, Nat.reduceLT, reduceAdd, reduceSub, reduceLeDiff, reduceReplicate, reduceToNat, iP.C]
  rename_i l
  simp only [hS, iP.C, aA, gq, reduceEq, reduceLT, reduceLE, implies_true, reduceCtorEq, if_true, if_false, go_sem, reduceEqDiff, Nat.reduceLT, reduceAdd, reduceSub, reduceLeDiff, reduceReplicate, reduceToNat]
  have htk : (l.drop 3).take 13 = l.drop 3 := qU _ (by simp; omega)
  rw [htk]
  have : roomy ((l.drop 3).length + 1 + 1) := by unfold roomy; simp; omega
  exact ⟨this, this, aH rfl rfl⟩
def jB.C : aE
  | [.agg [.int .i64 a, .str k, .str v, .int .i64 c]] => some (false, pD (Rc.ok ⟨a, k, v, c⟩) (.arr (.ints .i64 (jE ⟨a, k, v, c⟩))))
  | _ => none
theorem jB.spec : bN Tryz.prog 101 jB.C := by
  refine bN.of (bQ (F := [(117, fQ.C), (118, gF.C)]) (S := []) (by simpa using ⟨fQ.spec, gF.spec⟩) (by simp) jB.loops) jB.at jB.nm jB.bd ?_
  intro vs b S v news e hS
  unfold jB.C at e
  split at e
  rotate_left
  · cases e
  cases e
  rw [jB.eq]
  unfold jB.H
  simp (maxSteps := 4000000) only [go_sem, reduceEqDiff, Nat.reduceLT, reduceAdd, reduceSub, reduceLeDiff, reduceReplicate, reduceToNat, fQ.C, gF.C]
  rename_i a k v c
  have hok := hS
  have hk := pC hS.key
  have hkl : (keyW k).length = (k.length + 6) / 7 := vS k
  have hvl : (keyW v).length = (v.length + 6) / 7 := vS v
  have q1 := hS.key
  have q2 := hS.val
  simp only at q1 q2 hk
  have e1 : IntKind.i64.wrap (IntKind.i64.wrap (32 * (List.length k : Int)) + (List.length v : Int)) = nC ⟨a, k, v, c⟩ := by
    rw [w64 (n := 32 * (List.length k : Int)) (by omega) (by omega), w64 (by omega) (by omega)]; rfl
  rw [e1]
  generalize hm : nC ⟨a, k, v, c⟩ = m at *
  have pad : ∀ (t : List Int), t.length ≤ 3 → t.take 13 ++ List.take (16 - (3 + min 13 t.length)) (List.drop (3 + min 13 t.length) [a, m, 0, 0, 0, 0, 0, 0, 0, 0, 0, 0, 0, 0, 0, 0]) = t ++ List.replicate (13 - t.length) 0 := by
    intro t ht
    rw [qU t (by omega), Nat.min_eq_right (by omega)]
    congr 1
    have : ∀ n, n ≤ 3 → List.take (16 - (3 + n)) (List.drop (3 + n) [a, m, 0, 0, 0, 0, 0, 0, 0, 0, 0, 0, 0, 0, 0, 0]) = List.replicate (13 - n) 0 := by
      intro n hn
      rcases n with _|_|_|_|n <;> first | rfl | omega
    exact this _ ht
  have hkl3 : (keyW k).length ≤ 3 := by omega
  have hvl3 : (keyW v).length ≤ 3 := by omega
  rw [pad _ hkl3]
  have hL : (keyW k ++ List.replicate (13 - (keyW k).length) 0).length = 13 := by simp; omega
  simp only [hL, fQ.C, aA, gq, reduceEq, reduceLT, reduceLE, implies_true, reduceCtorEq, if_true, if_false, go_sem, reduceEqDiff, Nat.reduceLT, reduceAdd, reduceSub, reduceLeDiff, reduceReplicate, reduceToNat]
  have hZ : List.take 3 (keyW k ++ List.replicate (13 - (keyW k).length) 0) = jZ k := by
    unfold jZ
    rw [List.take_append, qU (keyW k) hkl3, List.take_replicate, Nat.min_eq_left (by omega)]
  have hT : List.take 10 (keyW v) ++ List.take (16 - (6 + min 10 (keyW v).length)) (List.drop (6 + min 10 (keyW v).length) (a :: m :: 0 :: (keyW k ++ List.replicate (13 - (keyW k).length) 0))) = keyW v ++ List.replicate (10 - (keyW v).length) 0 := by
    rw [qU (keyW v) (by omega), Nat.min_eq_right (by omega)]
    congr 1
    rw [show 6 + (keyW v).length = (3 + (keyW v).length) + 1 + 1 + 1 from by omega, List.drop_succ_cons, List.drop_succ_cons, List.drop_succ_cons, List.drop_append, List.drop_eq_nil_of_le (by omega), List.nil_append, List.drop_replicate, List.take_replicate]
    congr 1; omega
  rw [hZ, hT]
  have hlen : (jZ k ++ (keyW v ++ List.replicate (10 - (keyW v).length) 0)).length = 13 := by simp [hk]; omega
  have hr1 : a ≠ 2 → jZ k ++ (keyW v ++ List.replicate (10 - (keyW v).length) 0) = wM ⟨a, k, v, c⟩ := by
    intro h
    unfold wM
    simp only [if_neg h]
    congr 1
    unfold jZ
    rw [List.append_assoc, List.replicate_append_replicate]
    congr 2; omega
  have hr2 : a = 2 → (jZ k ++ (keyW v ++ List.replicate (10 - (keyW v).length) 0)).set 3 c = wM ⟨a, k, v, c⟩ := by
    intro h
    have hv0 : v = [] := by
      rcases hok with h' | h'
      · have := h'.1; simp only at this; omega
      · exact h'.2.2.1
    subst hv0
    unfold wM
    simp only [if_pos h]
    rw [List.set_append_right _ _ (by omega), hk]
    rfl
  have hmr : m = nC ⟨a, k, v, c⟩ := hm.symm
  simp only [hlen, gF.C, aA, gq, reduceEq, reduceLT, reduceLE, implies_true, reduceCtorEq, if_true, if_false, go_sem, reduceEqDiff, Nat.reduceLT, reduceAdd, reduceSub, reduceLeDiff, reduceReplicate, reduceToNat]
  have hd3 : ∀ R : List Int, List.drop 3 (a :: m :: 0 :: R) = R := fun R => rfl
  refine ⟨by unfold roomy; omega, by unfold roomy; omega, fun h2 => ?_, fun h2 => ?_⟩
  · rw [hr2 h2, hd3, hmr]; exact aH rfl rfl
  · rw [hr1 h2, hd3, hmr]; exact aH rfl rfl
def iL.C : aE
  | [.arr (.ints .i64 l), .int .i64 a, .int .i64 n] => some (false, pD (l.length = 16 ∧ 0 ≤ a ∧ a ≤ 6) (.tup [.str (txtS l a.toNat n), .bool (txtB l a.toNat n)]))
  | _ => none
theorem iL.spec : bN Tryz.prog 99 iL.C := by
  refine bN.of (bQ (F := [(115, eQ.C)]) (S := []) (by simpa using eQ.spec) (by simp) iL.loops) iL.at iL.nm iL.bd ?_
  intro vs b S v news e hS
  unfold iL.C at e
  split at e
  rotate_left
  · cases e
  cases e
  rw [iL.eq]
  unfold iL.H
  simp (maxSteps := 4000000) only [go_sem, reduceEqDiff, Nat.reduceLT, reduceAdd, reduceSub, reduceLeDiff, reduceReplicate, reduceToNat, eQ.C]
  rename_i l a n
  obtain ⟨hl, ha0, ha6⟩ := hS
  have eg : (decide (n < 0) || decide (21 < n)) = !(decide (0 ≤ n) && decide (n ≤ 21)) := by
    rw [Bool.eq_iff_iff]; simp only [Bool.or_eq_true, Bool.not_eq_true', Bool.and_eq_false_iff, decide_eq_true_eq, decide_eq_false_iff_not]; omega
  rw [eg]
  refine ⟨hl, fun h => ?_, fun h => ?_⟩
  · have hb : txtB l a.toNat n = false := by
      unfold txtB; rw [Bool.not_eq_true'] at h; rw [h]; rfl
    unfold txtS
    rw [hb]; exact aH rfl rfl
  · rw [Bool.not_eq_false'] at h
    have h' := h
    simp only [Bool.and_eq_true, decide_eq_true_eq] at h'
    obtain ⟨N, rfl⟩ := Int.eq_ofNat_of_zero_le h'.1
    obtain ⟨A, rfl⟩ := Int.eq_ofNat_of_zero_le ha0
    have hN : N ≤ 21 := by omega
    have q0 : (N + 6) / 7 ≤ 3 := by omega
    have e1 : IntKind.i64.wrap ((N : Int) + 6) = ((N + 6 : Nat) : Int) := by rw [w64 (by omega) (by omega)]; omega
    have e2 : IntKind.i64.wrap (((N + 6 : Nat) : Int).tdiv 7) = (((N + 6) / 7 : Nat) : Int) := by
      rw [Int.tdiv_eq_ediv_of_nonneg (by omega), w64 (by omega) (by omega)]; omega
    have e3 : IntKind.i64.wrap ((A : Int) + (((N + 6) / 7 : Nat) : Int)) = ((A + (N + 6) / 7 : Nat) : Int) := by rw [w64 (by omega) (by omega)]; omega
    have e4 : A + (N + 6) / 7 - A = (N + 6) / 7 := by omega
    rw [e1, e2, e3]
    simp only [hl, Int.toNat_natCast, e4, eQ.C, aA, gq, reduceEq, reduceLT, reduceLE, implies_true, reduceCtorEq, if_true, if_false, go_sem, reduceEqDiff, Nat.reduceLT, reduceAdd, reduceSub, reduceLeDiff, reduceReplicate, reduceToNat]
    have hbt : txtB l A (N : Int) = nT ((l.drop A).take ((N + 6) / 7)) N := by
      unfold txtB
      rw [Int.toNat_natCast, h, Bool.true_and]
    have hst : txtS l A (N : Int) = if nT ((l.drop A).take ((N + 6) / 7)) N = true then wL ((l.drop A).take ((N + 6) / 7)) N else [] := by
      unfold txtS
      rw [hbt, Int.toNat_natCast]
    have hw : roomy (7 * (List.take ((N + 6) / 7) (List.drop A l)).length) := by rw [List.length_take]; unfold roomy; omega
    rw [hst, hbt]
    unfold aBh
    refine ⟨by omega, ⟨hw, by omega⟩, ?_⟩
    cases nT ((l.drop A).take ((N + 6) / 7)) N
    · simp only [aA, gq, reduceEq, reduceLT, reduceLE, implies_true, reduceCtorEq, if_true, if_false, go_sem, reduceEqDiff, Nat.reduceLT, reduceAdd, reduceSub, reduceLeDiff, reduceReplicate, reduceToNat]; exact aH rfl rfl
    · simp only [aA, gq, reduceEq, reduceLT, reduceLE, implies_true, reduceCtorEq, if_true, if_false, go_sem, reduceEqDiff, Nat.reduceLT, reduceAdd, reduceSub, reduceLeDiff, reduceReplicate, reduceToNat]; exact aH rfl rfl
def pF (words : List Int) (at_ : Int) : AV := if (decide (at_ < 0) || decide (((words.length / 16 : Nat) : Int) ≤ at_)) = true then .tup [kE.V, .int .i64 1] else match wN (kT words at_.toNat) with
  | some n => .tup [n.V, .int .i64 0]
  | none => .tup [kE.V, .int .i64 70]
def pR (w : List Int) : Rc := ⟨w.getD 0 0, txtS w 3 (IntKind.i64.wrap ((w.getD 1 0).tdiv 32)), if w.getD 0 0 = 1 then txtS w 6 ((w.getD 1 0).tmod 32) else [], if w.getD 0 0 = 2 then w.getD 6 0 else 0⟩
theorem aGB {x : Rc} (h : x.ok) : IntKind.i64.wrap ((nC x).tdiv 32) = x.key.length ∧ (nC x).tmod 32 = x.val.length := by
  have hl := aAE h
  rw [Int.tdiv_eq_ediv_of_nonneg hl.2.2.1, Int.tmod_eq_emod_of_nonneg hl.2.2.1, w64 (by omega) (by omega)]
  exact ⟨hl.1, hl.2.1⟩
theorem aJt {x : Rc} (h : x.ok) : pR (jE x) = x := by
  have hd := aEM h
  have e1 : (jE x).getD 1 0 = nC x := rfl
  have hl := aAE h
  have hp := aGB h
  unfold decC at hd
  unfold pR
  rw [e1, hl.1, hl.2.1] at hd
  rw [e1, hp.1, hp.2]; exact hd
theorem aDV (w : List Int) : pQ pR w = wN w := aLM (fun n h => aJt h) (fun n h => aEM h) w
theorem aNW {w : List Int} (h : txtB w 3 (IntKind.i64.wrap ((w.getD 1 0).tdiv 32)) = false) : wN w = none := by
  apply aDo
  rintro x hx rfl
  have e1 : (jE x).getD 1 0 = nC x := rfl
  rw [e1, (aGB hx).1, (aGr hx).1] at h
  cases h
theorem aNX {w : List Int} (h1 : w.getD 0 0 = 1) (h : txtB w 6 ((w.getD 1 0).tmod 32) = false) : wN w = none := by
  apply aDo
  rintro x hx rfl
  have e1 : (jE x).getD 1 0 = nC x := rfl
  rw [e1, (aGB hx).2, (aGs hx h1).1] at h
  cases h
def dW.C : aE
  | [.sl _ (.ints .i64 l), .int .i64 k] => some (false, pD (roomy l.length) (pF l k))
  | _ => none
theorem dW.spec : bN Tryz.prog 79 dW.C := by
  refine bN.of (bQ (F := [(99, iL.C), (100, fH.C), (101, jB.C)]) (S := []) (by simpa using ⟨iL.spec, fH.spec, jB.spec⟩) (by simp) dW.loops) dW.at dW.nm dW.bd ?_
  intro vs b S v news e hS
  unfold dW.C at e
  split at e
  rotate_left
  · cases e
  cases e
  rw [dW.eq]
  unfold dW.H
  simp (maxSteps := 4000000) only [go_sem, reduceEqDiff, Nat.reduceLT, reduceAdd, reduceSub, reduceLeDiff, reduceReplicate, reduceToNat, iL.C, fH.C, jB.C]
  rename_i l k
  have hrl := hS
  unfold roomy at hS
  have e0 : IntKind.i64.wrap ((l.length : Int).tdiv 16) = ((l.length / 16 : Nat) : Int) := by
    rw [Int.tdiv_eq_ediv_of_nonneg (by omega)]; exact w64 (by omega) (by omega)
  rw [e0]
  unfold pF
  refine ⟨fun _ => by decide, fun h => ?_, fun h => ?_⟩
  · rw [if_pos h]
    refine aH ?_ rfl
    simp only [kE, go_sem, reduceEqDiff, Nat.reduceLT, reduceAdd, reduceSub, reduceLeDiff, reduceReplicate, reduceToNat]
  · rw [h]
    simp only [Bool.or_eq_false_iff, decide_eq_false_iff_not] at h
    obtain ⟨k, rfl⟩ := Int.eq_ofNat_of_zero_le (show 0 ≤ k by omega)
    have hk : 16 * k + 16 ≤ l.length := by omega
    have e1 : IntKind.i64.wrap (16 * (k : Int)) = 16 * (k : Int) := w64 (by omega) (by omega)
    have e5 : (16 * (k : Int)).toNat = 16 * k := by omega
    have hdl : (l.drop (16 * k)).length = l.length - 16 * k := by simp
    have et : (l.drop (16 * k)).take (l.length - 16 * k) = l.drop (16 * k) := qU _ (by omega)
    have hbl : (kT l k).length = 16 := by unfold kT; simp; omega
    rw [e1, e5, et, hdl, Nat.min_eq_left (by omega)]
    have ew : (l.drop (16 * k)).take 16 ++ List.take (16 - 16) (List.drop 16 [0, 0, 0, 0, 0, 0, 0, 0, 0, 0, 0, 0, 0, 0, 0, 0]) = kT l k := by
      show (l.drop (16 * k)).take 16 ++ [] = _
      rw [List.append_nil]; rfl
    rw [ew, Int.toNat_natCast]
    generalize kT l k = w at *
    have hV : (pR w).V = .agg [.int .i64 (w.getD 0 0), .str (txtS w 3 (IntKind.i64.wrap ((w.getD 1 0).tdiv 32))), .str (if w.getD 0 0 = 1 then txtS w 6 ((w.getD 1 0).tmod 32) else []), .int .i64 (if w.getD 0 0 = 2 then w.getD 6 0 else 0)] := rfl
    simp only [hbl, iL.C, aA, gq, reduceEq, reduceLT, reduceLE, implies_true, reduceCtorEq, if_true, if_false, go_sem, reduceEqDiff, Nat.reduceLT, reduceAdd, reduceSub, reduceLeDiff, reduceReplicate, reduceToNat]
    refine ⟨by omega, fun hT => ?_, fun hT => ⟨fun h1 => ?_, fun h1 => ⟨fun h2 => ?_, fun h2 => ?_⟩⟩⟩
    · rw [aNW hT]
      refine aH ?_ rfl
      simp only [kE, go_sem, reduceEqDiff, Nat.reduceLT, reduceAdd, reduceSub, reduceLeDiff, reduceReplicate, reduceToNat]
    · have hd1 : (⟨w.getD 0 0, txtS w 3 (IntKind.i64.wrap ((w.getD 1 0).tdiv 32)), txtS w 6 ((w.getD 1 0).tmod 32), 0⟩ : Rc) = pR w := by
        unfold pR; rw [if_pos h1, if_neg (by omega)]
      cases h6 : txtB w 6 ((w.getD 1 0).tmod 32) with
      | false =>
        simp only [Bool.not_false, aGl]
        rw [aNX h1 h6]
        refine aH ?_ rfl
        simp only [kE, go_sem, reduceEqDiff, Nat.reduceLT, reduceAdd, reduceSub, reduceLeDiff, reduceReplicate, reduceToNat]
      | true =>
        rw [← aDV]
        unfold pQ
        cases hb : recB (pR w) with
        | false =>
          simp only [fH.C, hd1, hb, Bool.false_and, Bool.false_eq_true, if_false, aA, gq, reduceEq, reduceLT, reduceLE, implies_true, reduceCtorEq, if_true, if_false, go_sem, reduceEqDiff, Nat.reduceLT, reduceAdd, reduceSub, reduceLeDiff, reduceReplicate, reduceToNat]
          refine aH ?_ rfl
          simp only [kE, go_sem, reduceEqDiff, Nat.reduceLT, reduceAdd, reduceSub, reduceLeDiff, reduceReplicate, reduceToNat]
        | true =>
          have hok := xU.1 hb
          have hfl := aCc hok
          simp only [fH.C, jB.C, hd1, hb, hfl, hbl, Bool.true_and, aA, gq, reduceEq, reduceLT, reduceLE, implies_true, reduceCtorEq, if_true, if_false, go_sem, reduceEqDiff, Nat.reduceLT, reduceAdd, reduceSub, reduceLeDiff, reduceReplicate, reduceToNat]
          refine ⟨hok, fun h => ?_, fun h => ?_⟩
          · rw [if_neg h]
            refine aH ?_ rfl
            simp only [kE, go_sem, reduceEqDiff, Nat.reduceLT, reduceAdd, reduceSub, reduceLeDiff, reduceReplicate, reduceToNat]
          · rw [if_pos h, ← hd1]
            exact aH rfl rfl
    · have hd1 : (⟨w.getD 0 0, txtS w 3 (IntKind.i64.wrap ((w.getD 1 0).tdiv 32)), [], w.getD 6 0⟩ : Rc) = pR w := by
        unfold pR; rw [if_neg (by omega), if_pos h2]
      rw [← aDV]
      unfold pQ
      cases hb : recB (pR w) with
      | false =>
        simp only [hT, fH.C, hd1, hb, Bool.false_and, Bool.false_eq_true, if_false, aA, gq, reduceEq, reduceLT, reduceLE, implies_true, reduceCtorEq, if_true, if_false, go_sem, reduceEqDiff, Nat.reduceLT, reduceAdd, reduceSub, reduceLeDiff, reduceReplicate, reduceToNat]
        refine aH ?_ rfl
        simp only [kE, go_sem, reduceEqDiff, Nat.reduceLT, reduceAdd, reduceSub, reduceLeDiff, reduceReplicate, reduceToNat]
      | true =>
        have hok := xU.1 hb
        have hfl := aCc hok
        simp only [hT, fH.C, jB.C, hd1, hb, hfl, hbl, Bool.true_and, aA, gq, reduceEq, reduceLT, reduceLE, implies_true, reduceCtorEq, if_true, if_false, go_sem, reduceEqDiff, Nat.reduceLT, reduceAdd, reduceSub, reduceLeDiff, reduceReplicate, reduceToNat]
        refine ⟨hok, fun h => ?_, fun h => ?_⟩
        · rw [if_neg h]
          refine aH ?_ rfl
          simp only [kE, go_sem, reduceEqDiff, Nat.reduceLT, reduceAdd, reduceSub, reduceLeDiff, reduceReplicate, reduceToNat]
        · rw [if_pos h, ← hd1]
          exact aH rfl rfl
    · have hd1 : (⟨w.getD 0 0, txtS w 3 (IntKind.i64.wrap ((w.getD 1 0).tdiv 32)), [], 0⟩ : Rc) = pR w := by
        unfold pR; rw [if_neg (by omega), if_neg h2]
      rw [← aDV]
      unfold pQ
      cases hb : recB (pR w) with
      | false =>
        simp only [hT, fH.C, hd1, hb, Bool.false_and, Bool.false_eq_true, if_false, aA, gq, reduceEq, reduceLT, reduceLE, implies_true, reduceCtorEq, if_true, if_false, go_sem, reduceEqDiff, Nat.reduceLT, reduceAdd, reduceSub, reduceLeDiff, reduceReplicate, reduceToNat]
        refine aH ?_ rfl
        simp only [kE, go_sem, reduceEqDiff, Nat.reduceLT, reduceAdd, reduceSub, reduceLeDiff, reduceReplicate, reduceToNat]
      | true =>
        have hok := xU.1 hb
        have hfl := aCc hok
        simp only [hT, fH.C, jB.C, hd1, hb, hfl, hbl, Bool.true_and, aA, gq, reduceEq, reduceLT, reduceLE, implies_true, reduceCtorEq, if_true, if_false, go_sem, reduceEqDiff, Nat.reduceLT, reduceAdd, reduceSub, reduceLeDiff, reduceReplicate, reduceToNat]
        refine ⟨hok, fun h => ?_, fun h => ?_⟩
        · rw [if_neg h]
          refine aH ?_ rfl
          simp only [kE, go_sem, reduceEqDiff, Nat.reduceLT, reduceAdd, reduceSub, reduceLeDiff, reduceReplicate, reduceToNat]
        · rw [if_pos h, ← hd1]
          exact aH rfl rfl
end Lam
namespace Lam
open Go Go.Proofs
def uR : AV := .iface 128 (.agg [])
theorem iS {w : List Int} {b : Int} {n : Nd} (h : dJ w b = some n) : qM w b = .tup [n.V, .int .i64 0] := by
  unfold dJ at h
  unfold qM
  split at h
  · cases h
  · rename_i hb; rw [if_neg hb, h]
theorem nV {w : List Int} {b : Int} (h : dJ w b = none) : ∃ e, e ≠ 0 ∧ qM w b = .tup [jL.V, .int .i64 e] := by
  unfold dJ at h
  unfold qM
  split at h
  · rename_i hb; rw [if_pos hb]; exact ⟨1, by decide, rfl⟩
  · rename_i hb; rw [if_neg hb, h]; exact ⟨90, by decide, rfl⟩
theorem sZ {w : List Int} {b : Int} {n : Rc} (h : recO w b = some n) : pF w b = .tup [n.V, .int .i64 0] := by
  unfold recO at h
  unfold pF
  split at h
  · cases h
  · rename_i hb; rw [if_neg hb, h]
theorem tA {w : List Int} {b : Int} (h : recO w b = none) : ∃ e, e ≠ 0 ∧ pF w b = .tup [kE.V, .int .i64 e] := by
  unfold recO at h
  unfold pF
  split at h
  · rename_i hb; rw [if_pos hb]; exact ⟨1, by decide, rfl⟩
  · rename_i hb; rw [if_neg hb, h]; exact ⟨70, by decide, rfl⟩
theorem nN {v pv : AV} {b : Bool} {news : List AObj} {h : List AObj} : aDf true pv b v news (.pan pv) h := rfl
theorem pG {ao : AOut} {pv v : AV} {b : Bool} {news : List AObj} {h : List AObj} (p : Post b v news ao h) : aDf false pv b v news ao h := p
def cF.J : JCon
  | [.bool b] => some (True, !b, uR, false, .tup [], [])
  | _ => none
abbrev cF.K : Con := Jcon cF.J
set_option maxHeartbeats 1000000 in
theorem cF.jspec : nB Tryz.prog 77 cF.J := by
  refine nB.of (bQ (F := []) (S := []) (by simp) (by simp) cF.loops) cF.at cF.nm cF.bd ?_ ?_
  · intro vs S pb pv b v news e
    unfold cF.J at e
    split at e
    rotate_left
    · cases e
    cases e
    rfl
  intro vs S pb pv b v news e hS
  unfold cF.J at e
  split at e
  rotate_left
  · cases e
  cases e
  rw [cF.eq]
  unfold cF.H
  simp (maxSteps := 4000000) only [go_sem, reduceEqDiff, Nat.reduceLT, reduceAdd, reduceSub, reduceLeDiff, reduceReplicate, reduceToNat]
  rename_i b
  rw [aA]
  exact ⟨fun h => by subst h; rfl, fun h => by subst h; exact pG (aH rfl rfl)⟩
def iI (w : List Int) : Prop := w.length ≤ 65536 ∧ i64s w
theorem iI.roomy {w : List Int} (h : iI w) : roomy w.length := by have := h.1; unfold Lam.roomy; omega
def cQ.J : JCon
  | [.sl _ (.ints .i64 w), .int .i64 b] => some (iI w, (dJ w b).isNone, uR, false, ((dJ w b).getD jL).V, [])
  | _ => none
abbrev cQ.K : Con := Jcon cQ.J
set_option maxHeartbeats 1000000 in
theorem cQ.jspec : nB Tryz.prog 75 cQ.J := by
  refine nB.of (bQ (F := [(46, cK.C)]) (S := [(77, cF.K)]) (by simpa using cK.spec) (by simpa using cF.jspec.con) cQ.loops) cQ.at cQ.nm cQ.bd ?_ ?_
  · intro vs S pb pv b v news e
    unfold cQ.J at e
    split at e
    rotate_left
    · cases e
    cases e
    rfl
  intro vs S pb pv b v news e hS
  unfold cQ.J at e
  split at e
  rotate_left
  · cases e
  cases e
  rw [cQ.eq]
  unfold cQ.H
  simp (maxSteps := 4000000) only [go_sem, reduceEqDiff, Nat.reduceLT, reduceAdd, reduceSub, reduceLeDiff, reduceReplicate, reduceToNat, cK.C, cF.K, cF.J]
  rename_i _ w b
  refine ⟨hS.roomy, ?_⟩
  cases hn : dJ w b with
  | none =>
    obtain ⟨e, he, hr⟩ := nV hn
    have hd : decide (e = 0) = false := decide_eq_false he
    simp only [hr, jL, cF.J, hd, aA, gq, reduceEq, reduceLT, reduceLE, implies_true, reduceCtorEq, if_true, if_false, go_sem, reduceEqDiff, Nat.reduceLT, reduceAdd, reduceSub, reduceLeDiff, reduceReplicate, reduceToNat]
    exact nN
  | some n =>
    simp only [iS hn, cF.J, aA, gq, reduceEq, reduceLT, reduceLE, implies_true, reduceCtorEq, if_true, if_false, go_sem, reduceEqDiff, Nat.reduceLT, reduceAdd, reduceSub, reduceLeDiff, reduceReplicate, reduceToNat]
    exact pG (aH rfl rfl)
def eJ.J : JCon
  | [.sl _ (.ints .i64 w), .int .i64 b] => some (iI w, (recO w b).isNone, uR, false, .str ((recO w b).getD kE).key, [])
  | _ => none
abbrev eJ.K : Con := Jcon eJ.J
set_option maxHeartbeats 1000000 in
theorem eJ.jspec : nB Tryz.prog 97 eJ.J := by
  refine nB.of (bQ (F := [(79, dW.C)]) (S := [(77, cF.K)]) (by simpa using dW.spec) (by simpa using cF.jspec.con) eJ.loops) eJ.at eJ.nm eJ.bd ?_ ?_
  · intro vs S pb pv b v news e
    unfold eJ.J at e
    split at e
    rotate_left
    · cases e
    cases e
    rfl
  intro vs S pb pv b v news e hS
  unfold eJ.J at e
  split at e
  rotate_left
  · cases e
  cases e
  rw [eJ.eq]
  unfold eJ.H
  simp (maxSteps := 4000000) only [go_sem, reduceEqDiff, Nat.reduceLT, reduceAdd, reduceSub, reduceLeDiff, reduceReplicate, reduceToNat, dW.C, cF.K, cF.J]
  rename_i _ w b
  refine ⟨hS.roomy, ?_⟩
  cases hn : recO w b with
  | none =>
    obtain ⟨e, he, hr⟩ := tA hn
    have hd : decide (e = 0) = false := decide_eq_false he
    simp only [hr, kE, cF.J, hd, aA, gq, reduceEq, reduceLT, reduceLE, implies_true, reduceCtorEq, if_true, if_false, go_sem, reduceEqDiff, Nat.reduceLT, reduceAdd, reduceSub, reduceLeDiff, reduceReplicate, reduceToNat]
    exact nN
  | some n =>
    simp only [sZ hn, cF.J, aA, gq, reduceEq, reduceLT, reduceLE, implies_true, reduceCtorEq, if_true, if_false, go_sem, reduceEqDiff, Nat.reduceLT, reduceAdd, reduceSub, reduceLeDiff, reduceReplicate, reduceToNat]
    exact pG (aH rfl rfl)
def dI.J : JCon
  | [.sl _ (.ints .i64 w), .agg [.int .i64 a, .int .i64 b, .int .i64 c, .int .i64 d, .sl _ (.ints .i64 l)]] => some (iI w, (lowO w ⟨a, b, c, d, l⟩).isNone, uR, false, .str ((lowO w ⟨a, b, c, d, l⟩).getD []), [])
  | _ => none
abbrev dI.K : Con := Jcon dI.J
set_option maxHeartbeats 1000000 in
theorem dI.jspec : nB Tryz.prog 76 dI.J := by
  refine nB.of (bQ (F := []) (S := [(97, eJ.K)]) (by simp) (by simpa using eJ.jspec.con) dI.loops) dI.at dI.nm dI.bd ?_ ?_
  · intro vs S pb pv b v news e
    unfold dI.J at e
    split at e
    rotate_left
    · cases e
    cases e
    rfl
  intro vs S pb pv b v news e hS
  unfold dI.J at e
  split at e
  rotate_left
  · cases e
  cases e
  rw [dI.eq]
  unfold dI.H
  simp (maxSteps := 4000000) only [go_sem, reduceEqDiff, Nat.reduceLT, reduceAdd, reduceSub, reduceLeDiff, reduceReplicate, reduceToNat, eJ.K, eJ.J]
  rename_i _ w a b c d _ l
  refine ⟨fun h => ?_, fun h => ⟨hS, fun hp => ?_, fun hp => ?_⟩⟩
  · have : lowO w ⟨a, b, c, d, l⟩ = some [] := by unfold lowO; rw [if_pos h]
    rw [this]; exact pG (aH rfl rfl)
  · have : lowO w ⟨a, b, c, d, l⟩ = none := by
      unfold lowO; rw [if_neg h]
      rw [Option.isNone_iff_eq_none] at hp
      simp only [hp]; rfl
    rw [this]; exact nN
  · obtain ⟨x, hx⟩ : ∃ x, recO w d = some x := by cases hr : recO w d with
      | none => rw [hr] at hp; cases hp
      | some x => exact ⟨x, rfl⟩
    have : lowO w ⟨a, b, c, d, l⟩ = some x.key := by
      unfold lowO; rw [if_neg h]
      simp only [hx]; rfl
    rw [this, hx]; exact pG (aH rfl rfl)
def dH.J : JCon
  | [.sl _ (.ints .i64 w)] => some (iI w, (lA (eL w) w).isNone, uR, true, .sref false 0 0 0 ((lA (eL w) w).getD []).length, [.row .own 0 (.ints .i64 ((lA (eL w) w).getD []))])
  | _ => none
abbrev dH.K : Con := Jcon dH.J
set_option maxHeartbeats 1000000 in
theorem dH.jspec : nB Tryz.prog 50 dH.J := by
  refine nB.of (bQ (F := [(38, eB.C), (83, cA.C)]) (S := [(77, cF.K), (75, cQ.K)]) (by simpa using ⟨eB.spec, cA.spec⟩) (by simpa using ⟨cF.jspec.con, cQ.jspec.con⟩) dH.loops) dH.at dH.nm dH.bd ?_ ?_
  · intro vs S pb pv b v news e
    unfold dH.J at e
    split at e
    rotate_left
    · cases e
    cases e
    rfl
  intro vs S pb pv b v news e hS
  unfold dH.J at e
  split at e
  rotate_left
  · cases e
  cases e
  rw [dH.eq]
  unfold dH.H
  simp (maxSteps := 4000000) only [go_sem, reduceEqDiff, Nat.reduceLT, reduceAdd, reduceSub, reduceLeDiff, reduceReplicate, reduceToNat, eB.C, cA.C, cF.K, cF.J, cQ.K, cQ.J]
  rename_i _ w
  refine ⟨hS.roomy, ?_⟩
  cases hb : eL w with
  | false =>
    have hr : kQ w = .tup [.int .i64 0, .int .i64 0, .int .i64 80] := by unfold kQ; rw [hb]; rfl
    simp only [hr, cF.J, aA, gq, reduceEq, reduceLT, reduceLE, implies_true, reduceCtorEq, if_true, if_false, go_sem, reduceEqDiff, Nat.reduceLT, reduceAdd, reduceSub, reduceLeDiff, reduceReplicate, reduceToNat]
    exact nN
  | true =>
    have hr : kQ w = .tup [.int .i64 (w.getD 1 0), .int .i64 (w.getD 3 0), .int .i64 0] := by unfold kQ; rw [hb]; rfl
    simp only [hr, cF.J, aA, gq, reduceEq, reduceLT, reduceLE, implies_true, reduceCtorEq, if_true, if_false, go_sem, reduceEqDiff, Nat.reduceLT, reduceAdd, reduceSub, reduceLeDiff, reduceReplicate, reduceToNat]
    unfold dH.L1
    have h16 : w.length ≤ 65536 := hS.1
    refine pP (σ := List Int × Int) (fun s => .sref false 0 s.1.length 0 s.1.length) (fun s => .int .i64 s.2) (fun s => [.row .own s.1.length (.ints .i64 s.1)]) (fun s => w.length / 16 + 1 - s.1.length)
      (fun s => s.1.Nodup ∧ (∀ x ∈ s.1, 0 ≤ x ∧ x < ((w.length / 16 : Nat) : Int)) ∧ tP w (w.length / 16 + 1 - s.1.length) s.2 s.1 = lA true w) ([], 1) rfl rfl ⟨List.nodup_nil, by simp, rfl⟩ ?_
    rintro I back ⟨out, at_⟩ ⟨hnd, hrg, hch⟩
    simp only at hnd hrg hch ⊢
    have hpg := aGu hnd hrg
    have hro : roomy out.length := by unfold roomy; omega
    obtain ⟨m, hm⟩ : ∃ m, w.length / 16 + 1 - out.length = m + 1 := ⟨w.length / 16 - out.length, by omega⟩
    rw [hm] at hch
    simp only [tP] at hch
    simp only [cQ.J, cF.J, cA.C, go_sem, reduceEqDiff, Nat.reduceLT, reduceAdd, reduceSub, reduceLeDiff, reduceReplicate, reduceToNat]
    refine ⟨fun h0 => ⟨hS, fun hp => ?_, fun hp => ?_⟩, fun h0 => ?_⟩
    · rw [if_neg h0] at hch
      rw [Option.isNone_iff_eq_none] at hp
      rw [hp] at hch
      rw [← hch]; exact nN
    · obtain ⟨n, hn⟩ : ∃ n, dJ w at_ = some n := by
        cases hr : dJ w at_ with
        | none => rw [hr] at hp; cases hp
        | some x => exact ⟨x, rfl⟩
      rw [if_neg h0, hn] at hch
      simp only [hn, Option.getD_some] at hch ⊢
      obtain ⟨_, hn0, hn1, _⟩ := lR hn
      refine ⟨fun _ => hro, fun hc => ?_, fun hc => ?_⟩
      · rw [if_neg] at hch
        · rw [← hch]; exact nN
        · rintro ⟨h1, h2⟩
          rw [decide_eq_true h1, decide_eq_false h2] at hc
          cases hc
      · simp only [Bool.and_eq_true, decide_eq_true_eq, Bool.not_eq_true', decide_eq_false_iff_not] at hc
        rw [if_pos hc] at hch
        have hl1 : (out ++ [at_]).length = out.length + 1 := by simp
        have em : w.length / 16 + 1 - (out.length + 1) = m := by omega
        refine ⟨by unfold roomy; omega, rfl, back (out ++ [at_], n.next) (by simp only [hl1]; omega) (by simp only [hl1]) (by simp only [hl1]) ⟨?_, ?_, ?_⟩⟩
        · rw [List.nodup_append]
          refine ⟨hnd, by simp, fun a ha b hb' => ?_⟩
          simp only [List.mem_singleton] at hb'
          subst hb'
          rintro rfl
          exact hc.2 ha
        · intro x hx
          simp only [List.mem_append, List.mem_singleton] at hx
          rcases hx with hx | rfl
          · exact hrg x hx
          · exact ⟨hn0, hn1⟩
        · simp only [hl1, em]; exact hch
    · rw [if_pos h0] at hch
      rw [← hch]
      exact pG (yS rfl (by decide))
def dZ.J : JCon
  | [.sl _ (.ints .i64 w)] => some (iI w, (iV (eL w) w).isNone, uR, true, .sref false 0 0 0 ((iV (eL w) w).getD []).length, [.row .own 0 (.ints .i64 ((iV (eL w) w).getD []))])
  | _ => none
abbrev dZ.K : Con := Jcon dZ.J
set_option maxHeartbeats 1000000 in
theorem dZ.jspec : nB Tryz.prog 45 dZ.J := by
  refine nB.of (bQ (F := [(79, dW.C), (78, eI.C)]) (S := [(77, cF.K), (75, cQ.K), (76, dI.K), (50, dH.K)]) (by simpa using ⟨dW.spec, eI.spec⟩) (by simpa using ⟨cF.jspec.con, cQ.jspec.con, dI.jspec.con, dH.jspec.con⟩) dZ.loops) dZ.at dZ.nm dZ.bd ?_ ?_
  · intro vs S pb pv b v news e
    unfold dZ.J at e
    split at e
    rotate_left
    · cases e
    cases e
    rfl
  intro vs S pb pv b v news e hS
  unfold dZ.J at e
  split at e
  rotate_left
  · cases e
  cases e
  rw [dZ.eq]
  unfold dZ.H
  simp (maxSteps := 4000000) only [go_sem, reduceEqDiff, Nat.reduceLT, reduceAdd, reduceSub, reduceLeDiff, reduceReplicate, reduceToNat, dW.C, eI.C, cF.K, cF.J, cQ.K, cQ.J, dI.K, dI.J, dH.K, dH.J]
  rename_i _ w
  refine ⟨hS, fun hp => ?_, fun hp => ?_⟩
  · rw [Option.isNone_iff_eq_none] at hp
    have : iV (eL w) w = none := by unfold iV; rw [hp]
    rw [this]; exact nN
  obtain ⟨l, hl⟩ : ∃ l, lA (eL w) w = some l := by
    cases hr : lA (eL w) w with
    | none => rw [hr] at hp; cases hp
    | some x => exact ⟨x, rfl⟩
  have hlook : iV (eL w) w = if lH w l 0 [] = true then some l else none := by unfold iV; rw [hl]
  have bad : lH w l 0 [] = false → iV (eL w) w = none := fun h => by rw [hlook, h]; rfl
  have hll : l.length ≤ 65536 := by have := (mX hl).2.2.2.1; have := hS.1; omega
  simp only [hl, Option.getD_some, aA]
  unfold dZ.L1
  refine pP (σ := bD × Nat) (fun s => .str s.1) (fun s => .int .i64 s.2) (fun s => [.row .own 0 (.ints .i64 l)]) (fun s => l.length - s.2) (fun s => s.2 ≤ l.length ∧ lH w (l.drop s.2) s.2 s.1 = lH w l 0 []) ([], 0) rfl rfl ⟨Nat.zero_le _, by simp⟩ ?_
  rintro I back ⟨last, k⟩ ⟨hk, hlv⟩
  simp only at hk hlv ⊢
  have hout : ¬ (k : Int) < (l.length : Int) → aDf (iV (eL w) w).isNone uR true (.sref false 0 0 0 ((iV (eL w) w).getD []).length) [.row .own 0 (.ints .i64 ((iV (eL w) w).getD []))] (.ret (.sref false 0 0 0 l.length)) [.row .own 0 (.ints .i64 l)] := by
    intro h
    obtain rfl : k = l.length := by omega
    rw [List.drop_length] at hlv
    have : iV (eL w) w = some l := by rw [hlook, ← hlv]; rfl
    rw [this]
    exact pG (yS rfl (by decide))
  have hlf : k < l.length → lH w l 0 [] = match nD w k last (l.getD k 0) with
      | none => false
      | some low => lH w (l.drop (k + 1)) (k + 1) low := by
    intro h
    rw [← hlv, wJ l k 0 h]; rfl
  have hpan : k < l.length → nD w k last (l.getD k 0) = none → ∀ h', aDf (iV (eL w) w).isNone uR true (.sref false 0 0 0 ((iV (eL w) w).getD []).length) [.row .own 0 (.ints .i64 ((iV (eL w) w).getD []))] (.pan uR) h' := by
    intro h h2 h'
    rw [bad (by rw [hlf h, h2])]; exact nN
  have hk0 : decide ((k : Int) = 0) = decide (k = 0) := decide_eq_decide.2 (by omega)
  have hk1 : decide (0 < (k : Int)) = decide (0 < k) := decide_eq_decide.2 (by omega)
  cases hn : dJ w (l.getD k 0) with
  | none =>
    simp only [cQ.J, cF.J, dI.J, eI.C, hn, Option.isNone_none, go_sem, reduceEqDiff, Nat.reduceLT, reduceAdd, reduceSub, reduceLeDiff, reduceReplicate, reduceToNat]
    refine ⟨fun h => ?_, hout⟩
    rw [aA]
    exact ⟨by omega, by omega, hS, hpan (by omega) (by unfold nD; rw [hn]) _⟩
  | some n =>
    obtain ⟨n1, n2, n3, n4, n5⟩ := n
    have hok := (lR hn).1
    have hsl : n5.length ≤ 13 := hok.2.2.2.2.2.2.1
    have hrs : roomy n5.length := by unfold roomy; omega
    cases hw : lowO w ⟨n1, n2, n3, n4, n5⟩ with
    | none =>
      simp only [cQ.J, cF.J, dI.J, eI.C, hn, hw, Option.isNone_none, Option.isNone_some, Option.getD_some, go_sem, reduceEqDiff, Nat.reduceLT, reduceAdd, reduceSub, reduceLeDiff, reduceReplicate, reduceToNat]
      refine ⟨fun h => ?_, hout⟩
      rw [aA]
      exact ⟨by omega, by omega, hS, hS, hpan (by omega) (by unfold nD; simp only [hn, hw]) _⟩
    | some low =>
      simp only [cQ.J, cF.J, dI.J, eI.C, hn, hw, hk0, hk1, Option.isNone_some, Option.getD_some, go_sem, reduceEqDiff, Nat.reduceLT, reduceAdd, reduceSub, reduceLeDiff, reduceReplicate, reduceToNat]
      refine ⟨fun h => ?_, hout⟩
      rw [aA]
      refine ⟨by omega, by omega, hS, hS, fun hc => hpan (by omega) (by unfold nD; simp only [hn, hw, hc]; rfl) _, fun hc => ⟨hrs, ?_⟩⟩
      rw [aA]
      unfold dZ.L2
      have hpl : (plain n5).length ≤ 13 := Nat.le_trans (wK n5) hsl
      refine pP (σ := bD × Nat) (fun s => .str s.1) (fun s => .int .i64 s.2) (fun s => [.row .own 0 (.ints .i64 l), .box (.agg [.int .i64 n1, .int .i64 n2, .int .i64 n3, .int .i64 n4, .sl false (.ints .i64 n5)])]) (fun s => (plain n5).length - s.2)
        (fun s => s.2 ≤ (plain n5).length ∧ lM w low ((plain n5).drop s.2) s.2 s.1 = lM w low (plain n5) 0 low) (low, 0) rfl rfl ⟨Nat.zero_le _, by simp⟩ ?_
      rintro I2 back2 ⟨last2, j⟩ ⟨hj, hsb⟩
      simp only at hj hsb ⊢
      have hlo : lM w low (plain n5) 0 low = false → nD w k last (l.getD k 0) = none := fun hs => by
        unfold nD; simp only [hn, hw, hc, hs]; rfl
      have hso : j < (plain n5).length → lM w low (plain n5) 0 low = match recO w ((plain n5).getD j 0) with
          | none => false
          | some x => decide (x.kind = 1) && !ltB x.key low && (decide (j = 0) || ltB last2 x.key) && lM w low ((plain n5).drop (j + 1)) (j + 1) (if ltB last2 x.key then x.key else last2) := by
        intro h
        rw [← hsb, wJ _ j 0 h]; rfl
      have hj0 : decide ((j : Int) = 0) = decide (j = 0) := decide_eq_decide.2 (by omega)
      have hout2 : ¬ (j : Int) < ((plain n5).length : Int) → ∃ m, m < l.length - k ∧ I m [.str low, .int .i64 (IntKind.i64.wrap ((k : Int) + 1))] [.row .own 0 (.ints .i64 l)] := by
        intro hge
        obtain rfl : j = (plain n5).length := by omega
        rw [List.drop_length] at hsb
        have hs1 : lM w low (plain n5) 0 low = true := by rw [← hsb]; rfl
        have hlf' : nD w k last (l.getD k 0) = some low := by unfold nD; simp only [hn, hw, hc, hs1]; rfl
        refine back (low, k + 1) (by simp only; omega) (by simp only; rw [eS (by omega)]) rfl ⟨by simp only; omega, ?_⟩
        simp only
        rw [hlf (by omega), hlf']
      cases hx : recO w ((plain n5).getD j 0) with
      | none =>
        obtain ⟨e, he, hr⟩ := tA hx
        have hd : decide (e = 0) = false := decide_eq_false he
        simp only [cF.J, dW.C, hr, kE, hd, aA, gq, reduceEq, reduceLT, reduceLE, implies_true, reduceCtorEq, if_true, if_false, go_sem, reduceEqDiff, Nat.reduceLT, reduceAdd, reduceSub, reduceLeDiff, reduceReplicate, reduceToNat]
        exact ⟨fun h2 => ⟨⟨by omega, by omega⟩, hS.roomy, hpan (by omega) (hlo (by rw [hso (by omega), hx])) _⟩, hout2⟩
      | some x =>
        obtain ⟨x1, x2, x3, x4⟩ := x
        simp only [cF.J, dW.C, sZ hx, hj0, go_sem, reduceEqDiff, Nat.reduceLT, reduceAdd, reduceSub, reduceLeDiff, reduceReplicate, reduceToNat]
        refine ⟨fun h2 => ⟨⟨by omega, by omega⟩, hS.roomy, ?_⟩, hout2⟩
        refine ⟨fun h3 => hpan (by omega) (hlo ?_) _, fun h3 => ?_⟩
        · rw [hso (by omega), hx]
          simp only [h3, Bool.false_and]
        · refine back2 (if ltB last2 x2 = true then x2 else last2, j + 1) (by simp only; omega) (by simp only; rw [eS (by omega)]) rfl ⟨by simp only; omega, ?_⟩
          simp only
          rw [hso (by omega), hx]
          simp only [h3, Bool.true_and]
theorem aBi {α : Type} {x : Option α} (h : x.isNone = false) : ∃ a, x = some a := by
  cases x with
  | none => cases h
  | some a => exact ⟨a, rfl⟩
def pS (w : List Int) : AV := match lA (eL w) w with
  | some l => .tup [.sl false (.ints .i64 l), .int .i64 0]
  | none => .tup [.sl false (.ints .i64 []), .int .i64 110]
def eF.C : aE
  | [.sl _ (.ints .i64 w)] => some (false, pD (iI w) (pS w))
  | _ => none
set_option maxHeartbeats 1000000 in
theorem eF.spec : bN Tryz.prog 24 eF.C := by
  refine bN.ofD (bQ (F := []) (S := [(50, dH.K)]) (by simp) (by simpa using dH.jspec.con) eF.loops) kH.tspec eF.at eF.nm eF.bd ?_
  intro vs b S v news e hS
  unfold eF.C at e
  split at e
  rotate_left
  · cases e
  cases e
  rw [eF.eq]
  unfold eF.H
  simp (maxSteps := 4000000) only [go_sem, reduceEqDiff, Nat.reduceLT, reduceAdd, reduceSub, reduceLeDiff, reduceReplicate, reduceToNat, dH.K, dH.J]
  rename_i _ w
  refine ⟨hS, fun hp => ⟨rfl, ?_⟩, fun hp => ?_⟩
  · rw [Option.isNone_iff_eq_none] at hp
    have : pS w = .tup [.sl false (.ints .i64 []), .int .i64 110] := by unfold pS; rw [hp]
    rw [this]; exact aH rfl rfl
  · obtain ⟨l, hl⟩ := aBi hp
    have : pS w = .tup [.sl false (.ints .i64 l), .int .i64 0] := by unfold pS; rw [hl]
    rw [this, hl]
    refine aH ?_ rfl
    simp only [Option.getD_some, go_sem, reduceEqDiff, Nat.reduceLT, reduceAdd, reduceSub, reduceLeDiff, reduceReplicate, reduceToNat]
def lowV (w : List Int) (b : Int) : AV := match (dJ w b).bind (lowO w) with
  | some s => .tup [.str s, .int .i64 0]
  | none => .tup [.str [], .int .i64 110]
def dG.C : aE
  | [.sl _ (.ints .i64 w), .int .i64 b] => some (false, pD (iI w) (lowV w b))
  | _ => none
set_option maxHeartbeats 1000000 in
theorem dG.spec : bN Tryz.prog 47 dG.C := by
  refine bN.ofD (bQ (F := []) (S := [(75, cQ.K), (76, dI.K)]) (by simp) (by simpa using ⟨cQ.jspec.con, dI.jspec.con⟩) dG.loops) kH.tspec dG.at dG.nm dG.bd ?_
  intro vs b S v news e hS
  unfold dG.C at e
  split at e
  rotate_left
  · cases e
  cases e
  rw [dG.eq]
  unfold dG.H
  simp (maxSteps := 4000000) only [go_sem, reduceEqDiff, Nat.reduceLT, reduceAdd, reduceSub, reduceLeDiff, reduceReplicate, reduceToNat, cQ.K, cQ.J, dI.K, dI.J]
  rename_i _ w b
  have e0 : ∀ n : Nd, (⟨n.level, n.turn, n.next, n.low, n.slots⟩ : Nd) = n := fun n => rfl
  refine ⟨hS, fun hp => ⟨rfl, ?_⟩, fun hp => ⟨hS, ?_⟩⟩
  · rw [Option.isNone_iff_eq_none] at hp
    have : lowV w b = .tup [.str [], .int .i64 110] := by unfold lowV; rw [hp]; rfl
    rw [this]; exact aH rfl rfl
  · obtain ⟨n, hn⟩ := aBi hp
    simp only [hn, Option.getD_some, e0]
    refine ⟨fun hq => ⟨rfl, ?_⟩, fun hq => ?_⟩
    · rw [Option.isNone_iff_eq_none] at hq
      have : lowV w b = .tup [.str [], .int .i64 110] := by unfold lowV; rw [hn]; simp only [Option.bind_some, hq]
      rw [this]; exact aH rfl rfl
    · obtain ⟨s, hs⟩ := aBi hq
      have : lowV w b = .tup [.str s, .int .i64 0] := by unfold lowV; rw [hn]; simp only [Option.bind_some, hs]
      rw [this, hs]; exact aH rfl rfl
def rZ (w : List Int) : Int := if (iV (eL w) w).isSome = true then 0 else 110
def fT.C : aE
  | [.sl _ (.ints .i64 w)] => some (false, pD (iI w) (.int .i64 (rZ w)))
  | _ => none
set_option maxHeartbeats 1000000 in
theorem fT.spec : bN Tryz.prog 22 fT.C := by
  refine bN.ofD (bQ (F := []) (S := [(45, dZ.K)]) (by simp) (by simpa using dZ.jspec.con) fT.loops) kH.tspec fT.at fT.nm fT.bd ?_
  intro vs b S v news e hS
  unfold fT.C at e
  split at e
  rotate_left
  · cases e
  cases e
  rw [fT.eq]
  unfold fT.H
  simp (maxSteps := 4000000) only [go_sem, reduceEqDiff, Nat.reduceLT, reduceAdd, reduceSub, reduceLeDiff, reduceReplicate, reduceToNat, dZ.K, dZ.J]
  rename_i _ w
  refine ⟨hS, fun hp => ⟨rfl, ?_⟩, fun hp => ?_⟩
  · rw [Option.isNone_iff_eq_none] at hp
    have : rZ w = 110 := by unfold rZ; rw [hp]; rfl
    rw [this]; exact aH rfl rfl
  · obtain ⟨l, hl⟩ := aBi hp
    have : rZ w = 0 := by unfold rZ; rw [hl]; rfl
    rw [this]; exact aH rfl rfl
end Lam
namespace Lam
open Go Go.Proofs
def eC.loops : Nat → bU
 | 3 => ⟨[], [], [], [(3, none), (4, some [28, 32])], [], []⟩
 | 6 => ⟨[], [], [], [(5, none), (2, some [49, 51]), (2, none), (4, some [53, 57])], [], []⟩
 | 12 => ⟨[], [], [], [(3, none), (2, some [81, 83]), (2, none), (5, some [85, 90]), (2, none), (3, some [92, 95])], [], []⟩
 | _ => ⟨[], [], [], [], [], []⟩
def eC.H (c : Ctx) (t0 : AV) (t1 : AV) (t2 : AV) (t3 : AV) (h : List AObj) (K : AOut → List AObj → Prop) : Prop :=
 aL (fun (J1 : List AObj → Prop) =>
 aP false c (.fn (.func 46) [] []) [t0, t1] h (fun t22 h =>
 runD (aW t22 0) h fun t23 h =>
 runD (aW t22 1) h fun t24 h =>
 cS bA h fun t10 h =>
 runH (aR bA h t10 t23) h fun _ h =>
 runD (binD cN .neq t24 (.int .i64 0)) h fun t27 h =>
 aL (fun (J2 : AV → AV → List AObj → Prop) =>
 bF t27 false
 (runD (aC bA t10 0) h fun t29 h =>
 runD (fitD aB (aD h t29)) h fun t30 h =>
 runD (binD aB .lss t30 t3) h fun t32 h =>
 J2 (.bool false) t32 h)
 (J2 (.bool true) .und h))
 (fun t28 t32 h => runD (bT t28 (.bool true) t32) h fun t33 h =>
 bE t33
 (J1 h)
 (runD (aC bA t10 2) h fun t34 h =>
 runD (fitD aB (aD h t34)) h fun t35 h =>
 runD (binD aB .neq t35 (.int .i64 0)) h fun t36 h =>
 aL (fun (J3 : List AObj → Prop) =>
 bE t36
 (runD (aC bA t10 2) h fun t39 h =>
 runD (fitD aB (aD h t39)) h fun t40 h =>
 aP false c (.fn (.func 81) [] []) [t0, t40] h (fun t41 h =>
 runD (aW t41 0) h fun t42 h =>
 runD (aW t41 1) h fun t43 h =>
 runD (aW t41 2) h fun t44 h =>
 runD (aC bA t10 2) h fun t45 h =>
 runD (fitD aB (aD h t45)) h fun t46 h =>
 runD (binD aB .eql t46 t1) h fun t48 h =>
 aL (fun (J4 : AV → AV → List AObj → Prop) =>
 bF t48 false
 (runD (unD .not t44) h fun t51 h =>
 J4 (.bool false) t51 h)
 (J4 (.bool true) .und h))
 (fun t49 t51 h => runD (bT t49 (.bool true) t51) h fun t52 h =>
 aL (fun (J5 : AV → AV → List AObj → Prop) =>
 bF t52 false
 (runD (aC bA t10 0) h fun t55 h =>
 runD (fitD aB (aD h t55)) h fun t56 h =>
 runD (binD aB .neq t42 t56) h fun t57 h =>
 J5 (.bool false) t57 h)
 (J5 (.bool true) .und h))
 (fun t53 t57 h => runD (bT t53 (.bool true) t57) h fun t58 h =>
 bE t58
 (J1 h)
 (runD (binD cE .leq t43 t2) h fun t61 h =>
 bE t61
 (runD (aC bA t10 2) h fun t62 h =>
 runD (fitD aB (aD h t62)) h fun t63 h =>
 K (.ret (.tup [t63, (.int .i64 0)])) h)
 (J3 h)))))
 (fun v h => K (.pan v) h))
 (J3 h))
 (fun h => runD (aC bA t10 0) h fun t64 h =>
 runD (fitD aB (aD h t64)) h fun t65 h =>
 runD (binD aB .gtr t65 t3) h fun t67 h =>
 aL (fun (J6 : AV → List AObj → Prop) =>
 bE t67
 (runD (fitD bA (aD h t10)) h fun t69 h =>
 aP false c (.fn (.func 82) [] []) [t0, t69, t2] h (fun t71 h =>
 aP false c (.fn (.func 81) [] []) [t0, t71] h (fun t75 h =>
 runD (aW t75 0) h fun t76 h =>
 runD (aW t75 1) h fun t77 h =>
 runD (aW t75 2) h fun t78 h =>
 runD (binD aB .eql t71 (.int .i64 0)) h fun t80 h =>
 aL (fun (J7 : AV → AV → List AObj → Prop) =>
 bF t80 false
 (runD (unD .not t78) h fun t83 h =>
 J7 (.bool false) t83 h)
 (J7 (.bool true) .und h))
 (fun t81 t83 h => runD (bT t81 (.bool true) t83) h fun t84 h =>
 aL (fun (J8 : AV → AV → List AObj → Prop) =>
 bF t84 false
 (runD (aC bA t10 0) h fun t87 h =>
 runD (fitD aB (aD h t87)) h fun t88 h =>
 runD (binD aB .sub t88 (.int .i64 1)) h fun t89 h =>
 runD (binD aB .neq t76 t89) h fun t90 h =>
 J8 (.bool false) t90 h)
 (J8 (.bool true) .und h))
 (fun t85 t90 h => runD (bT t85 (.bool true) t90) h fun t91 h =>
 aL (fun (J9 : AV → AV → List AObj → Prop) =>
 bF t91 false
 (runD (binD cE .gtr t77 t2) h fun t95 h =>
 J9 (.bool false) t95 h)
 (J9 (.bool true) .und h))
 (fun t92 t95 h => runD (bT t92 (.bool true) t95) h fun t96 h =>
 bE t96
 (J1 h)
 (J6 t71 h)))))
 (fun v h => K (.pan v) h))
 (fun v h => K (.pan v) h))
 (J6 t1 h))
 (fun t12 h => K (.ret (.tup [t12, (.int .i64 0)])) h)))))
 (fun v h => K (.pan v) h))
 (fun h => K (.ret (.tup [(.int .i64 0), (.int .i64 90)])) h)
def dU.loops : Nat → bU
 | _ => ⟨[], [], [], [], [], []⟩
def dU.H (c : Ctx) (t0 : AV) (t1 : AV) (h : List AObj) (K : AOut → List AObj → Prop) : Prop :=
 aP false c (.fn (.func 46) [] []) [t0, t1] h (fun t12 h =>
 runD (aW t12 0) h fun t13 h =>
 runD (aW t12 1) h fun t14 h =>
 cS bA h fun t7 h =>
 runH (aR bA h t7 t13) h fun _ h =>
 runD (binD cN .neq t14 (.int .i64 0)) h fun t16 h =>
 bE t16
 (K (.ret (.tup [(.int .i64 0), (.str []), (.bool false)])) h)
 (aP false c (.fn (.func 47) [] []) [t0, t1] h (fun t20 h =>
 runD (aW t20 0) h fun t21 h =>
 runD (aW t20 1) h fun t22 h =>
 runD (aC bA t7 0) h fun t23 h =>
 runD (fitD aB (aD h t23)) h fun t24 h =>
 runD (binD cN .eql t22 (.int .i64 0)) h fun t26 h =>
 K (.ret (.tup [t24, t21, t26])) h)
 (fun v h => K (.pan v) h)))
 (fun v h => K (.pan v) h)
def eK.loops : Nat → bU
 | 2 => ⟨[6, 14], [false, false], [0, 2, 12, 13], [], [], []⟩
 | 5 => ⟨[], [], [], [(3, none), (3, some [26, 29]), (2, none), (4, some [31, 35])], [], []⟩
 | _ => ⟨[], [], [], [], [], []⟩
def eK.L1 (c : Ctx) (J1 : AV → List AObj → Prop) (K : AOut → List AObj → Prop) (lv : List AV) (h0 : List AObj) (n0 : Nat) (c0 : AV) (c2 : AV) (c12 : AV) (c13 : AV) : Prop :=
 ∃ I : Nat → List AV → List AObj → Prop, (∃ n, I n lv h0) ∧ ∀ n h, ∀ t6, ∀ t14, I n [t6, t14] h →
 runD (binD aB .lss t14 c13) h fun t15 h =>
 bE t15
 (runD (aG aK h c12 t14) h fun t16 h =>
 runD (fitD aB (aD h t16)) h fun t17 h =>
 aP false c (.fn (.func 79) [] []) [c0, t17] h (fun t21 h =>
 runD (aW t21 0) h fun t22 h =>
 runD (aW t21 1) h fun t23 h =>
 cS aJ h fun t9 h =>
 runH (aR aJ h t9 t22) h fun _ h =>
 runD (binD cN .eql t23 (.int .i64 0)) h fun t25 h =>
 aL (fun (J2 : AV → AV → List AObj → Prop) =>
 bF t25 true
 (runD (aC aJ t9 0) h fun t27 h =>
 runD (fitD aB (aD h t27)) h fun t28 h =>
 runD (binD aB .eql t28 (.int .i64 2)) h fun t29 h =>
 J2 (.bool true) t29 h)
 (J2 (.bool false) .und h))
 (fun t26 t29 h => runD (bT t26 t29 (.bool false)) h fun t30 h =>
 aL (fun (J3 : AV → AV → List AObj → Prop) =>
 bF t30 true
 (runD (aC aJ t9 1) h fun t32 h =>
 runD (fitD cE (aD h t32)) h fun t33 h =>
 runD (binD cE .leq t33 c2) h fun t35 h =>
 J3 (.bool true) t35 h)
 (J3 (.bool false) .und h))
 (fun t31 t35 h => runD (bT t31 t35 (.bool false)) h fun t36 h =>
 aL (fun (J4 : AV → List AObj → Prop) =>
 bE t36
 (runD (aC aJ t9 3) h fun t37 h =>
 runD (fitD aB (aD h t37)) h fun t38 h =>
 J4 t38 h)
 (J4 t6 h))
 (fun t6 h => runD (binD aB .add t14 (.int .i64 1)) h fun t39 h =>
 (∃ m, m < n ∧ I m (AV.norms n0 h [t6, t39]) (cJ n0 h)) ∧ AV.norms n0 h [c0, c2, c12, c13] = [c0, c2, c12, c13]))))
 (fun v h => K (.pan v) h))
 (J1 t6 h)
def eK.H (c : Ctx) (t0 : AV) (t1 : AV) (t2 : AV) (h : List AObj) (K : AOut → List AObj → Prop) : Prop :=
 boxW bA t1 h fun t4 h =>
 runD (aC bA t4 4) h fun t11 h =>
 runD (fitD aK (aD h t11)) h fun t12 h =>
 runD (lenD aK h t12) h fun t13 h =>
 aL (fun (J1 : AV → List AObj → Prop) =>
 dM [false, false] [(.int .i64 0), (.int .i64 0)] h fun lv h => eK.L1 c J1 K (AV.norms h.length h lv) (cJ h.length h) h.length (AV.norm h.length h t0) (AV.norm h.length h t2) (AV.norm h.length h t12) (AV.norm h.length h t13))
 (fun t6 h => K (.ret t6) h)
theorem eC.eq (F : List (FuncId × aE)) (S : List (FuncId × Con)) (t0 t1 t2 t3 : AV) (h : List AObj) (K : AOut → List AObj → Prop) : funW (ctx F S eC.loops) Tryz.f49 [t0, t1, t2, t3] h K = eC.H (ctx F S eC.loops) t0 t1 t2 t3 h K := by kernel_rfl
theorem dU.eq (F : List (FuncId × aE)) (S : List (FuncId × Con)) (t0 t1 : AV) (h : List AObj) (K : AOut → List AObj → Prop) : funW (ctx F S dU.loops) Tryz.f81 [t0, t1] h K = dU.H (ctx F S dU.loops) t0 t1 h K := by kernel_rfl
theorem eK.eq (F : List (FuncId × aE)) (S : List (FuncId × Con)) (t0 t1 t2 : AV) (h : List AObj) (K : AOut → List AObj → Prop) : funW (ctx F S eK.loops) Tryz.f82 [t0, t1, t2] h K = eK.H (ctx F S eK.loops) t0 t1 t2 h K := by kernel_rfl
theorem eC.at : Tryz.prog.funcs[49]? = some Tryz.f49 := by kernel_rfl
theorem eC.nm : (Tryz.f49.name == "runtime.NumGoroutine") = false := by kernel_rfl
theorem eC.bd : Tryz.f49.body.isNone = false := by kernel_rfl
theorem dU.at : Tryz.prog.funcs[81]? = some Tryz.f81 := by kernel_rfl
theorem dU.nm : (Tryz.f81.name == "runtime.NumGoroutine") = false := by kernel_rfl
theorem dU.bd : Tryz.f81.body.isNone = false := by kernel_rfl
theorem eK.at : Tryz.prog.funcs[82]? = some Tryz.f82 := by kernel_rfl
theorem eK.nm : (Tryz.f82.name == "runtime.NumGoroutine") = false := by kernel_rfl
theorem eK.bd : Tryz.f82.body.isNone = false := by kernel_rfl
end Lam
namespace Lam
open Go Go.Proofs
def aDr (w : List Int) (b : Int) : AV := match dJ w b with
  | none => .tup [.int .i64 0, .str [], .bool false]
  | some n => match lowO w n with
    | none => .tup [.int .i64 n.level, .str [], .bool false]
    | some l => .tup [.int .i64 n.level, .str l, .bool true]
def dU.C : aE
  | [.sl _ (.ints .i64 w), .int .i64 b] => some (false, pD (iI w) (aDr w b))
  | _ => none
theorem dU.spec : bN Tryz.prog 81 dU.C := by
  refine bN.of (bQ (F := [(46, cK.C), (47, dG.C)]) (S := []) (by simpa using ⟨cK.spec, dG.spec⟩) (by simp) dU.loops) dU.at dU.nm dU.bd ?_
  intro vs b S v news e hS
  unfold dU.C at e
  split at e
  rotate_left
  · cases e
  cases e
  rw [dU.eq]
  unfold dU.H
  simp (maxSteps := 4000000) only [go_sem, reduceEqDiff, Nat.reduceLT, reduceAdd, reduceSub, reduceLeDiff, reduceReplicate, reduceToNat, cK.C, dG.C]
  rename_i w b
  have hr := iI.roomy hS
  unfold aDr
  cases hn : dJ w b with
  | none =>
    obtain ⟨e, he, h⟩ := nV hn
    simp only [h, jL, he, decide_false, aA, aA, gq, reduceEq, reduceLT, reduceLE, implies_true, reduceCtorEq, if_true, if_false, go_sem, reduceEqDiff, Nat.reduceLT, reduceAdd, reduceSub, reduceLeDiff, reduceReplicate, reduceToNat]
    exact ⟨hr, aH rfl rfl⟩
  | some n =>
    obtain ⟨n1, n2, n3, n4, n5⟩ := n
    cases hl : lowO w ⟨n1, n2, n3, n4, n5⟩ with
    | none =>
      have hlv : lowV w b = .tup [.str [], .int .i64 110] := by unfold lowV; rw [hn]; simp only [Option.bind_some, hl]
      simp only [iS hn, hlv, hl, decide_false, aA, aA, gq, reduceEq, reduceLT, reduceLE, implies_true, reduceCtorEq, if_true, if_false, go_sem, reduceEqDiff, Nat.reduceLT, reduceAdd, reduceSub, reduceLeDiff, reduceReplicate, reduceToNat]
      exact ⟨hr, hS, aH rfl rfl⟩
    | some l =>
      have hlv : lowV w b = .tup [.str l, .int .i64 0] := by unfold lowV; rw [hn]; simp only [Option.bind_some, hl]
      simp only [iS hn, hlv, hl, decide_true, aA, aA, gq, reduceEq, reduceLT, reduceLE, implies_true, reduceCtorEq, if_true, if_false, go_sem, reduceEqDiff, Nat.reduceLT, reduceAdd, reduceSub, reduceLeDiff, reduceReplicate, reduceToNat]
      exact ⟨hr, hS, aH rfl rfl⟩
def eK.C : aE
  | [.sl _ (.ints .i64 w), .agg [.int .i64 a, .int .i64 b, .int .i64 c, .int .i64 d, .sl _ (.ints .i64 l)], .str key] => some (false, pD (roomy w.length ∧ l.length ≤ 1000) (.int .i64 (aAF w key ⟨a, b, c, d, l⟩)))
  | _ => none
theorem eK.spec : bN Tryz.prog 82 eK.C := by
  refine bN.of (bQ (F := [(79, dW.C)]) (S := []) (by simpa using dW.spec) (by simp) eK.loops) eK.at eK.nm eK.bd ?_
  intro vs b S v news e hS
  unfold eK.C at e
  split at e
  rotate_left
  · cases e
  cases e
  rw [eK.eq]
  unfold eK.H
  simp (maxSteps := 4000000) only [go_sem, reduceEqDiff, Nat.reduceLT, reduceAdd, reduceSub, reduceLeDiff, reduceReplicate, reduceToNat, dW.C]
  rename_i w a b c d _ l key
  obtain ⟨hw, hl⟩ := hS
  rw [aA]
  unfold eK.L1
  refine pP (σ := Nat) (fun k => .int .i64 ((l.take k).foldl (xV w key) 0)) (fun k => .int .i64 k) (fun k => [.box (.agg [.int .i64 a, .int .i64 b, .int .i64 c, .int .i64 d, .sl false (.ints .i64 l)])]) (fun k => l.length - k) (fun k => k ≤ l.length) 0 rfl rfl (Nat.zero_le _) ?_
  intro I back k hk
  by_cases hlt : k < l.length
  · have hb := @back (l.length - k) [.int .i64 (xV w key ((l.take k).foldl (xV w key) 0) (l.getD k 0)), .int .i64 ((k + 1 : Nat) : Int)] [.box (.agg [.int .i64 a, .int .i64 b, .int .i64 c, .int .i64 d, .sl false (.ints .i64 l)])] (k + 1) (by omega) (by rw [iH l k 0 hlt, List.foldl_append]; rfl) rfl (by omega)
    clear back
    generalize (l.take k).foldl (xV w key) 0 = out at *
    have d1 : decide ((k : Int) < (l.length : Int)) = true := decide_eq_true (by omega)
    unfold xV at hb
    cases hx : recO w (l.getD k 0) with
    | none =>
      obtain ⟨e, he, hr⟩ := tA hx
      rw [hx] at hb
      simp only [dW.C, hr, kE, he, d1, decide_false, aA, eS (show k < 4611686018427387904 by omega), aA, gq, reduceEq, reduceLT, reduceLE, implies_true, reduceCtorEq, if_true, if_false, go_sem, reduceEqDiff, Nat.reduceLT, reduceAdd, reduceSub, reduceLeDiff, reduceReplicate, reduceToNat]
      exact ⟨⟨by omega, by omega⟩, hw, hb⟩
    | some y =>
      obtain ⟨y1, y2, y3, y4⟩ := y
      rw [hx] at hb
      simp only at hb
      simp only [dW.C, sZ hx, d1, decide_true, aA, eS (show k < 4611686018427387904 by omega), aA, gq, reduceEq, reduceLT, reduceLE, implies_true, reduceCtorEq, if_true, if_false, go_sem, reduceEqDiff, Nat.reduceLT, reduceAdd, reduceSub, reduceLeDiff, reduceReplicate, reduceToNat]
      refine ⟨⟨by omega, by omega⟩, hw, ?_⟩
      by_cases hy : y1 = 2
      · simp only [hy, decide_true, aA, gq, reduceEq, reduceLT, reduceLE, implies_true, reduceCtorEq, if_true, if_false, go_sem, reduceEqDiff, Nat.reduceLT, reduceAdd, reduceSub, reduceLeDiff, reduceReplicate, reduceToNat]
        refine ⟨fun h => ?_, fun h => ?_⟩
        · rw [if_pos ⟨hy, h⟩] at hb; exact hb
        · rw [if_neg (fun h' => by rw [h] at h'; cases h'.2)] at hb; exact hb
      · rw [if_neg (fun h' => hy h'.1)] at hb
        simp only [hy, decide_false, aA, gq, reduceEq, reduceLT, reduceLE, implies_true, reduceCtorEq, if_true, if_false, go_sem, reduceEqDiff, Nat.reduceLT, reduceAdd, reduceSub, reduceLeDiff, reduceReplicate, reduceToNat]
        exact hb
  · obtain rfl : k = l.length := by omega
    have d1 : decide ((l.length : Int) < (l.length : Int)) = false := decide_eq_false (by omega)
    clear back
    rw [List.take_length]
    simp only [d1, aA, aA, gq, reduceEq, reduceLT, reduceLE, implies_true, reduceCtorEq, if_true, if_false, go_sem, reduceEqDiff, Nat.reduceLT, reduceAdd, reduceSub, reduceLeDiff, reduceReplicate, reduceToNat]
    exact aH rfl rfl
def nW (w : List Int) (b : Int) (key : bD) (level : Int) : AV := match lS w b key level with
  | none => .tup [.int .i64 0, .int .i64 90]
  | some t => .tup [.int .i64 t, .int .i64 0]
theorem aDs (w : List Int) (b : Int) : (∃ lv lo, aBf w b = none ∧ aDr w b = .tup [.int .i64 lv, .str lo, .bool false]) ∨ ∃ lv lo, aBf w b = some (lv, lo) ∧ aDr w b = .tup [.int .i64 lv, .str lo, .bool true] := by
  unfold aBf aDr
  cases dJ w b with
  | none => exact .inl ⟨_, _, rfl, rfl⟩
  | some n =>
    simp only
    cases lowO w n with
    | none => exact .inl ⟨_, _, rfl, rfl⟩
    | some l => exact .inr ⟨_, _, rfl, rfl⟩
def eC.C : aE
  | [.sl _ (.ints .i64 w), .int .i64 b, .str key, .int .i64 level] => some (false, pD (iI w) (nW w b key level))
  | _ => none
theorem eC.spec : bN Tryz.prog 49 eC.C := by
  refine bN.of (bQ (F := [(46, cK.C), (81, dU.C), (82, eK.C)]) (S := []) (by simpa using ⟨cK.spec, dU.spec, eK.spec⟩) (by simp) eC.loops) eC.at eC.nm eC.bd ?_
  intro vs b S v news e hS
  unfold eC.C at e
  split at e
  rotate_left
  · cases e
  cases e
  rw [eC.eq]
  unfold eC.H
  simp (maxSteps := 4000000) only [go_sem, reduceEqDiff, Nat.reduceLT, reduceAdd, reduceSub, reduceLeDiff, reduceReplicate, reduceToNat, cK.C, dU.C, eK.C]
  rename_i w b key level
  have hr := iI.roomy hS
  have hno : ∀ ao h, lS w b key level = none → ao = .ret (.tup [.int .i64 0, .int .i64 90]) → Post false (nW w b key level) [] ao h := fun ao h e1 e2 => by
    rw [e2]; unfold nW; rw [e1]; exact aH rfl rfl
  have hyes : ∀ ao h t, lS w b key level = some t → ao = .ret (.tup [.int .i64 t, .int .i64 0]) → Post false (nW w b key level) [] ao h := fun ao h t e1 e2 => by
    rw [e2]; unfold nW; rw [e1]; exact aH rfl rfl
  rw [aA]
  cases hn : dJ w b with
  | none =>
    obtain ⟨e, he, h⟩ := nV hn
    simp only [h, jL, he, decide_false, aA, aA, gq, reduceEq, reduceLT, reduceLE, implies_true, reduceCtorEq, if_true, if_false, go_sem, reduceEqDiff, Nat.reduceLT, reduceAdd, reduceSub, reduceLeDiff, reduceReplicate, reduceToNat]
    exact ⟨hr, hno _ _ (by unfold lS; rw [hn]) rfl⟩
  | some n =>
    have hok := (lR hn).1
    obtain ⟨n1, n2, n3, n4, n5⟩ := n
    have h13 : n5.length ≤ 13 := hok.2.2.2.2.2.2.1
    have hlv : 0 ≤ n1 ∧ n1 ≤ 9 := ⟨hok.1, hok.2.1⟩
    simp only [iS hn, decide_true, gq, reduceEq, reduceLT, reduceLE, implies_true, reduceCtorEq, if_true, if_false, go_sem, reduceEqDiff, Nat.reduceLT, reduceAdd, reduceSub, reduceLeDiff, reduceReplicate, reduceToNat]
    refine ⟨hr, ?_⟩
    by_cases hlt : n1 < level
    · have hd : lS w b key level = none := by unfold lS; rw [hn]; exact if_pos hlt
      simp only [hlt, decide_true, aA, aA, gq, reduceEq, reduceLT, reduceLE, implies_true, reduceCtorEq, if_true, if_false, go_sem, reduceEqDiff, Nat.reduceLT, reduceAdd, reduceSub, reduceLeDiff, reduceReplicate, reduceToNat]
      exact hno _ _ hd rfl
    have hd : lS w b key level = if n3 = 0 then aBg w b key level ⟨n1, n2, n3, n4, n5⟩ else match aBf w n3 with
      | none => none
      | some (lv, lo) => if n3 = b ∨ lv ≠ n1 then none else if ltB key lo = false then some n3 else aBg w b key level ⟨n1, n2, n3, n4, n5⟩ := by
      unfold lS; rw [hn]; exact if_neg hlt
    rw [aA]
    simp only [hlt, decide_false, gq, reduceEq, reduceLT, reduceLE, implies_true, reduceCtorEq, if_true, if_false, go_sem, reduceEqDiff, Nat.reduceLT, reduceAdd, reduceSub, reduceLeDiff, reduceReplicate, reduceToNat]
    refine oW fun k3 hk3 => ?_
    have rest3 : lS w b key level = aBg w b key level ⟨n1, n2, n3, n4, n5⟩ → k3 [.box (.agg [.int .i64 n1, .int .i64 n2, .int .i64 n3, .int .i64 n4, .sl false (.ints .i64 n5)])] := fun hd2 => by
      unfold aBg at hd2
      rw [hk3]
      simp only [eK.C, gq, reduceEq, reduceLT, reduceLE, implies_true, reduceCtorEq, if_true, if_false, go_sem, reduceEqDiff, Nat.reduceLT, reduceAdd, reduceSub, reduceLeDiff, reduceReplicate, reduceToNat]
      rw [aA]
      refine ⟨fun hl => ⟨⟨hr, by omega⟩, ?_⟩, fun hl => hyes _ _ _ (by rw [hd2, if_neg hl]) rfl⟩
      rw [if_pos hl] at hd2
      unfold aKG at hd2
      have e1 : IntKind.i64.wrap (n1 - 1) = n1 - 1 := w64 (by omega) (by omega)
      obtain ⟨ch, hch⟩ : ∃ ch, aAF w key ⟨n1, n2, n3, n4, n5⟩ = ch := ⟨_, rfl⟩
      rw [hch] at hd2
      rcases aDs w ch with ⟨lv, lo, hf, hv⟩ | ⟨lv, lo, hf, hv⟩
      · rw [hf] at hd2
        by_cases h0 : ch = 0
        · simp only [hch, dU.C, hv, h0, decide_true, aA, aA, gq, reduceEq, reduceLT, reduceLE, implies_true, reduceCtorEq, if_true, if_false, go_sem, reduceEqDiff, Nat.reduceLT, reduceAdd, reduceSub, reduceLeDiff, reduceReplicate, reduceToNat]
          rw [h0] at hv
          simp only [hv, aA, aA, gq, reduceEq, reduceLT, reduceLE, implies_true, reduceCtorEq, if_true, if_false, go_sem, reduceEqDiff, Nat.reduceLT, reduceAdd, reduceSub, reduceLeDiff, reduceReplicate, reduceToNat]
          exact ⟨hS, hno _ _ hd2 rfl⟩
        · simp only [hch, dU.C, hv, h0, decide_false, aA, aA, gq, reduceEq, reduceLT, reduceLE, implies_true, reduceCtorEq, if_true, if_false, go_sem, reduceEqDiff, Nat.reduceLT, reduceAdd, reduceSub, reduceLeDiff, reduceReplicate, reduceToNat]
          exact ⟨hS, hno _ _ hd2 rfl⟩
      · rw [hf] at hd2
        simp only at hd2
        by_cases h0 : ch = 0
        · rw [if_pos (.inl h0)] at hd2
          rw [h0] at hv
          simp only [hch, dU.C, h0, decide_true, aA, aA, gq, reduceEq, reduceLT, reduceLE, implies_true, reduceCtorEq, if_true, if_false, go_sem, reduceEqDiff, Nat.reduceLT, reduceAdd, reduceSub, reduceLeDiff, reduceReplicate, reduceToNat]
          simp only [hv, aA, aA, gq, reduceEq, reduceLT, reduceLE, implies_true, reduceCtorEq, if_true, if_false, go_sem, reduceEqDiff, Nat.reduceLT, reduceAdd, reduceSub, reduceLeDiff, reduceReplicate, reduceToNat]
          exact ⟨hS, hno _ _ hd2 rfl⟩
        · by_cases h1 : lv = n1 - 1
          · cases h2 : ltB key lo with
            | true =>
              rw [if_pos (.inr (.inr h2))] at hd2
              simp only [hch, dU.C, hv, h0, e1, h1, h2, decide_false, decide_true, aA, aA, gq, reduceEq, reduceLT, reduceLE, implies_true, reduceCtorEq, if_true, if_false, go_sem, reduceEqDiff, Nat.reduceLT, reduceAdd, reduceSub, reduceLeDiff, reduceReplicate, reduceToNat]
              exact ⟨hS, hno _ _ hd2 rfl⟩
            | false =>
              rw [if_neg (by
                rintro (h | h | h)
                · exact h0 h
                · exact h h1
                · rw [h2] at h; cases h)] at hd2
              simp only [hch, dU.C, hv, h0, e1, h1, h2, decide_false, decide_true, aA, aA, gq, reduceEq, reduceLT, reduceLE, implies_true, reduceCtorEq, if_true, if_false, go_sem, reduceEqDiff, Nat.reduceLT, reduceAdd, reduceSub, reduceLeDiff, reduceReplicate, reduceToNat]
              exact ⟨hS, hyes _ _ _ hd2 rfl⟩
          · rw [if_pos (.inr (.inl h1))] at hd2
            simp only [hch, dU.C, hv, h0, e1, h1, decide_false, decide_true, aA, aA, gq, reduceEq, reduceLT, reduceLE, implies_true, reduceCtorEq, if_true, if_false, go_sem, reduceEqDiff, Nat.reduceLT, reduceAdd, reduceSub, reduceLeDiff, reduceReplicate, reduceToNat]
            exact ⟨hS, hno _ _ hd2 rfl⟩
    clear hk3
    rw [aA]
    refine ⟨fun hn3 => ?_, fun hn3 => rest3 (by rw [hd, if_pos hn3])⟩
    rw [if_neg hn3] at hd
    rcases aDs w n3 with ⟨lv, lo, hf, hv⟩ | ⟨lv, lo, hf, hv⟩
    · rw [hf] at hd
      by_cases h0 : n3 = b
      · simp only [dU.C, hv, h0, decide_true, aA, aA, gq, reduceEq, reduceLT, reduceLE, implies_true, reduceCtorEq, if_true, if_false, go_sem, reduceEqDiff, Nat.reduceLT, reduceAdd, reduceSub, reduceLeDiff, reduceReplicate, reduceToNat]
        rw [h0] at hv
        simp only [hv, aA, aA, gq, reduceEq, reduceLT, reduceLE, implies_true, reduceCtorEq, if_true, if_false, go_sem, reduceEqDiff, Nat.reduceLT, reduceAdd, reduceSub, reduceLeDiff, reduceReplicate, reduceToNat]
        exact ⟨hS, hno _ _ hd rfl⟩
      · simp only [dU.C, hv, h0, decide_false, aA, aA, gq, reduceEq, reduceLT, reduceLE, implies_true, reduceCtorEq, if_true, if_false, go_sem, reduceEqDiff, Nat.reduceLT, reduceAdd, reduceSub, reduceLeDiff, reduceReplicate, reduceToNat]
        exact ⟨hS, hno _ _ hd rfl⟩
    · rw [hf] at hd
      simp only at hd
      by_cases h0 : n3 = b
      · rw [if_pos (.inl h0)] at hd
        rw [h0] at hv
        simp only [dU.C, h0, decide_true, aA, aA, gq, reduceEq, reduceLT, reduceLE, implies_true, reduceCtorEq, if_true, if_false, go_sem, reduceEqDiff, Nat.reduceLT, reduceAdd, reduceSub, reduceLeDiff, reduceReplicate, reduceToNat]
        simp only [hv, aA, aA, gq, reduceEq, reduceLT, reduceLE, implies_true, reduceCtorEq, if_true, if_false, go_sem, reduceEqDiff, Nat.reduceLT, reduceAdd, reduceSub, reduceLeDiff, reduceReplicate, reduceToNat]
        exact ⟨hS, hno _ _ hd rfl⟩
      · by_cases h1 : lv = n1
        · rw [if_neg (by
            rintro (h | h)
            · exact h0 h
            · exact h h1)] at hd
          cases h2 : ltB key lo with
          | true =>
            rw [h2] at hd
            simp only [dU.C, hv, h0, h1, h2, decide_false, decide_true, aA, aA, gq, reduceEq, reduceLT, reduceLE, implies_true, reduceCtorEq, if_true, if_false, go_sem, reduceEqDiff, Nat.reduceLT, reduceAdd, reduceSub, reduceLeDiff, reduceReplicate, reduceToNat]
            exact ⟨hS, rest3 (by rw [hd]; rfl)⟩
          | false =>
            rw [if_pos h2] at hd
            simp only [dU.C, hv, h0, h1, h2, decide_false, decide_true, aA, aA, gq, reduceEq, reduceLT, reduceLE, implies_true, reduceCtorEq, if_true, if_false, go_sem, reduceEqDiff, Nat.reduceLT, reduceAdd, reduceSub, reduceLeDiff, reduceReplicate, reduceToNat]
            exact ⟨hS, hyes _ _ _ hd rfl⟩
        · rw [if_pos (.inr h1)] at hd
          simp only [dU.C, hv, h0, h1, decide_false, decide_true, aA, aA, gq, reduceEq, reduceLT, reduceLE, implies_true, reduceCtorEq, if_true, if_false, go_sem, reduceEqDiff, Nat.reduceLT, reduceAdd, reduceSub, reduceLeDiff, reduceReplicate, reduceToNat]
          exact ⟨hS, hno _ _ hd rfl⟩
end Lam
namespace Lam
open Go
def qN (a lo hi : Nat) (l : List RecT) : Prop := ∀ i c, lo ≤ i → (c = 2 * i + 1 ∨ c = 2 * i + 2) → c < hi → leB (kyL l (a + c)) (kyL l (a + i))
def uS (a lo r hi : Nat) (l : List RecT) : Prop :=
  (∀ i c, lo ≤ i → i ≠ r → (c = 2 * i + 1 ∨ c = 2 * i + 2) → c < hi → leB (kyL l (a + c)) (kyL l (a + i))) ∧
  ∀ i c, lo ≤ i → (r = 2 * i + 1 ∨ r = 2 * i + 2) → (c = 2 * r + 1 ∨ c = 2 * r + 2) → c < hi → leB (kyL l (a + c)) (kyL l (a + i))
theorem uS.begin {a lo hi : Nat} {l : List RecT} (h : qN a (lo + 1) hi l) : uS a lo lo hi l :=
  ⟨fun i c h1 h2 h3 h4 => h i c (by omega) h3 h4, fun i c h1 h2 h3 h4 => by omega⟩
theorem uS.done {a lo r hi : Nat} {l : List RecT} (h : uS a lo r hi l) (hc : ∀ c, (c = 2 * r + 1 ∨ c = 2 * r + 2) → c < hi → leB (kyL l (a + c)) (kyL l (a + r))) : qN a lo hi l := fun i c h1 h2 h3 => by
  by_cases e : i = r
  · subst e; exact hc c h2 h3
  · exact h.1 i c h1 e h2 h3
theorem uS.step {a lo r hi c : Nat} {l : List RecT} (h : uS a lo r hi l) (hr : lo ≤ r) (hc : c = 2 * r + 1 ∨ c = 2 * r + 2) (hch : c < hi) (hl : a + hi ≤ l.length) (hlt : leB (kyL l (a + r)) (kyL l (a + c))) (ho : ∀ d, (d = 2 * r + 1 ∨ d = 2 * r + 2) → d < hi → leB (kyL l (a + d)) (kyL l (a + c))) : uS a lo c hi (gX l (a + r) (a + c)) := by
  obtain ⟨h1, h2⟩ := h
  have hrl : a + r < l.length := by omega
  have hcl : a + c < l.length := by omega
  have e : ∀ k, kyL (gX l (a + r) (a + c)) (a + k) = if k = c then kyL l (a + r) else if k = r then kyL l (a + c) else kyL l (a + k) := fun k => by
    rw [jN hrl hcl]
    by_cases e1 : k = c
    · rw [if_pos (by omega), if_pos e1]
    · rw [if_neg (by omega), if_neg e1]
      by_cases e2 : k = r
      · rw [if_pos (by omega), if_pos e2]
      · rw [if_neg (by omega), if_neg e2]
  refine ⟨fun i d q1 q2 q3 q4 => ?_, fun i d q1 q2 q3 q4 => ?_⟩
  · rw [e, e, if_neg q2]
    by_cases hir : i = r
    · subst hir
      rw [if_pos rfl]
      by_cases hd : d = c
      · rw [if_pos hd]; exact hlt
      · rw [if_neg hd, if_neg (by omega)]; exact ho d q3 q4
    · rw [if_neg hir]
      by_cases hd : d = r
      · subst hd
        rw [if_neg (by omega), if_pos rfl]; exact h2 i c q1 q3 hc hch
      · rw [if_neg (show ¬ d = c by omega), if_neg hd]; exact h1 i d q1 hir q3 q4
  · obtain rfl : i = r := by omega
    rw [e, e, if_neg (show ¬ d = c by omega), if_neg (show ¬ d = i by omega), if_neg (show ¬ i = c by omega), if_pos rfl]
    exact h1 c d (by omega) (by omega) q3 q4
theorem qN.top {a hi : Nat} {l : List RecT} (h : qN a 0 hi l) (k : Nat) : k < hi → leB (kyL l (a + k)) (kyL l a) := by
  induction k using Nat.strongRecOn with
  | _ k ih =>
    intro hk
    cases k with
    | zero => exact yZ _
    | succ k => exact tQ (h (k / 2) (k + 1) (Nat.zero_le _) (by omega) hk) (ih (k / 2) (by omega) (by omega))
def qO (a n b : Nat) (l : List RecT) : Prop := qN a 0 n l ∧ SegS (a + n) b l ∧ ∀ p q, p < n → a + n ≤ q → q < b → leB (kyL l (a + p)) (kyL l q)
theorem qO.begin {a b : Nat} {l : List RecT} (hab : a ≤ b) (h : qN a 0 (b - a) l) : qO a (b - a) b l :=
  ⟨h, SegS.one (by omega), fun p q h1 h2 h3 => by omega⟩
theorem qO.heap {a n b : Nat} {l : List RecT} (h : qO a (n + 1) b l) (hb : a + n < b) (hl : b ≤ l.length) : qN a 1 n (gX l a (a + n)) := fun i c h1 h2 h3 => by
  rw [jN (by omega) (by omega), jN (by omega) (by omega), if_neg (by omega), if_neg (by omega), if_neg (by omega), if_neg (by omega)]
  exact h.1 i c (Nat.zero_le _) h2 (by omega)
theorem qO.next {a n b : Nat} {l l2 : List RecT} (h : qO a (n + 1) b l) (hb : a + n < b) (hl : b ≤ l.length) (hs : SegP a (a + n) (gX l a (a + n)) l2) (hh : qN a 0 n l2) : qO a n b l2 := by
  obtain ⟨h1, h2, h3⟩ := h
  have hal : a < l.length := by omega
  have hnl : a + n < l.length := by omega
  have e1 : kyL l2 (a + n) = kyL l a := by rw [hs.same (by omega), jN hal hnl, if_pos rfl]
  have e2 : ∀ q, a + n < q → kyL l2 q = kyL l q := fun q hq => by rw [hs.same (by omega), jN hal hnl, if_neg (by omega), if_neg (by omega)]
  have e3 : ∀ p, p < n → ∃ p', p' < n + 1 ∧ kyL l2 (a + p) = kyL l (a + p') := fun p hp => by
    obtain ⟨k', q1, q2, e⟩ := hs.from (k := a + p) (by omega) (by omega)
    rw [e, jN hal hnl, if_neg (by omega)]
    by_cases hk : k' = a
    · rw [if_pos hk]; exact ⟨n, by omega, rfl⟩
    · rw [if_neg hk]; exact ⟨k' - a, by omega, by rw [show a + (k' - a) = k' by omega]⟩
  have htop : ∀ p', p' < n + 1 → leB (kyL l (a + p')) (kyL l a) := fun p' hp => h1.top p' hp
  refine ⟨hh, fun p q p1 p2 p3 => ?_, fun p q p1 p2 p3 => ?_⟩
  · rw [e2 q (by omega)]
    by_cases hp : p = a + n
    · subst hp; rw [e1]; exact h3 0 q (by omega) (by omega) p3
    · rw [e2 p (by omega)]; exact h2 p q (by omega) p2 p3
  · obtain ⟨p', g1, g2⟩ := e3 p p1
    rw [g2]
    by_cases hq : q = a + n
    · subst hq; rw [e1]; exact htop p' g1
    · rw [e2 q (by omega)]; exact h3 p' q g1 (by omega) p3
theorem qO.fin {a b : Nat} {l : List RecT} (h : qO a 0 b l) : SegS a b l := h.2.1
theorem SegP.le {a b : Nat} {l l' : List RecT} (h : SegP a b l l') {x : bD} (hx : ∀ k, a ≤ k → k < b → leB x (kyL l k)) : ∀ k, a ≤ k → k < b → leB x (kyL l' k) := fun k h1 h2 => by
  obtain ⟨k', q1, q2, e⟩ := h.from h1 h2
  rw [e]; exact hx k' q1 q2
end Lam
namespace Lam
open Go Go.Proofs
def bG.loops : Nat → bU
 | _ => ⟨[], [], [], [], [], []⟩
def bG.H (c : Ctx) (t0 : AV) (t1 : AV) (h : List AObj) (K : AOut → List AObj → Prop) : Prop :=
 runD (lenD aS h t0) h fun t6 h =>
 runD (jO h aB rW t6) h fun t10 h =>
 aP false c (.fn (.func 120) [] []) [t10] h (fun t11 h =>
 aP false c (.fn (.func 119) [] []) [t0, (.int .i64 0), t6, t11, t1] h (fun t13 h =>
 K (.ret (.tup [])) h)
 (fun v h => K (.pan v) h))
 (fun v h => K (.pan v) h)
def bS.loops : Nat → bU
 | 2 => ⟨[1, 2, 3, 10, 11], [false, false, false, false, false], [0, 4], [], [], []⟩
 | 15 => ⟨[], [], [], [(2, none), (1, some [69, 70]), (2, none), (2, some [72, 74])], [], []⟩
 | _ => ⟨[], [], [], [], [], []⟩
def bS.L1 (c : Ctx) (K : AOut → List AObj → Prop) (lv : List AV) (h0 : List AObj) (n0 : Nat) (c0 : AV) (c4 : AV) : Prop :=
 ∃ I : Nat → List AV → List AObj → Prop, (∃ n, I n lv h0) ∧ ∀ n h, ∀ t1, ∀ t2, ∀ t3, ∀ t10, ∀ t11, I n [t1, t2, t3, t10, t11] h →
 aL (fun (J2 : AV → AV → AV → AV → AV → List AObj → Prop) =>
 runD (binD aB .sub t2 t1) h fun t23 h =>
 runD (binD aB .leq t23 (.int .i64 12)) h fun t25 h =>
 bE t25
 (aP false c (.fn (.func 126) [] []) [c0, t1, t2, c4] h (fun t30 h =>
 K (.ret (.tup [])) h)
 (fun v h => K (.pan v) h))
 (runD (binD aB .eql t3 (.int .i64 0)) h fun t32 h =>
 bE t32
 (aP false c (.fn (.func 127) [] []) [c0, t1, t2, c4] h (fun t37 h =>
 K (.ret (.tup [])) h)
 (fun v h => K (.pan v) h))
 (runD (unD .not t10) h fun t39 h =>
 aL (fun (J3 : AV → List AObj → Prop) =>
 bE t39
 (aP false c (.fn (.func 128) [] []) [c0, t1, t2, c4] h (fun t44 h =>
 runD (binD aB .sub t3 (.int .i64 1)) h fun t46 h =>
 J3 t46 h)
 (fun v h => K (.pan v) h))
 (J3 t3 h))
 (fun t3 h => aP false c (.fn (.func 129) [] []) [c0, t1, t2, c4] h (fun t52 h =>
 runD (aW t52 0) h fun t53 h =>
 runD (aW t52 1) h fun t54 h =>
 runD (binD mD .eql t54 (.int .i64 2)) h fun t56 h =>
 aL (fun (J4 : AV → AV → List AObj → Prop) =>
 bE t56
 (aP false c (.fn (.func 130) [] []) [c0, t1, t2, c4] h (fun t61 h =>
 runD (binD aB .sub t2 (.int .i64 1)) h fun t63 h =>
 runD (binD aB .sub t53 t1) h fun t66 h =>
 runD (binD aB .sub t63 t66) h fun t67 h =>
 J4 t67 (.int .i64 1) h)
 (fun v h => K (.pan v) h))
 (J4 t53 t54 h))
 (fun t13 t14 h => aL (fun (J5 : AV → AV → List AObj → Prop) =>
 bF t10 true
 (J5 (.bool true) t11 h)
 (J5 (.bool false) .und h))
 (fun t69 t70 h => runD (bT t69 t70 (.bool false)) h fun t71 h =>
 aL (fun (J6 : AV → AV → List AObj → Prop) =>
 bF t71 true
 (runD (binD mD .eql t14 (.int .i64 1)) h fun t74 h =>
 J6 (.bool true) t74 h)
 (J6 (.bool false) .und h))
 (fun t72 t74 h => runD (bT t72 t74 (.bool false)) h fun t75 h =>
 aL (fun (J7 : List AObj → Prop) =>
 bE t75
 (aP false c (.fn (.func 131) [] []) [c0, t1, t2, c4] h (fun t80 h =>
 bE t80
 (K (.ret (.tup [])) h)
 (J7 h))
 (fun v h => K (.pan v) h))
 (J7 h))
 (fun h => runD (binD aB .gtr t1 (.int .i64 0)) h fun t82 h =>
 aL (fun (J8 : AV → AV → List AObj → Prop) =>
 bF t82 true
 (runD (binD aB .sub t1 (.int .i64 1)) h fun t87 h =>
 runD (aG aS h c0 t87) h fun t88 h =>
 runD (fitD aJ (aD h t88)) h fun t89 h =>
 runD (aG aS h c0 t13) h fun t92 h =>
 runD (fitD aJ (aD h t92)) h fun t93 h =>
 aP false c.noS c4 [t89, t93] h (fun t94 h =>
 runD (binD aB .lss t94 (.int .i64 0)) h fun t95 h =>
 runD (unD .not t95) h fun t96 h =>
 J8 (.bool true) t96 h)
 (fun _ _ => False))
 (J8 (.bool false) .und h))
 (fun t83 t96 h => runD (bT t83 t96 (.bool false)) h fun t97 h =>
 bE t97
 (aP false c (.fn (.func 132) [] []) [c0, t1, t2, t13, c4] h (fun t103 h =>
 J2 t103 t2 t3 t10 t11 h)
 (fun v h => K (.pan v) h))
 (aP false c (.fn (.func 133) [] []) [c0, t1, t2, t13, c4] h (fun t111 h =>
 runD (aW t111 0) h fun t112 h =>
 runD (aW t111 1) h fun t113 h =>
 runD (binD aB .sub t112 t1) h fun t117 h =>
 runD (binD aB .sub t2 t112) h fun t120 h =>
 runD (binD aB .quo t23 (.int .i64 8)) h fun t122 h =>
 runD (binD aB .lss t117 t120) h fun t125 h =>
 aL (fun (J9 : AV → AV → AV → List AObj → Prop) =>
 bE t125
 (runD (binD aB .geq t117 t122) h fun t128 h =>
 aP false c (.fn (.func 119) [] []) [c0, t1, t112, t3, c4] h (fun t134 h =>
 runD (binD aB .add t112 (.int .i64 1)) h fun t136 h =>
 J9 t136 t2 t128 h)
 (fun v h => K (.pan v) h))
 (runD (binD aB .geq t120 t122) h fun t139 h =>
 runD (binD aB .add t112 (.int .i64 1)) h fun t142 h =>
 aP false c (.fn (.func 119) [] []) [c0, t142, t2, t3, c4] h (fun t146 h =>
 J9 t1 t112 t139 h)
 (fun v h => K (.pan v) h)))
 (fun t1 t2 t10 h => J2 t1 t2 t3 t10 t113 h))
 (fun v h => K (.pan v) h))))))))
 (fun v h => K (.pan v) h)))))
 (fun t1 t2 t3 t10 t11 h => (∃ m, m < n ∧ I m (AV.norms n0 h [t1, t2, t3, t10, t11]) (cJ n0 h)) ∧ AV.norms n0 h [c0, c4] = [c0, c4])
def bS.H (c : Ctx) (t0 : AV) (t1 : AV) (t2 : AV) (t3 : AV) (t4 : AV) (h : List AObj) (K : AOut → List AObj → Prop) : Prop :=
 aL (fun (J1 : List AObj → Prop) =>
 dM [false, false, false, false, false] [t1, t2, t3, (.bool true), (.bool true)] h fun lv h => bS.L1 c K (AV.norms h.length h lv) (cJ h.length h) h.length (AV.norm h.length h t0) (AV.norm h.length h t4))
 (fun h => K (.ret (.tup [])) h)
def bK.loops : Nat → bU
 | _ => ⟨[], [], [], [], [], []⟩
def bK.H (c : Ctx) (t0 : AV) (t1 : AV) (t2 : AV) (t3 : AV) (h : List AObj) (K : AOut → List AObj → Prop) : Prop :=
 runD (binD aB .sub t2 t1) h fun t17 h =>
 cS aB h fun t11 h =>
 runD (binD aB .quo t17 (.int .i64 4)) h fun t20 h =>
 runD (binD aB .mul t20 (.int .i64 1)) h fun t21 h =>
 runD (binD aB .add t1 t21) h fun t22 h =>
 runD (binD aB .quo t17 (.int .i64 4)) h fun t25 h =>
 runD (binD aB .mul t25 (.int .i64 2)) h fun t26 h =>
 runD (binD aB .add t1 t26) h fun t27 h =>
 runD (binD aB .quo t17 (.int .i64 4)) h fun t30 h =>
 runD (binD aB .mul t30 (.int .i64 3)) h fun t31 h =>
 runD (binD aB .add t1 t31) h fun t32 h =>
 runD (binD aB .geq t17 (.int .i64 8)) h fun t34 h =>
 aL (fun (J1 : AV → List AObj → Prop) =>
 bE t34
 (runD (binD aB .geq t17 (.int .i64 50)) h fun t36 h =>
 aL (fun (J2 : AV → AV → AV → List AObj → Prop) =>
 bE t36
 (aP false c (.fn (.func 145) [] []) [t0, t22, t11, t3] h (fun t40 h =>
 aP false c (.fn (.func 145) [] []) [t0, t27, t11, t3] h (fun t44 h =>
 aP false c (.fn (.func 145) [] []) [t0, t32, t11, t3] h (fun t48 h =>
 J2 t40 t44 t48 h)
 (fun v h => K (.pan v) h))
 (fun v h => K (.pan v) h))
 (fun v h => K (.pan v) h))
 (J2 t22 t27 t32 h))
 (fun t12 t13 t14 h => aP false c (.fn (.func 146) [] []) [t0, t12, t13, t14, t11, t3] h (fun t54 h =>
 J1 t54 h)
 (fun v h => K (.pan v) h)))
 (J1 t27 h))
 (fun t13 h => runD (fitD aB (aD h t11)) h fun t55 h =>
 runD (binD aB .eql t55 (.int .i64 0)) h fun t58 h =>
 bE t58
 (K (.ret (.tup [t13, (.int .i64 1)])) h)
 (runD (binD aB .eql t55 (.int .i64 12)) h fun t61 h =>
 bE t61
 (K (.ret (.tup [t13, (.int .i64 2)])) h)
 (K (.ret (.tup [t13, (.int .i64 0)])) h)))
def aF.loops : Nat → bU
 | 3 => ⟨[9, 10], [false, false], [0, 1, 2, 3], [], [], []⟩
 | 5 => ⟨[9], [false], [0, 1, 2, 3, 10], [], [], []⟩
 | 14 => ⟨[11], [false], [0, 1, 2, 3, 9, 10], [], [], []⟩
 | 20 => ⟨[12], [false], [0, 1, 2, 3, 9, 10], [], [], []⟩
 | _ => ⟨[], [], [], [], [], []⟩
def aF.L2 (c : Ctx) (J3 : AV → AV → AV → AV → AV → AV → List AObj → Prop) (K : AOut → List AObj → Prop) (lv : List AV) (h0 : List AObj) (n0 : Nat) (c0 : AV) (c1 : AV) (c2 : AV) (c3 : AV) (c10 : AV) : Prop :=
 ∃ I : Nat → List AV → List AObj → Prop, (∃ n, I n lv h0) ∧ ∀ n h, ∀ t9, I n [t9] h →
 runD (binD aB .lss t9 c2) h fun t21 h =>
 aL (fun (J4 : AV → AV → List AObj → Prop) =>
 bF t21 true
 (runD (aG aS h c0 t9) h fun t26 h =>
 runD (fitD aJ (aD h t26)) h fun t27 h =>
 runD (binD aB .sub t9 (.int .i64 1)) h fun t30 h =>
 runD (aG aS h c0 t30) h fun t31 h =>
 runD (fitD aJ (aD h t31)) h fun t32 h =>
 aP false c.noS c3 [t27, t32] h (fun t33 h =>
 runD (binD aB .lss t33 (.int .i64 0)) h fun t34 h =>
 runD (unD .not t34) h fun t35 h =>
 J4 (.bool true) t35 h)
 (fun _ _ => False))
 (J4 (.bool false) .und h))
 (fun t22 t35 h => runD (bT t22 t35 (.bool false)) h fun t36 h =>
 bE t36
 (runD (binD aB .add t9 (.int .i64 1)) h fun t38 h =>
 (∃ m, m < n ∧ I m (AV.norms n0 h [t38]) (cJ n0 h)) ∧ AV.norms n0 h [c0, c1, c2, c3, c10] = [c0, c1, c2, c3, c10])
 (J3 c0 c1 c2 c3 t9 c10 h))
def aF.L3 (c : Ctx) (J6 : AV → AV → AV → AV → AV → AV → List AObj → Prop) (K : AOut → List AObj → Prop) (lv : List AV) (h0 : List AObj) (n0 : Nat) (c0 : AV) (c1 : AV) (c2 : AV) (c3 : AV) (c9 : AV) (c10 : AV) : Prop :=
 ∃ I : Nat → List AV → List AObj → Prop, (∃ n, I n lv h0) ∧ ∀ n h, ∀ t11, I n [t11] h →
 runD (binD aB .geq t11 (.int .i64 1)) h fun t69 h =>
 bE t69
 (runD (aG aS h c0 t11) h fun t75 h =>
 runD (fitD aJ (aD h t75)) h fun t76 h =>
 runD (binD aB .sub t11 (.int .i64 1)) h fun t79 h =>
 runD (aG aS h c0 t79) h fun t80 h =>
 runD (fitD aJ (aD h t80)) h fun t81 h =>
 aP false c.noS c3 [t76, t81] h (fun t82 h =>
 runD (binD aB .lss t82 (.int .i64 0)) h fun t83 h =>
 runD (unD .not t83) h fun t84 h =>
 bE t84
 (J6 c0 c1 c2 c3 c9 c10 h)
 (runD (binD aB .sub t11 (.int .i64 1)) h fun t89 h =>
 runD (binD aB .sub t11 (.int .i64 1)) h fun t92 h =>
 runD (aG aS h c0 t92) h fun t93 h =>
 runD (fitD aJ (aD h t93)) h fun t94 h =>
 runD (aG aS h c0 t11) h fun t97 h =>
 runD (fitD aJ (aD h t97)) h fun t98 h =>
 runD (aG aS h c0 t11) h fun t99 h =>
 runH (aR aJ h t99 t94) h fun _ h =>
 runD (aG aS h c0 t89) h fun t100 h =>
 runH (aR aJ h t100 t98) h fun _ h =>
 runD (binD aB .sub t11 (.int .i64 1)) h fun t71 h =>
 (∃ m, m < n ∧ I m (AV.norms n0 h [t71]) (cJ n0 h)) ∧ AV.norms n0 h [c0, c1, c2, c3, c9, c10] = [c0, c1, c2, c3, c9, c10]))
 (fun _ _ => False))
 (J6 c0 c1 c2 c3 c9 c10 h)
def aF.L4 (c : Ctx) (J8 : AV → AV → AV → AV → AV → AV → List AObj → Prop) (K : AOut → List AObj → Prop) (lv : List AV) (h0 : List AObj) (n0 : Nat) (c0 : AV) (c1 : AV) (c2 : AV) (c3 : AV) (c9 : AV) (c10 : AV) : Prop :=
 ∃ I : Nat → List AV → List AObj → Prop, (∃ n, I n lv h0) ∧ ∀ n h, ∀ t12, I n [t12] h →
 runD (binD aB .lss t12 c2) h fun t109 h =>
 bE t109
 (runD (aG aS h c0 t12) h fun t115 h =>
 runD (fitD aJ (aD h t115)) h fun t116 h =>
 runD (binD aB .sub t12 (.int .i64 1)) h fun t119 h =>
 runD (aG aS h c0 t119) h fun t120 h =>
 runD (fitD aJ (aD h t120)) h fun t121 h =>
 aP false c.noS c3 [t116, t121] h (fun t122 h =>
 runD (binD aB .lss t122 (.int .i64 0)) h fun t123 h =>
 runD (unD .not t123) h fun t124 h =>
 bE t124
 (J8 c0 c1 c2 c3 c9 c10 h)
 (runD (binD aB .sub t12 (.int .i64 1)) h fun t129 h =>
 runD (binD aB .sub t12 (.int .i64 1)) h fun t132 h =>
 runD (aG aS h c0 t132) h fun t133 h =>
 runD (fitD aJ (aD h t133)) h fun t134 h =>
 runD (aG aS h c0 t12) h fun t137 h =>
 runD (fitD aJ (aD h t137)) h fun t138 h =>
 runD (aG aS h c0 t12) h fun t139 h =>
 runH (aR aJ h t139 t134) h fun _ h =>
 runD (aG aS h c0 t129) h fun t140 h =>
 runH (aR aJ h t140 t138) h fun _ h =>
 runD (binD aB .add t12 (.int .i64 1)) h fun t111 h =>
 (∃ m, m < n ∧ I m (AV.norms n0 h [t111]) (cJ n0 h)) ∧ AV.norms n0 h [c0, c1, c2, c3, c9, c10] = [c0, c1, c2, c3, c9, c10]))
 (fun _ _ => False))
 (J8 c0 c1 c2 c3 c9 c10 h)
def aF.L1 (c : Ctx) (J1 : List AObj → Prop) (K : AOut → List AObj → Prop) (lv : List AV) (h0 : List AObj) (n0 : Nat) (c0 : AV) (c1 : AV) (c2 : AV) (c3 : AV) : Prop :=
 ∃ I : Nat → List AV → List AObj → Prop, (∃ n, I n lv h0) ∧ ∀ n h, ∀ t9, ∀ t10, I n [t9, t10] h →
 runD (binD aB .lss t10 (.int .i64 5)) h fun t16 h =>
 bE t16
 (aL (fun (J2 : AV → AV → AV → AV → AV → AV → List AObj → Prop) =>
 aL (fun (J3 : AV → AV → AV → AV → AV → AV → List AObj → Prop) =>
 dM [false] [t9] h fun lv h => aF.L2 c J3 K (AV.norms h.length h lv) (cJ h.length h) h.length (AV.norm h.length h c0) (AV.norm h.length h c1) (AV.norm h.length h c2) (AV.norm h.length h c3) (AV.norm h.length h t10))
 (fun t0 t1 t2 t3 t9 t10 h => runD (binD aB .eql t9 t2) h fun t41 h =>
 bE t41
 (K (.ret (.bool true)) h)
 (runD (binD aB .sub t2 t1) h fun t44 h =>
 runD (binD aB .lss t44 (.int .i64 50)) h fun t45 h =>
 bE t45
 (K (.ret (.bool false)) h)
 (runD (binD aB .sub t9 (.int .i64 1)) h fun t50 h =>
 runD (binD aB .sub t9 (.int .i64 1)) h fun t53 h =>
 runD (aG aS h t0 t53) h fun t54 h =>
 runD (fitD aJ (aD h t54)) h fun t55 h =>
 runD (aG aS h t0 t9) h fun t58 h =>
 runD (fitD aJ (aD h t58)) h fun t59 h =>
 runD (aG aS h t0 t9) h fun t60 h =>
 runH (aR aJ h t60 t55) h fun _ h =>
 runD (aG aS h t0 t50) h fun t61 h =>
 runH (aR aJ h t61 t59) h fun _ h =>
 runD (binD aB .sub t9 t1) h fun t64 h =>
 runD (binD aB .geq t64 (.int .i64 2)) h fun t65 h =>
 aL (fun (J5 : AV → AV → AV → AV → AV → AV → List AObj → Prop) =>
 bE t65
 (runD (binD aB .sub t9 (.int .i64 1)) h fun t67 h =>
 aL (fun (J6 : AV → AV → AV → AV → AV → AV → List AObj → Prop) =>
 dM [false] [t67] h fun lv h => aF.L3 c J6 K (AV.norms h.length h lv) (cJ h.length h) h.length (AV.norm h.length h t0) (AV.norm h.length h t1) (AV.norm h.length h t2) (AV.norm h.length h t3) (AV.norm h.length h t9) (AV.norm h.length h t10))
 (fun t0 t1 t2 t3 t9 t10 h => J5 t0 t1 t2 t3 t9 t10 h))
 (J5 t0 t1 t2 t3 t9 t10 h))
 (fun t0 t1 t2 t3 t9 t10 h => runD (binD aB .sub t2 t9) h fun t103 h =>
 runD (binD aB .geq t103 (.int .i64 2)) h fun t104 h =>
 aL (fun (J7 : AV → AV → AV → AV → AV → AV → List AObj → Prop) =>
 bE t104
 (runD (binD aB .add t9 (.int .i64 1)) h fun t106 h =>
 aL (fun (J8 : AV → AV → AV → AV → AV → AV → List AObj → Prop) =>
 dM [false] [t106] h fun lv h => aF.L4 c J8 K (AV.norms h.length h lv) (cJ h.length h) h.length (AV.norm h.length h t0) (AV.norm h.length h t1) (AV.norm h.length h t2) (AV.norm h.length h t3) (AV.norm h.length h t9) (AV.norm h.length h t10))
 (fun t0 t1 t2 t3 t9 t10 h => J7 t0 t1 t2 t3 t9 t10 h))
 (J7 t0 t1 t2 t3 t9 t10 h))
 (fun t0 t1 t2 t3 t9 t10 h => J2 t0 t1 t2 t3 t9 t10 h))))))
 (fun t0 t1 t2 t3 t9 t10 h => runD (binD aB .add t10 (.int .i64 1)) h fun t18 h =>
 (∃ m, m < n ∧ I m (AV.norms n0 h [t9, t18]) (cJ n0 h)) ∧ AV.norms n0 h [t0, t1, t2, t3] = [c0, c1, c2, c3]))
 (J1 h)
def aF.H (c : Ctx) (t0 : AV) (t1 : AV) (t2 : AV) (t3 : AV) (h : List AObj) (K : AOut → List AObj → Prop) : Prop :=
 runD (binD aB .add t1 (.int .i64 1)) h fun t14 h =>
 aL (fun (J1 : List AObj → Prop) =>
 dM [false, false] [t14, (.int .i64 0)] h fun lv h => aF.L1 c J1 K (AV.norms h.length h lv) (cJ h.length h) h.length (AV.norm h.length h t0) (AV.norm h.length h t1) (AV.norm h.length h t2) (AV.norm h.length h t3))
 (fun h => K (.ret (.bool false)) h)
def aI.loops : Nat → bU
 | 3 => ⟨[12], [false], [0, 1, 4, 13], [], [], []⟩
 | 5 => ⟨[13], [false], [0, 1, 4, 12], [], [], []⟩
 | 13 => ⟨[12], [false], [0, 1, 4, 13], [], [], []⟩
 | 15 => ⟨[13], [false], [0, 1, 4, 12], [], [], []⟩
 | 1013 => ⟨[12, 13], [false, false], [0, 1, 4], [], [], []⟩
 | _ => ⟨[], [], [], [], [], []⟩
def aI.L1 (c : Ctx) (J1 : AV → AV → AV → AV → AV → List AObj → Prop) (K : AOut → List AObj → Prop) (lv : List AV) (h0 : List AObj) (n0 : Nat) (c0 : AV) (c1 : AV) (c4 : AV) (c13 : AV) : Prop :=
 ∃ I : Nat → List AV → List AObj → Prop, (∃ n, I n lv h0) ∧ ∀ n h, ∀ t12, I n [t12] h →
 runD (binD aB .leq t12 c13) h fun t34 h =>
 aL (fun (J2 : AV → AV → List AObj → Prop) =>
 bF t34 true
 (runD (aG aS h c0 t12) h fun t39 h =>
 runD (fitD aJ (aD h t39)) h fun t40 h =>
 runD (aG aS h c0 c1) h fun t43 h =>
 runD (fitD aJ (aD h t43)) h fun t44 h =>
 aP false c.noS c4 [t40, t44] h (fun t45 h =>
 runD (binD aB .lss t45 (.int .i64 0)) h fun t46 h =>
 J2 (.bool true) t46 h)
 (fun _ _ => False))
 (J2 (.bool false) .und h))
 (fun t35 t46 h => runD (bT t35 t46 (.bool false)) h fun t47 h =>
 bE t47
 (runD (binD aB .add t12 (.int .i64 1)) h fun t49 h =>
 (∃ m, m < n ∧ I m (AV.norms n0 h [t49]) (cJ n0 h)) ∧ AV.norms n0 h [c0, c1, c4, c13] = [c0, c1, c4, c13])
 (J1 c0 c1 c4 t12 c13 h))
def aI.L2 (c : Ctx) (J3 : AV → AV → AV → AV → AV → List AObj → Prop) (K : AOut → List AObj → Prop) (lv : List AV) (h0 : List AObj) (n0 : Nat) (c0 : AV) (c1 : AV) (c4 : AV) (c12 : AV) : Prop :=
 ∃ I : Nat → List AV → List AObj → Prop, (∃ n, I n lv h0) ∧ ∀ n h, ∀ t13, I n [t13] h →
 runD (binD aB .leq c12 t13) h fun t52 h =>
 aL (fun (J4 : AV → AV → List AObj → Prop) =>
 bF t52 true
 (runD (aG aS h c0 t13) h fun t57 h =>
 runD (fitD aJ (aD h t57)) h fun t58 h =>
 runD (aG aS h c0 c1) h fun t61 h =>
 runD (fitD aJ (aD h t61)) h fun t62 h =>
 aP false c.noS c4 [t58, t62] h (fun t63 h =>
 runD (binD aB .lss t63 (.int .i64 0)) h fun t64 h =>
 runD (unD .not t64) h fun t65 h =>
 J4 (.bool true) t65 h)
 (fun _ _ => False))
 (J4 (.bool false) .und h))
 (fun t53 t65 h => runD (bT t53 t65 (.bool false)) h fun t66 h =>
 bE t66
 (runD (binD aB .sub t13 (.int .i64 1)) h fun t68 h =>
 (∃ m, m < n ∧ I m (AV.norms n0 h [t68]) (cJ n0 h)) ∧ AV.norms n0 h [c0, c1, c4, c12] = [c0, c1, c4, c12])
 (J3 c0 c1 c4 c12 t13 h))
def aI.L4 (c : Ctx) (J7 : AV → AV → AV → AV → AV → List AObj → Prop) (K : AOut → List AObj → Prop) (lv : List AV) (h0 : List AObj) (n0 : Nat) (c0 : AV) (c1 : AV) (c4 : AV) (c13 : AV) : Prop :=
 ∃ I : Nat → List AV → List AObj → Prop, (∃ n, I n lv h0) ∧ ∀ n h, ∀ t12, I n [t12] h →
 runD (binD aB .leq t12 c13) h fun t107 h =>
 aL (fun (J8 : AV → AV → List AObj → Prop) =>
 bF t107 true
 (runD (aG aS h c0 t12) h fun t112 h =>
 runD (fitD aJ (aD h t112)) h fun t113 h =>
 runD (aG aS h c0 c1) h fun t116 h =>
 runD (fitD aJ (aD h t116)) h fun t117 h =>
 aP false c.noS c4 [t113, t117] h (fun t118 h =>
 runD (binD aB .lss t118 (.int .i64 0)) h fun t119 h =>
 J8 (.bool true) t119 h)
 (fun _ _ => False))
 (J8 (.bool false) .und h))
 (fun t108 t119 h => runD (bT t108 t119 (.bool false)) h fun t120 h =>
 bE t120
 (runD (binD aB .add t12 (.int .i64 1)) h fun t122 h =>
 (∃ m, m < n ∧ I m (AV.norms n0 h [t122]) (cJ n0 h)) ∧ AV.norms n0 h [c0, c1, c4, c13] = [c0, c1, c4, c13])
 (J7 c0 c1 c4 t12 c13 h))
def aI.L5 (c : Ctx) (J9 : AV → AV → AV → AV → AV → List AObj → Prop) (K : AOut → List AObj → Prop) (lv : List AV) (h0 : List AObj) (n0 : Nat) (c0 : AV) (c1 : AV) (c4 : AV) (c12 : AV) : Prop :=
 ∃ I : Nat → List AV → List AObj → Prop, (∃ n, I n lv h0) ∧ ∀ n h, ∀ t13, I n [t13] h →
 runD (binD aB .leq c12 t13) h fun t125 h =>
 aL (fun (J10 : AV → AV → List AObj → Prop) =>
 bF t125 true
 (runD (aG aS h c0 t13) h fun t130 h =>
 runD (fitD aJ (aD h t130)) h fun t131 h =>
 runD (aG aS h c0 c1) h fun t134 h =>
 runD (fitD aJ (aD h t134)) h fun t135 h =>
 aP false c.noS c4 [t131, t135] h (fun t136 h =>
 runD (binD aB .lss t136 (.int .i64 0)) h fun t137 h =>
 runD (unD .not t137) h fun t138 h =>
 J10 (.bool true) t138 h)
 (fun _ _ => False))
 (J10 (.bool false) .und h))
 (fun t126 t138 h => runD (bT t126 t138 (.bool false)) h fun t139 h =>
 bE t139
 (runD (binD aB .sub t13 (.int .i64 1)) h fun t141 h =>
 (∃ m, m < n ∧ I m (AV.norms n0 h [t141]) (cJ n0 h)) ∧ AV.norms n0 h [c0, c1, c4, c12] = [c0, c1, c4, c12])
 (J9 c0 c1 c4 c12 t13 h))
def aI.L3 (c : Ctx) (J5 : AV → AV → AV → List AObj → Prop) (K : AOut → List AObj → Prop) (lv : List AV) (h0 : List AObj) (n0 : Nat) (c0 : AV) (c1 : AV) (c4 : AV) : Prop :=
 ∃ I : Nat → List AV → List AObj → Prop, (∃ n, I n lv h0) ∧ ∀ n h, ∀ t12, ∀ t13, I n [t12, t13] h →
 aL (fun (J6 : AV → AV → AV → AV → AV → List AObj → Prop) =>
 aL (fun (J7 : AV → AV → AV → AV → AV → List AObj → Prop) =>
 dM [false] [t12] h fun lv h => aI.L4 c J7 K (AV.norms h.length h lv) (cJ h.length h) h.length (AV.norm h.length h c0) (AV.norm h.length h c1) (AV.norm h.length h c4) (AV.norm h.length h t13))
 (fun t0 t1 t4 t12 t13 h => aL (fun (J9 : AV → AV → AV → AV → AV → List AObj → Prop) =>
 dM [false] [t13] h fun lv h => aI.L5 c J9 K (AV.norms h.length h lv) (cJ h.length h) h.length (AV.norm h.length h t0) (AV.norm h.length h t1) (AV.norm h.length h t4) (AV.norm h.length h t12))
 (fun t0 t1 t4 t12 t13 h => runD (binD aB .gtr t12 t13) h fun t144 h =>
 bE t144
 (J5 t0 t1 t13 h)
 (runD (aG aS h t0 t13) h fun t151 h =>
 runD (fitD aJ (aD h t151)) h fun t152 h =>
 runD (aG aS h t0 t12) h fun t155 h =>
 runD (fitD aJ (aD h t155)) h fun t156 h =>
 runD (aG aS h t0 t12) h fun t157 h =>
 runH (aR aJ h t157 t152) h fun _ h =>
 runD (aG aS h t0 t13) h fun t158 h =>
 runH (aR aJ h t158 t156) h fun _ h =>
 runD (binD aB .add t12 (.int .i64 1)) h fun t160 h =>
 runD (binD aB .sub t13 (.int .i64 1)) h fun t162 h =>
 J6 t0 t1 t4 t160 t162 h))))
 (fun t0 t1 t4 t12 t13 h => (∃ m, m < n ∧ I m (AV.norms n0 h [t12, t13]) (cJ n0 h)) ∧ AV.norms n0 h [t0, t1, t4] = [c0, c1, c4])
def aI.H (c : Ctx) (t0 : AV) (t1 : AV) (t2 : AV) (t3 : AV) (t4 : AV) (h : List AObj) (K : AOut → List AObj → Prop) : Prop :=
 runD (aG aS h t0 t3) h fun t20 h =>
 runD (fitD aJ (aD h t20)) h fun t21 h =>
 runD (aG aS h t0 t1) h fun t24 h =>
 runD (fitD aJ (aD h t24)) h fun t25 h =>
 runD (aG aS h t0 t1) h fun t26 h =>
 runH (aR aJ h t26 t21) h fun _ h =>
 runD (aG aS h t0 t3) h fun t27 h =>
 runH (aR aJ h t27 t25) h fun _ h =>
 runD (binD aB .add t1 (.int .i64 1)) h fun t29 h =>
 runD (binD aB .sub t2 (.int .i64 1)) h fun t31 h =>
 aL (fun (J1 : AV → AV → AV → AV → AV → List AObj → Prop) =>
 dM [false] [t29] h fun lv h => aI.L1 c J1 K (AV.norms h.length h lv) (cJ h.length h) h.length (AV.norm h.length h t0) (AV.norm h.length h t1) (AV.norm h.length h t4) (AV.norm h.length h t31))
 (fun t0 t1 t4 t12 t13 h => aL (fun (J3 : AV → AV → AV → AV → AV → List AObj → Prop) =>
 dM [false] [t13] h fun lv h => aI.L2 c J3 K (AV.norms h.length h lv) (cJ h.length h) h.length (AV.norm h.length h t0) (AV.norm h.length h t1) (AV.norm h.length h t4) (AV.norm h.length h t12))
 (fun t0 t1 t4 t12 t13 h => runD (binD aB .gtr t12 t13) h fun t71 h =>
 bE t71
 (runD (aG aS h t0 t1) h fun t78 h =>
 runD (fitD aJ (aD h t78)) h fun t79 h =>
 runD (aG aS h t0 t13) h fun t82 h =>
 runD (fitD aJ (aD h t82)) h fun t83 h =>
 runD (aG aS h t0 t13) h fun t84 h =>
 runH (aR aJ h t84 t79) h fun _ h =>
 runD (aG aS h t0 t1) h fun t85 h =>
 runH (aR aJ h t85 t83) h fun _ h =>
 K (.ret (.tup [t13, (.bool true)])) h)
 (runD (aG aS h t0 t13) h fun t93 h =>
 runD (fitD aJ (aD h t93)) h fun t94 h =>
 runD (aG aS h t0 t12) h fun t97 h =>
 runD (fitD aJ (aD h t97)) h fun t98 h =>
 runD (aG aS h t0 t12) h fun t99 h =>
 runH (aR aJ h t99 t94) h fun _ h =>
 runD (aG aS h t0 t13) h fun t100 h =>
 runH (aR aJ h t100 t98) h fun _ h =>
 runD (binD aB .add t12 (.int .i64 1)) h fun t102 h =>
 runD (binD aB .sub t13 (.int .i64 1)) h fun t104 h =>
 aL (fun (J5 : AV → AV → AV → List AObj → Prop) =>
 dM [false, false] [t102, t104] h fun lv h => aI.L3 c J5 K (AV.norms h.length h lv) (cJ h.length h) h.length (AV.norm h.length h t0) (AV.norm h.length h t1) (AV.norm h.length h t4))
 (fun t0 t1 t13 h => runD (aG aS h t0 t1) h fun t169 h =>
 runD (fitD aJ (aD h t169)) h fun t170 h =>
 runD (aG aS h t0 t13) h fun t173 h =>
 runD (fitD aJ (aD h t173)) h fun t174 h =>
 runD (aG aS h t0 t13) h fun t175 h =>
 runH (aR aJ h t175 t170) h fun _ h =>
 runD (aG aS h t0 t1) h fun t176 h =>
 runH (aR aJ h t176 t174) h fun _ h =>
 K (.ret (.tup [t13, (.bool false)])) h))))
def bM.loops : Nat → bU
 | _ => ⟨[], [], [], [], [], []⟩
def bM.H (c : Ctx) (t0 : AV) (t1 : AV) (t2 : AV) (t3 : AV) (t4 : AV) (t5 : AV) (h : List AObj) (K : AOut → List AObj → Prop) : Prop :=
 aP false c (.fn (.func 151) [] []) [t0, t1, t2, t4, t5] h (fun t19 h =>
 runD (aW t19 0) h fun t20 h =>
 runD (aW t19 1) h fun t21 h =>
 aP false c (.fn (.func 151) [] []) [t0, t21, t3, t4, t5] h (fun t28 h =>
 runD (aW t28 0) h fun t29 h =>
 runD (aW t28 1) h fun t30 h =>
 aP false c (.fn (.func 151) [] []) [t0, t20, t29, t4, t5] h (fun t37 h =>
 runD (aW t37 0) h fun t38 h =>
 runD (aW t37 1) h fun t39 h =>
 K (.ret t39) h)
 (fun v h => K (.pan v) h))
 (fun v h => K (.pan v) h))
 (fun v h => K (.pan v) h)
def bR.loops : Nat → bU
 | _ => ⟨[], [], [], [], [], []⟩
def bR.H (c : Ctx) (t0 : AV) (t1 : AV) (t2 : AV) (t3 : AV) (t4 : AV) (h : List AObj) (K : AOut → List AObj → Prop) : Prop :=
 runD (aG aS h t0 t2) h fun t15 h =>
 runD (fitD aJ (aD h t15)) h fun t16 h =>
 runD (aG aS h t0 t1) h fun t19 h =>
 runD (fitD aJ (aD h t19)) h fun t20 h =>
 aP false c.noS t4 [t16, t20] h (fun t21 h =>
 runD (binD aB .lss t21 (.int .i64 0)) h fun t22 h =>
 bE t22
 (runD (bL t3) h fun t24 h =>
 runD (fitD aB (aD h t24)) h fun t25 h =>
 runD (binD aB .add t25 (.int .i64 1)) h fun t26 h =>
 runD (bL t3) h fun t27 h =>
 runH (aR aB h t27 t26) h fun _ h =>
 K (.ret (.tup [t2, t1])) h)
 (K (.ret (.tup [t1, t2])) h))
 (fun _ _ => False)
theorem bG.eq (F : List (FuncId × aE)) (S : List (FuncId × Con)) (t0 t1 : AV) (h : List AObj) (K : AOut → List AObj → Prop) : funW (ctx F S bG.loops) Tryz.f108 [t0, t1] h K = bG.H (ctx F S bG.loops) t0 t1 h K := by kernel_rfl
theorem bS.eq (F : List (FuncId × aE)) (S : List (FuncId × Con)) (t0 t1 t2 t3 t4 : AV) (h : List AObj) (K : AOut → List AObj → Prop) : funW (ctx F S bS.loops) Tryz.f119 [t0, t1, t2, t3, t4] h K = bS.H (ctx F S bS.loops) t0 t1 t2 t3 t4 h K := by kernel_rfl
theorem bK.eq (F : List (FuncId × aE)) (S : List (FuncId × Con)) (t0 t1 t2 t3 : AV) (h : List AObj) (K : AOut → List AObj → Prop) : funW (ctx F S bK.loops) Tryz.f129 [t0, t1, t2, t3] h K = bK.H (ctx F S bK.loops) t0 t1 t2 t3 h K := by kernel_rfl
theorem aF.eq (F : List (FuncId × aE)) (S : List (FuncId × Con)) (t0 t1 t2 t3 : AV) (h : List AObj) (K : AOut → List AObj → Prop) : funW (ctx F S aF.loops) Tryz.f131 [t0, t1, t2, t3] h K = aF.H (ctx F S aF.loops) t0 t1 t2 t3 h K := by kernel_rfl
theorem aI.eq (F : List (FuncId × aE)) (S : List (FuncId × Con)) (t0 t1 t2 t3 t4 : AV) (h : List AObj) (K : AOut → List AObj → Prop) : funW (ctx F S aI.loops) Tryz.f133 [t0, t1, t2, t3, t4] h K = aI.H (ctx F S aI.loops) t0 t1 t2 t3 t4 h K := by kernel_rfl
theorem bM.eq (F : List (FuncId × aE)) (S : List (FuncId × Con)) (t0 t1 t2 t3 t4 t5 : AV) (h : List AObj) (K : AOut → List AObj → Prop) : funW (ctx F S bM.loops) Tryz.f146 [t0, t1, t2, t3, t4, t5] h K = bM.H (ctx F S bM.loops) t0 t1 t2 t3 t4 t5 h K := by kernel_rfl
theorem bR.eq (F : List (FuncId × aE)) (S : List (FuncId × Con)) (t0 t1 t2 t3 t4 : AV) (h : List AObj) (K : AOut → List AObj → Prop) : funW (ctx F S bR.loops) Tryz.f151 [t0, t1, t2, t3, t4] h K = bR.H (ctx F S bR.loops) t0 t1 t2 t3 t4 h K := by kernel_rfl
theorem bG.at : Tryz.prog.funcs[108]? = some Tryz.f108 := by kernel_rfl
theorem bG.nm : (Tryz.f108.name == "runtime.NumGoroutine") = false := by kernel_rfl
theorem bG.bd : Tryz.f108.body.isNone = false := by kernel_rfl
theorem bS.at : Tryz.prog.funcs[119]? = some Tryz.f119 := by kernel_rfl
theorem bS.nm : (Tryz.f119.name == "runtime.NumGoroutine") = false := by kernel_rfl
theorem bS.bd : Tryz.f119.body.isNone = false := by kernel_rfl
theorem bK.at : Tryz.prog.funcs[129]? = some Tryz.f129 := by kernel_rfl
theorem bK.nm : (Tryz.f129.name == "runtime.NumGoroutine") = false := by kernel_rfl
theorem bK.bd : Tryz.f129.body.isNone = false := by kernel_rfl
theorem aF.at : Tryz.prog.funcs[131]? = some Tryz.f131 := by kernel_rfl
theorem aF.nm : (Tryz.f131.name == "runtime.NumGoroutine") = false := by kernel_rfl
theorem aF.bd : Tryz.f131.body.isNone = false := by kernel_rfl
theorem aI.at : Tryz.prog.funcs[133]? = some Tryz.f133 := by kernel_rfl
theorem aI.nm : (Tryz.f133.name == "runtime.NumGoroutine") = false := by kernel_rfl
theorem aI.bd : Tryz.f133.body.isNone = false := by kernel_rfl
theorem bM.at : Tryz.prog.funcs[146]? = some Tryz.f146 := by kernel_rfl
theorem bM.nm : (Tryz.f146.name == "runtime.NumGoroutine") = false := by kernel_rfl
theorem bM.bd : Tryz.f146.body.isNone = false := by kernel_rfl
theorem bR.at : Tryz.prog.funcs[151]? = some Tryz.f151 := by kernel_rfl
theorem bR.nm : (Tryz.f151.name == "runtime.NumGoroutine") = false := by kernel_rfl
theorem bR.bd : Tryz.f151.body.isNone = false := by kernel_rfl
end Lam
namespace Lam
open Go Go.Proofs
def aO.loops : Nat → bU
 | 1 => ⟨[8], [false], [0, 1, 2, 3], [], [], []⟩
 | 4 => ⟨[9], [false], [0, 1, 2, 3, 8], [], [], []⟩
 | _ => ⟨[], [], [], [], [], []⟩
def aO.L2 (c : Ctx) (J3 : AV → AV → AV → AV → AV → List AObj → Prop) (K : AOut → List AObj → Prop) (lv : List AV) (h0 : List AObj) (n0 : Nat) (c0 : AV) (c1 : AV) (c2 : AV) (c3 : AV) (c8 : AV) : Prop :=
 ∃ I : Nat → List AV → List AObj → Prop, (∃ n, I n lv h0) ∧ ∀ n h, ∀ t9, I n [t9] h →
 runD (binD aB .gtr t9 c1) h fun t20 h =>
 aL (fun (J4 : AV → AV → List AObj → Prop) =>
 bF t20 true
 (runD (aG aS h c0 t9) h fun t25 h =>
 runD (fitD aJ (aD h t25)) h fun t26 h =>
 runD (binD aB .sub t9 (.int .i64 1)) h fun t29 h =>
 runD (aG aS h c0 t29) h fun t30 h =>
 runD (fitD aJ (aD h t30)) h fun t31 h =>
 aP false c.noS c3 [t26, t31] h (fun t32 h =>
 runD (binD aB .lss t32 (.int .i64 0)) h fun t33 h =>
 J4 (.bool true) t33 h)
 (fun _ _ => False))
 (J4 (.bool false) .und h))
 (fun t21 t33 h => runD (bT t21 t33 (.bool false)) h fun t34 h =>
 bE t34
 (runD (binD aB .sub t9 (.int .i64 1)) h fun t41 h =>
 runD (binD aB .sub t9 (.int .i64 1)) h fun t44 h =>
 runD (aG aS h c0 t44) h fun t45 h =>
 runD (fitD aJ (aD h t45)) h fun t46 h =>
 runD (aG aS h c0 t9) h fun t49 h =>
 runD (fitD aJ (aD h t49)) h fun t50 h =>
 runD (aG aS h c0 t9) h fun t51 h =>
 runH (aR aJ h t51 t46) h fun _ h =>
 runD (aG aS h c0 t41) h fun t52 h =>
 runH (aR aJ h t52 t50) h fun _ h =>
 runD (binD aB .sub t9 (.int .i64 1)) h fun t36 h =>
 (∃ m, m < n ∧ I m (AV.norms n0 h [t36]) (cJ n0 h)) ∧ AV.norms n0 h [c0, c1, c2, c3, c8] = [c0, c1, c2, c3, c8])
 (J3 c0 c1 c2 c3 c8 h))
def aO.L1 (c : Ctx) (J1 : List AObj → Prop) (K : AOut → List AObj → Prop) (lv : List AV) (h0 : List AObj) (n0 : Nat) (c0 : AV) (c1 : AV) (c2 : AV) (c3 : AV) : Prop :=
 ∃ I : Nat → List AV → List AObj → Prop, (∃ n, I n lv h0) ∧ ∀ n h, ∀ t8, I n [t8] h →
 runD (binD aB .lss t8 c2) h fun t14 h =>
 bE t14
 (aL (fun (J2 : AV → AV → AV → AV → AV → List AObj → Prop) =>
 aL (fun (J3 : AV → AV → AV → AV → AV → List AObj → Prop) =>
 dM [false] [t8] h fun lv h => aO.L2 c J3 K (AV.norms h.length h lv) (cJ h.length h) h.length (AV.norm h.length h c0) (AV.norm h.length h c1) (AV.norm h.length h c2) (AV.norm h.length h c3) (AV.norm h.length h t8))
 (fun t0 t1 t2 t3 t8 h => J2 t0 t1 t2 t3 t8 h))
 (fun t0 t1 t2 t3 t8 h => runD (binD aB .add t8 (.int .i64 1)) h fun t16 h =>
 (∃ m, m < n ∧ I m (AV.norms n0 h [t16]) (cJ n0 h)) ∧ AV.norms n0 h [t0, t1, t2, t3] = [c0, c1, c2, c3]))
 (J1 h)
def aO.H (c : Ctx) (t0 : AV) (t1 : AV) (t2 : AV) (t3 : AV) (h : List AObj) (K : AOut → List AObj → Prop) : Prop :=
 runD (binD aB .add t1 (.int .i64 1)) h fun t11 h =>
 aL (fun (J1 : List AObj → Prop) =>
 dM [false] [t11] h fun lv h => aO.L1 c J1 K (AV.norms h.length h lv) (cJ h.length h) h.length (AV.norm h.length h t0) (AV.norm h.length h t1) (AV.norm h.length h t2) (AV.norm h.length h t3))
 (fun h => K (.ret (.tup [])) h)
theorem aO.eq (F : List (FuncId × aE)) (S : List (FuncId × Con)) (t0 t1 t2 t3 : AV) (h : List AObj) (K : AOut → List AObj → Prop) : funW (ctx F S aO.loops) Tryz.f126 [t0, t1, t2, t3] h K = aO.H (ctx F S aO.loops) t0 t1 t2 t3 h K := by kernel_rfl
theorem aO.at : Tryz.prog.funcs[126]? = some Tryz.f126 := by kernel_rfl
theorem aO.nm : (Tryz.f126.name == "runtime.NumGoroutine") = false := by kernel_rfl
theorem aO.bd : Tryz.f126.body.isNone = false := by kernel_rfl
end Lam
namespace Lam
open Go Go.Proofs
def bB.loops : Nat → bU
 | 4 => ⟨[11], [false], [0, 3, 8, 9, 10], [], [], []⟩
 | 8 => ⟨[12], [false], [0, 3, 8, 9], [], [], []⟩
 | _ => ⟨[], [], [], [], [], []⟩
def bB.L1 (c : Ctx) (J1 : AV → AV → AV → AV → AV → List AObj → Prop) (K : AOut → List AObj → Prop) (lv : List AV) (h0 : List AObj) (n0 : Nat) (c0 : AV) (c3 : AV) (c8 : AV) (c9 : AV) (c10 : AV) : Prop :=
 ∃ I : Nat → List AV → List AObj → Prop, (∃ n, I n lv h0) ∧ ∀ n h, ∀ t11, I n [t11] h →
 runD (binD aB .geq t11 (.int .i64 0)) h fun t21 h =>
 bE t21
 (aP false c (.fn (.func 142) [] []) [c0, t11, c10, c8, c3] h (fun t29 h =>
 runD (binD aB .sub t11 (.int .i64 1)) h fun t23 h =>
 (∃ m, m < n ∧ I m (AV.norms n0 h [t23]) (cJ n0 h)) ∧ AV.norms n0 h [c0, c3, c8, c9, c10] = [c0, c3, c8, c9, c10])
 (fun v h => K (.pan v) h))
 (J1 c0 c3 c8 c9 c10 h)
def bB.L2 (c : Ctx) (J2 : List AObj → Prop) (K : AOut → List AObj → Prop) (lv : List AV) (h0 : List AObj) (n0 : Nat) (c0 : AV) (c3 : AV) (c8 : AV) (c9 : AV) : Prop :=
 ∃ I : Nat → List AV → List AObj → Prop, (∃ n, I n lv h0) ∧ ∀ n h, ∀ t12, I n [t12] h →
 runD (binD aB .geq t12 (.int .i64 0)) h fun t33 h =>
 bE t33
 (runD (binD aB .add c8 t12) h fun t41 h =>
 runD (binD aB .add c8 t12) h fun t45 h =>
 runD (aG aS h c0 t45) h fun t46 h =>
 runD (fitD aJ (aD h t46)) h fun t47 h =>
 runD (aG aS h c0 c8) h fun t50 h =>
 runD (fitD aJ (aD h t50)) h fun t51 h =>
 runD (aG aS h c0 c8) h fun t52 h =>
 runH (aR aJ h t52 t47) h fun _ h =>
 runD (aG aS h c0 t41) h fun t53 h =>
 runH (aR aJ h t53 t51) h fun _ h =>
 aP false c (.fn (.func 142) [] []) [c0, c9, t12, c8, c3] h (fun t59 h =>
 runD (binD aB .sub t12 (.int .i64 1)) h fun t35 h =>
 (∃ m, m < n ∧ I m (AV.norms n0 h [t35]) (cJ n0 h)) ∧ AV.norms n0 h [c0, c3, c8, c9] = [c0, c3, c8, c9])
 (fun v h => K (.pan v) h))
 (J2 h)
def bB.H (c : Ctx) (t0 : AV) (t1 : AV) (t2 : AV) (t3 : AV) (h : List AObj) (K : AOut → List AObj → Prop) : Prop :=
 runD (binD aB .sub t2 t1) h fun t16 h =>
 runD (binD aB .sub t16 (.int .i64 1)) h fun t18 h =>
 runD (binD aB .quo t18 (.int .i64 2)) h fun t19 h =>
 aL (fun (J1 : AV → AV → AV → AV → AV → List AObj → Prop) =>
 dM [false] [t19] h fun lv h => bB.L1 c J1 K (AV.norms h.length h lv) (cJ h.length h) h.length (AV.norm h.length h t0) (AV.norm h.length h t3) (AV.norm h.length h t1) (AV.norm h.length h (.int .i64 0)) (AV.norm h.length h t16))
 (fun t0 t3 t8 t9 t10 h => runD (binD aB .sub t10 (.int .i64 1)) h fun t31 h =>
 aL (fun (J2 : List AObj → Prop) =>
 dM [false] [t31] h fun lv h => bB.L2 c J2 K (AV.norms h.length h lv) (cJ h.length h) h.length (AV.norm h.length h t0) (AV.norm h.length h t3) (AV.norm h.length h t8) (AV.norm h.length h t9))
 (fun h => K (.ret (.tup [])) h))
def aV.loops : Nat → bU
 | 5 => ⟨[11], [false], [0, 1, 8, 9, 10], [], [], []⟩
 | _ => ⟨[], [], [], [], [], []⟩
def aV.L1 (c : Ctx) (J2 : List AObj → Prop) (K : AOut → List AObj → Prop) (lv : List AV) (h0 : List AObj) (n0 : Nat) (c0 : AV) (c1 : AV) (c8 : AV) (c9 : AV) (c10 : AV) : Prop :=
 ∃ I : Nat → List AV → List AObj → Prop, (∃ n, I n lv h0) ∧ ∀ n h, ∀ t11, I n [t11] h →
 runD (binD aB .quo c8 (.int .i64 4)) h fun t31 h =>
 runD (binD aB .mul t31 (.int .i64 2)) h fun t32 h =>
 runD (binD aB .add c1 t32) h fun t33 h =>
 runD (binD aB .add t33 (.int .i64 1)) h fun t34 h =>
 runD (binD aB .leq t11 t34) h fun t35 h =>
 bE t35
 (aP false c (.fn (.func 144) [] []) [c9] h (fun t38 h =>
 runD (binD rW .sub c10 (.int .u64 1)) h fun t40 h =>
 runD (binD rW .and t38 t40) h fun t41 h =>
 runD (jO h rW aB t41) h fun t42 h =>
 runD (binD aB .geq t42 c8) h fun t45 h =>
 aL (fun (J3 : AV → List AObj → Prop) =>
 bE t45
 (runD (binD aB .sub t42 c8) h fun t48 h =>
 J3 t48 h)
 (J3 t42 h))
 (fun t12 h => runD (binD aB .add c1 t12) h fun t54 h =>
 runD (binD aB .add c1 t12) h fun t58 h =>
 runD (aG aS h c0 t58) h fun t59 h =>
 runD (fitD aJ (aD h t59)) h fun t60 h =>
 runD (aG aS h c0 t11) h fun t63 h =>
 runD (fitD aJ (aD h t63)) h fun t64 h =>
 runD (aG aS h c0 t11) h fun t65 h =>
 runH (aR aJ h t65 t60) h fun _ h =>
 runD (aG aS h c0 t54) h fun t66 h =>
 runH (aR aJ h t66 t64) h fun _ h =>
 runD (binD aB .add t11 (.int .i64 1)) h fun t37 h =>
 (∃ m, m < n ∧ I m (AV.norms n0 h [t37]) (cJ n0 h)) ∧ AV.norms n0 h [c0, c1, c8, c9, c10] = [c0, c1, c8, c9, c10]))
 (fun v h => K (.pan v) h))
 (J2 h)
def aV.H (c : Ctx) (t0 : AV) (t1 : AV) (t2 : AV) (t3 : AV) (h : List AObj) (K : AOut → List AObj → Prop) : Prop :=
 runD (binD aB .sub t2 t1) h fun t15 h =>
 runD (binD aB .geq t15 (.int .i64 8)) h fun t17 h =>
 aL (fun (J1 : List AObj → Prop) =>
 bE t17
 (runD (jO h aB dE t15) h fun t19 h =>
 cS dE h fun t9 h =>
 runH (aR dE h t9 t19) h fun _ h =>
 aP false c (.fn (.func 143) [] []) [t15] h (fun t21 h =>
 runD (binD aB .quo t15 (.int .i64 4)) h fun t24 h =>
 runD (binD aB .mul t24 (.int .i64 2)) h fun t25 h =>
 runD (binD aB .add t1 t25) h fun t26 h =>
 runD (binD aB .sub t26 (.int .i64 1)) h fun t27 h =>
 aL (fun (J2 : List AObj → Prop) =>
 dM [false] [t27] h fun lv h => aV.L1 c J2 K (AV.norms h.length h lv) (cJ h.length h) h.length (AV.norm h.length h t0) (AV.norm h.length h t1) (AV.norm h.length h t15) (AV.norm h.length h t9) (AV.norm h.length h t21))
 (fun h => J1 h))
 (fun v h => K (.pan v) h))
 (J1 h))
 (fun h => K (.ret (.tup [])) h)
def aX.loops : Nat → bU
 | 2 => ⟨[8, 9], [false, false], [0], [], [], []⟩
 | _ => ⟨[], [], [], [], [], []⟩
def aX.L1 (c : Ctx) (J1 : List AObj → Prop) (K : AOut → List AObj → Prop) (lv : List AV) (h0 : List AObj) (n0 : Nat) (c0 : AV) : Prop :=
 ∃ I : Nat → List AV → List AObj → Prop, (∃ n, I n lv h0) ∧ ∀ n h, ∀ t8, ∀ t9, I n [t8, t9] h →
 runD (binD aB .lss t8 t9) h fun t15 h =>
 bE t15
 (runD (aG aS h c0 t9) h fun t22 h =>
 runD (fitD aJ (aD h t22)) h fun t23 h =>
 runD (aG aS h c0 t8) h fun t26 h =>
 runD (fitD aJ (aD h t26)) h fun t27 h =>
 runD (aG aS h c0 t8) h fun t28 h =>
 runH (aR aJ h t28 t23) h fun _ h =>
 runD (aG aS h c0 t9) h fun t29 h =>
 runH (aR aJ h t29 t27) h fun _ h =>
 runD (binD aB .add t8 (.int .i64 1)) h fun t31 h =>
 runD (binD aB .sub t9 (.int .i64 1)) h fun t33 h =>
 (∃ m, m < n ∧ I m (AV.norms n0 h [t31, t33]) (cJ n0 h)) ∧ AV.norms n0 h [c0] = [c0])
 (J1 h)
def aX.H (c : Ctx) (t0 : AV) (t1 : AV) (t2 : AV) (t3 : AV) (h : List AObj) (K : AOut → List AObj → Prop) : Prop :=
 runD (binD aB .sub t2 (.int .i64 1)) h fun t12 h =>
 aL (fun (J1 : List AObj → Prop) =>
 dM [false, false] [t1, t12] h fun lv h => aX.L1 c J1 K (AV.norms h.length h lv) (cJ h.length h) h.length (AV.norm h.length h t0))
 (fun h => K (.ret (.tup [])) h)
def bH.loops : Nat → bU
 | 1 => ⟨[10], [false], [0, 2, 3, 4], [], [], []⟩
 | _ => ⟨[], [], [], [], [], []⟩
def bH.L1 (c : Ctx) (J1 : List AObj → Prop) (K : AOut → List AObj → Prop) (lv : List AV) (h0 : List AObj) (n0 : Nat) (c0 : AV) (c2 : AV) (c3 : AV) (c4 : AV) : Prop :=
 ∃ I : Nat → List AV → List AObj → Prop, (∃ n, I n lv h0) ∧ ∀ n h, ∀ t10, I n [t10] h →
 runD (binD aB .mul (.int .i64 2) t10) h fun t14 h =>
 runD (binD aB .add t14 (.int .i64 1)) h fun t15 h =>
 runD (binD aB .geq t15 c2) h fun t18 h =>
 bE t18
 (J1 h)
 (runD (binD aB .add t15 (.int .i64 1)) h fun t20 h =>
 runD (binD aB .lss t20 c2) h fun t22 h =>
 aL (fun (J2 : AV → AV → List AObj → Prop) =>
 bF t22 true
 (runD (binD aB .add c3 t15) h fun t28 h =>
 runD (aG aS h c0 t28) h fun t29 h =>
 runD (fitD aJ (aD h t29)) h fun t30 h =>
 runD (binD aB .add c3 t15) h fun t34 h =>
 runD (binD aB .add t34 (.int .i64 1)) h fun t35 h =>
 runD (aG aS h c0 t35) h fun t36 h =>
 runD (fitD aJ (aD h t36)) h fun t37 h =>
 aP false c.noS c4 [t30, t37] h (fun t38 h =>
 runD (binD aB .lss t38 (.int .i64 0)) h fun t39 h =>
 J2 (.bool true) t39 h)
 (fun _ _ => False))
 (J2 (.bool false) .und h))
 (fun t23 t39 h => runD (bT t23 t39 (.bool false)) h fun t40 h =>
 aL (fun (J3 : AV → List AObj → Prop) =>
 bE t40
 (runD (binD aB .add t15 (.int .i64 1)) h fun t42 h =>
 J3 t42 h)
 (J3 t15 h))
 (fun t11 h => runD (binD aB .add c3 t10) h fun t47 h =>
 runD (aG aS h c0 t47) h fun t48 h =>
 runD (fitD aJ (aD h t48)) h fun t49 h =>
 runD (binD aB .add c3 t11) h fun t53 h =>
 runD (aG aS h c0 t53) h fun t54 h =>
 runD (fitD aJ (aD h t54)) h fun t55 h =>
 aP false c.noS c4 [t49, t55] h (fun t56 h =>
 runD (binD aB .lss t56 (.int .i64 0)) h fun t57 h =>
 runD (unD .not t57) h fun t58 h =>
 bE t58
 (K (.ret (.tup [])) h)
 (runD (binD aB .add c3 t10) h fun t62 h =>
 runD (binD aB .add c3 t11) h fun t66 h =>
 runD (binD aB .add c3 t11) h fun t70 h =>
 runD (aG aS h c0 t70) h fun t71 h =>
 runD (fitD aJ (aD h t71)) h fun t72 h =>
 runD (binD aB .add c3 t10) h fun t76 h =>
 runD (aG aS h c0 t76) h fun t77 h =>
 runD (fitD aJ (aD h t77)) h fun t78 h =>
 runD (aG aS h c0 t62) h fun t79 h =>
 runH (aR aJ h t79 t72) h fun _ h =>
 runD (aG aS h c0 t66) h fun t80 h =>
 runH (aR aJ h t80 t78) h fun _ h =>
 (∃ m, m < n ∧ I m (AV.norms n0 h [t11]) (cJ n0 h)) ∧ AV.norms n0 h [c0, c2, c3, c4] = [c0, c2, c3, c4]))
 (fun _ _ => False))))
def bH.H (c : Ctx) (t0 : AV) (t1 : AV) (t2 : AV) (t3 : AV) (t4 : AV) (h : List AObj) (K : AOut → List AObj → Prop) : Prop :=
 aL (fun (J1 : List AObj → Prop) =>
 dM [false] [t1] h fun lv h => bH.L1 c J1 K (AV.norms h.length h lv) (cJ h.length h) h.length (AV.norm h.length h t0) (AV.norm h.length h t2) (AV.norm h.length h t3) (AV.norm h.length h t4))
 (fun h => K (.ret (.tup [])) h)
def cO.loops : Nat → bU
 | _ => ⟨[], [], [], [], [], []⟩
def cO.H (c : Ctx) (t0 : AV) (h : List AObj) (K : AOut → List AObj → Prop) : Prop :=
 runD (jO h aB rW t0) h fun t4 h =>
 aP false c (.fn (.func 120) [] []) [t4] h (fun t5 h =>
 runD (binD rW .shl (.int .u64 1) t5) h fun t6 h =>
 K (.ret t6) h)
 (fun v h => K (.pan v) h)
def cM.loops : Nat → bU
 | _ => ⟨[], [], [], [], [], []⟩
def cM.H (c : Ctx) (t0 : AV) (h : List AObj) (K : AOut → List AObj → Prop) : Prop :=
 runD (bL t0) h fun t4 h =>
 runD (fitD dE (aD h t4)) h fun t5 h =>
 runD (bL t0) h fun t7 h =>
 runD (fitD dE (aD h t7)) h fun t8 h =>
 runD (binD dE .shl t8 (.int .u64 13)) h fun t9 h =>
 runD (binD dE .xor t5 t9) h fun t10 h =>
 runD (bL t0) h fun t11 h =>
 runH (aR dE h t11 t10) h fun _ h =>
 runD (bL t0) h fun t13 h =>
 runD (fitD dE (aD h t13)) h fun t14 h =>
 runD (bL t0) h fun t16 h =>
 runD (fitD dE (aD h t16)) h fun t17 h =>
 runD (binD dE .shr t17 (.int .u64 7)) h fun t18 h =>
 runD (binD dE .xor t14 t18) h fun t19 h =>
 runD (bL t0) h fun t20 h =>
 runH (aR dE h t20 t19) h fun _ h =>
 runD (bL t0) h fun t22 h =>
 runD (fitD dE (aD h t22)) h fun t23 h =>
 runD (bL t0) h fun t25 h =>
 runD (fitD dE (aD h t25)) h fun t26 h =>
 runD (binD dE .shl t26 (.int .u64 17)) h fun t27 h =>
 runD (binD dE .xor t23 t27) h fun t28 h =>
 runD (bL t0) h fun t29 h =>
 runH (aR dE h t29 t28) h fun _ h =>
 runD (bL t0) h fun t31 h =>
 runD (fitD dE (aD h t31)) h fun t32 h =>
 K (.ret t32) h
def aZ.loops : Nat → bU
 | _ => ⟨[], [], [], [], [], []⟩
def aZ.H (c : Ctx) (t0 : AV) (t1 : AV) (t2 : AV) (t3 : AV) (h : List AObj) (K : AOut → List AObj → Prop) : Prop :=
 runD (binD aB .sub t1 (.int .i64 1)) h fun t11 h =>
 runD (binD aB .add t1 (.int .i64 1)) h fun t14 h =>
 aP false c (.fn (.func 146) [] []) [t0, t11, t1, t14, t2, t3] h (fun t17 h =>
 K (.ret t17) h)
 (fun v h => K (.pan v) h)
theorem bB.eq (F : List (FuncId × aE)) (S : List (FuncId × Con)) (t0 t1 t2 t3 : AV) (h : List AObj) (K : AOut → List AObj → Prop) : funW (ctx F S bB.loops) Tryz.f127 [t0, t1, t2, t3] h K = bB.H (ctx F S bB.loops) t0 t1 t2 t3 h K := by kernel_rfl
theorem aV.eq (F : List (FuncId × aE)) (S : List (FuncId × Con)) (t0 t1 t2 t3 : AV) (h : List AObj) (K : AOut → List AObj → Prop) : funW (ctx F S aV.loops) Tryz.f128 [t0, t1, t2, t3] h K = aV.H (ctx F S aV.loops) t0 t1 t2 t3 h K := by kernel_rfl
theorem aX.eq (F : List (FuncId × aE)) (S : List (FuncId × Con)) (t0 t1 t2 t3 : AV) (h : List AObj) (K : AOut → List AObj → Prop) : funW (ctx F S aX.loops) Tryz.f130 [t0, t1, t2, t3] h K = aX.H (ctx F S aX.loops) t0 t1 t2 t3 h K := by kernel_rfl
theorem bH.eq (F : List (FuncId × aE)) (S : List (FuncId × Con)) (t0 t1 t2 t3 t4 : AV) (h : List AObj) (K : AOut → List AObj → Prop) : funW (ctx F S bH.loops) Tryz.f142 [t0, t1, t2, t3, t4] h K = bH.H (ctx F S bH.loops) t0 t1 t2 t3 t4 h K := by kernel_rfl
theorem cO.eq (F : List (FuncId × aE)) (S : List (FuncId × Con)) (t0 : AV) (h : List AObj) (K : AOut → List AObj → Prop) : funW (ctx F S cO.loops) Tryz.f143 [t0] h K = cO.H (ctx F S cO.loops) t0 h K := by kernel_rfl
theorem cM.eq (F : List (FuncId × aE)) (S : List (FuncId × Con)) (t0 : AV) (h : List AObj) (K : AOut → List AObj → Prop) : funW (ctx F S cM.loops) Tryz.f144 [t0] h K = cM.H (ctx F S cM.loops) t0 h K := by kernel_rfl
theorem aZ.eq (F : List (FuncId × aE)) (S : List (FuncId × Con)) (t0 t1 t2 t3 : AV) (h : List AObj) (K : AOut → List AObj → Prop) : funW (ctx F S aZ.loops) Tryz.f145 [t0, t1, t2, t3] h K = aZ.H (ctx F S aZ.loops) t0 t1 t2 t3 h K := by kernel_rfl
theorem bB.at : Tryz.prog.funcs[127]? = some Tryz.f127 := by kernel_rfl
theorem bB.nm : (Tryz.f127.name == "runtime.NumGoroutine") = false := by kernel_rfl
theorem bB.bd : Tryz.f127.body.isNone = false := by kernel_rfl
theorem aV.at : Tryz.prog.funcs[128]? = some Tryz.f128 := by kernel_rfl
theorem aV.nm : (Tryz.f128.name == "runtime.NumGoroutine") = false := by kernel_rfl
theorem aV.bd : Tryz.f128.body.isNone = false := by kernel_rfl
theorem aX.at : Tryz.prog.funcs[130]? = some Tryz.f130 := by kernel_rfl
theorem aX.nm : (Tryz.f130.name == "runtime.NumGoroutine") = false := by kernel_rfl
theorem aX.bd : Tryz.f130.body.isNone = false := by kernel_rfl
theorem bH.at : Tryz.prog.funcs[142]? = some Tryz.f142 := by kernel_rfl
theorem bH.nm : (Tryz.f142.name == "runtime.NumGoroutine") = false := by kernel_rfl
theorem bH.bd : Tryz.f142.body.isNone = false := by kernel_rfl
theorem cO.at : Tryz.prog.funcs[143]? = some Tryz.f143 := by kernel_rfl
theorem cO.nm : (Tryz.f143.name == "runtime.NumGoroutine") = false := by kernel_rfl
theorem cO.bd : Tryz.f143.body.isNone = false := by kernel_rfl
theorem cM.at : Tryz.prog.funcs[144]? = some Tryz.f144 := by kernel_rfl
theorem cM.nm : (Tryz.f144.name == "runtime.NumGoroutine") = false := by kernel_rfl
theorem cM.bd : Tryz.f144.body.isNone = false := by kernel_rfl
theorem aZ.at : Tryz.prog.funcs[145]? = some Tryz.f145 := by kernel_rfl
theorem aZ.nm : (Tryz.f145.name == "runtime.NumGoroutine") = false := by kernel_rfl
theorem aZ.bd : Tryz.f145.body.isNone = false := by kernel_rfl
end Lam
namespace Lam
open Go Go.Proofs
def cX.loops : Nat → bU
 | _ => ⟨[], [], [], [], [], []⟩
def cX.H (c : Ctx) (t0 : AV) (t1 : AV) (h : List AObj) (K : AOut → List AObj → Prop) : Prop :=
 aP false c (.fn (.func 121) [] []) [t0] h (fun t8 h =>
 aP false c (.fn (.func 121) [] []) [t1] h (fun t10 h =>
 bE t8
 (bE t10
 (K (.ret (.int .i64 0)) h)
 (K (.ret (.int .i64 (-1))) h))
 (bE t10
 (K (.ret (.int .i64 1)) h)
 (runD (binD cE .lss t0 t1) h fun t16 h =>
 bE t16
 (K (.ret (.int .i64 (-1))) h)
 (runD (binD cE .gtr t0 t1) h fun t19 h =>
 bE t19
 (K (.ret (.int .i64 1)) h)
 (K (.ret (.int .i64 0)) h)))))
 (fun v h => K (.pan v) h))
 (fun v h => K (.pan v) h)
def dN.loops : Nat → bU
 | _ => ⟨[], [], [], [], [], []⟩
def dN.H (c : Ctx) (t0 : AV) (h : List AObj) (K : AOut → List AObj → Prop) : Prop :=
 runD (binD cE .neq t0 t0) h fun t5 h =>
 K (.ret t5) h
theorem cX.eq (F : List (FuncId × aE)) (S : List (FuncId × Con)) (t0 t1 : AV) (h : List AObj) (K : AOut → List AObj → Prop) : funW (ctx F S cX.loops) Tryz.f110 [t0, t1] h K = cX.H (ctx F S cX.loops) t0 t1 h K := by kernel_rfl
theorem dN.eq (F : List (FuncId × aE)) (S : List (FuncId × Con)) (t0 : AV) (h : List AObj) (K : AOut → List AObj → Prop) : funW (ctx F S dN.loops) Tryz.f121 [t0] h K = dN.H (ctx F S dN.loops) t0 h K := by kernel_rfl
theorem cX.at : Tryz.prog.funcs[110]? = some Tryz.f110 := by kernel_rfl
theorem cX.nm : (Tryz.f110.name == "runtime.NumGoroutine") = false := by kernel_rfl
theorem cX.bd : Tryz.f110.body.isNone = false := by kernel_rfl
theorem dN.at : Tryz.prog.funcs[121]? = some Tryz.f121 := by kernel_rfl
theorem dN.nm : (Tryz.f121.name == "runtime.NumGoroutine") = false := by kernel_rfl
theorem dN.bd : Tryz.f121.body.isNone = false := by kernel_rfl
end Lam
namespace Lam
open Go Go.Proofs
def dO.loops : Nat → bU
 | _ => ⟨[], [], [], [], [], []⟩
def dO.H (c : Ctx) (t0 : AV) (h : List AObj) (K : AOut → List AObj → Prop) : Prop :=
 bE (.bool false)
 (runD (jO h rW kG t0) h fun t4 h =>
 aP false c (.fn (.func 134) [] []) [t4] h (fun t5 h =>
 K (.ret t5) h)
 (fun v h => K (.pan v) h))
 (aP false c (.fn (.func 135) [] []) [t0] h (fun t7 h =>
 K (.ret t7) h)
 (fun v h => K (.pan v) h))
def dX.loops : Nat → bU
 | _ => ⟨[], [], [], [], [], []⟩
def dX.H (c : Ctx) (t0 : AV) (h : List AObj) (K : AOut → List AObj → Prop) : Prop :=
 runD (binD lK .geq t0 (.int .u64 4294967296)) h fun t4 h =>
 aL (fun (J1 : AV → AV → List AObj → Prop) =>
 bE t4
 (runD (binD lK .shr t0 (.int .u64 32)) h fun t6 h =>
 J1 t6 (.int .i64 32) h)
 (J1 t0 (.int .i64 0) h))
 (fun t0 t2 h => runD (binD lK .geq t0 (.int .u64 65536)) h fun t8 h =>
 aL (fun (J2 : AV → AV → List AObj → Prop) =>
 bE t8
 (runD (binD lK .shr t0 (.int .u64 16)) h fun t10 h =>
 runD (binD aB .add t2 (.int .i64 16)) h fun t12 h =>
 J2 t10 t12 h)
 (J2 t0 t2 h))
 (fun t0 t2 h => runD (binD lK .geq t0 (.int .u64 256)) h fun t14 h =>
 aL (fun (J3 : AV → AV → List AObj → Prop) =>
 bE t14
 (runD (binD lK .shr t0 (.int .u64 8)) h fun t16 h =>
 runD (binD aB .add t2 (.int .i64 8)) h fun t18 h =>
 J3 t16 t18 h)
 (J3 t0 t2 h))
 (fun t0 t2 h => runD (jO h lK nH t0) h fun t21 h =>
 runD (tB cE (.str [0, 1, 2, 2, 3, 3, 3, 3, 4, 4, 4, 4, 4, 4, 4, 4, 5, 5, 5, 5, 5, 5, 5, 5, 5, 5, 5, 5, 5, 5, 5, 5, 6, 6, 6, 6, 6, 6, 6, 6, 6, 6, 6, 6, 6, 6, 6, 6, 6, 6, 6, 6, 6, 6, 6, 6, 6, 6, 6, 6, 6, 6, 6, 6, 7, 7, 7, 7, 7, 7, 7, 7, 7, 7, 7, 7, 7, 7, 7, 7, 7, 7, 7, 7, 7, 7, 7, 7, 7, 7, 7, 7, 7, 7, 7, 7, 7, 7, 7, 7, 7, 7, 7, 7, 7, 7, 7, 7, 7, 7, 7, 7, 7, 7, 7, 7, 7, 7, 7, 7, 7, 7, 7, 7, 7, 7, 7, 7, 8, 8, 8, 8, 8, 8, 8, 8, 8, 8, 8, 8, 8, 8, 8, 8, 8, 8, 8, 8, 8, 8, 8, 8, 8, 8, 8, 8, 8, 8, 8, 8, 8, 8, 8, 8, 8, 8, 8, 8, 8, 8, 8, 8, 8, 8, 8, 8, 8, 8, 8, 8, 8, 8, 8, 8, 8, 8, 8, 8, 8, 8, 8, 8, 8, 8, 8, 8, 8, 8, 8, 8, 8, 8, 8, 8, 8, 8, 8, 8, 8, 8, 8, 8, 8, 8, 8, 8, 8, 8, 8, 8, 8, 8, 8, 8, 8, 8, 8, 8, 8, 8, 8, 8, 8, 8, 8, 8, 8, 8, 8, 8, 8, 8, 8, 8, 8, 8, 8, 8, 8, 8, 8, 8, 8, 8, 8, 8]) t21) h fun t22 h =>
 runD (jO h nH aB t22) h fun t23 h =>
 runD (binD aB .add t2 t23) h fun t24 h =>
 K (.ret t24) h)))
theorem dO.eq (F : List (FuncId × aE)) (S : List (FuncId × Con)) (t0 : AV) (h : List AObj) (K : AOut → List AObj → Prop) : funW (ctx F S dO.loops) Tryz.f120 [t0] h K = dO.H (ctx F S dO.loops) t0 h K := by kernel_rfl
theorem dX.eq (F : List (FuncId × aE)) (S : List (FuncId × Con)) (t0 : AV) (h : List AObj) (K : AOut → List AObj → Prop) : funW (ctx F S dX.loops) Tryz.f135 [t0] h K = dX.H (ctx F S dX.loops) t0 h K := by kernel_rfl
theorem dO.at : Tryz.prog.funcs[120]? = some Tryz.f120 := by kernel_rfl
theorem dO.nm : (Tryz.f120.name == "runtime.NumGoroutine") = false := by kernel_rfl
theorem dO.bd : Tryz.f120.body.isNone = false := by kernel_rfl
theorem dX.at : Tryz.prog.funcs[135]? = some Tryz.f135 := by kernel_rfl
theorem dX.nm : (Tryz.f135.name == "runtime.NumGoroutine") = false := by kernel_rfl
theorem dX.bd : Tryz.f135.body.isNone = false := by kernel_rfl
end Lam
