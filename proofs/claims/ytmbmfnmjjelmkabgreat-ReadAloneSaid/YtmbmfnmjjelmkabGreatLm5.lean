/- What functions of the program come to, each proved from its code. -/
import Derived.Test.YtmbmfnmjjelmkabGreatLm4
set_option linter.unusedVariables false
set_option linter.unusedSimpArgs false
set_option linter.unnecessarySimpa false
set_option linter.unusedSectionVars false
open Nat (reduceEqDiff reduceAdd reduceSub reduceLeDiff)
open Int (reduceToNat reduceEq reduceLE reduceLT)
open List (reduceReplicate)
set_option maxRecDepth 20000
namespace Lam
open Go Go.Proofs
def iN.loops : Nat → bU
 | _ => ⟨[], [], [], [], [], []⟩
def iN.H (c : Ctx) (t0 : AV) (t1 : AV) (h : List AObj) (K : AOut → List AObj → Prop) : Prop :=
 boxW aM t0 h fun t2 h =>
 boxW fU t1 h fun t3 h =>
 cV aM h fun t4 h =>
 runD (fitD aM (aD h t2)) h fun t6 h =>
 runD (fitD fU (aD h t3)) h fun t7 h =>
 runD (gE kE 1 [(0, t7)] h.length) h fun t8 h =>
 aO false c (.fn (.func 96) [] []) [t6, t8] h (fun t9 h =>
 runD (aW t9 0) h fun t10 h =>
 runD (aW t9 1) h fun t11 h =>
 runH (aT aM h t4 t10) h fun _ h =>
 dG (fitD aM (aD h t4)) fun r0 => K (.ret (.tup [r0, t11])) h)
 (fun v h => K (.pan v) h)
def iD.loops : Nat → bU
 | _ => ⟨[], [], [], [], [], []⟩
def iD.H (c : Ctx) (t0 : AV) (t1 : AV) (h : List AObj) (K : AOut → List AObj → Prop) : Prop :=
 boxW aM t0 h fun t2 h =>
 cV aM h fun t4 h =>
 runD (fitD aM (aD h t2)) h fun t6 h =>
 aO false c (.fn (.func 113) [] []) [t6, t1] h (fun t8 h =>
 runD (unD .not t8) h fun t9 h =>
 bC t9
 (runD (fitD aM (aD h t2)) h fun t10 h =>
 runH (aT aM h t4 t10) h fun _ h =>
 dG (fitD aM (aD h t4)) fun r0 => K (.ret (.tup [r0, (.int .i64 40)])) h)
 (runD (fitD aM (aD h t2)) h fun t11 h =>
 runD (lenD kE h t1) h fun t14 h =>
 aO false c (.fn (.func 114) [] []) [t11, t1, t14] h (fun t15 h =>
 runH (aT aM h t4 t15) h fun _ h =>
 dG (fitD aM (aD h t4)) fun r0 => K (.ret (.tup [r0, (.int .i64 0)])) h)
 (fun v h => K (.pan v) h)))
 (fun v h => K (.pan v) h)
def fW.loops : Nat → bU
 | 1 => ⟨[], [], [], [(3, none), (5, some [7, 12])], [], []⟩
 | _ => ⟨[], [], [], [], [], []⟩
def fW.H (c : Ctx) (t0 : AV) (t1 : AV) (h : List AObj) (K : AOut → List AObj → Prop) : Prop :=
 boxW aM t0 h fun t2 h =>
 runD (fitD aM (aD h t2)) h fun t5 h =>
 aO false c (.fn (.func 13) [] []) [t5] h (fun t6 h =>
 aL (fun (J1 : AV → AV → List AObj → Prop) =>
 bF t6 true
 (runD (aC aM t2 0) h fun t9 h =>
 runD (fitD aI (aD h t9)) h fun t10 h =>
 runD (lenD aI h t10) h fun t11 h =>
 aO false c (.fn (.func 123) [] []) [t1, t11] h (fun t12 h =>
 J1 (.bool true) t12 h)
 (fun v h => K (.pan v) h))
 (J1 (.bool false) .und h))
 (fun t7 t12 h => runD (bV t7 t12 (.bool false)) h fun t13 h =>
 K (.ret t13) h))
 (fun v h => K (.pan v) h)
def eR.loops : Nat → bU
 | 4 => ⟨[15], [false], [1, 6, 7, 8, 14], [], [], []⟩
 | _ => ⟨[], [], [], [], [], []⟩
def eR.L1 (c : Ctx) (J1 : AV → AV → List AObj → Prop) (K : AOut → List AObj → Prop) (lv : List AV) (h0 : List AObj) (n0 : Nat) (c1 : AV) (c6 : AV) (c7 : AV) (c8 : AV) (c14 : AV) : Prop :=
 ∃ I : Nat → List AV → List AObj → Prop, (∃ n, I n lv h0) ∧ ∀ n h, ∀ t15, I n [t15] h →
 runD (binD aB .lss t15 c14) h fun t16 h =>
 bC t16
 (runD (aG kE h c1 t15) h fun t21 h =>
 runD (aC fU t21 0) h fun t22 h =>
 runD (fitD aB (aD h t22)) h fun t23 h =>
 runD (mA fE h c8 t23) h fun t24 h =>
 runD (aG kE h c1 t15) h fun t28 h =>
 runD (fitD fU (aD h t28)) h fun t29 h =>
 aO false c t24 [c7, t29] h (fun t30 h =>
 runD (binD aB .add t15 (.int .i64 1)) h fun t31 h =>
 (∃ m, m < n ∧ I m (AV.norms n0 h [t31]) (cI n0 h)) ∧ AV.norms n0 h [c1, c6, c7, c8, c14] = [c1, c6, c7, c8, c14])
 (fun v h => K (.pan v) h))
 (J1 c6 c7 h)
def eR.H (c : Ctx) (t0 : AV) (t1 : AV) (t2 : AV) (h : List AObj) (K : AOut → List AObj → Prop) : Prop :=
 boxW aM t0 h fun t3 h =>
 cV aM h fun t6 h =>
 runD (fitD aM (aD h t3)) h fun t10 h =>
 runD (hG jK [(0, t10)]) h fun t11 h =>
 boxW jK t11 h fun t12 h =>
 aO false c (.fn (.func 124) [] []) [] h (fun t13 h =>
 aL (fun (J1 : AV → AV → List AObj → Prop) =>
 dK [false] [(.int .i64 0)] h fun lv h => eR.L1 c J1 K (AV.norms h.length h lv) (cI h.length h) h.length (AV.norm h.length h t1) (AV.norm h.length h t6) (AV.norm h.length h t12) (AV.norm h.length h t13) (AV.norm h.length h t2))
 (fun t6 t7 h => runD (bM t7) h fun t33 h =>
 runD (aC jK t33 0) h fun t34 h =>
 runD (fitD aM (aD h t34)) h fun t35 h =>
 runH (aT aM h t6 t35) h fun _ h =>
 dG (fitD aM (aD h t6)) fun r0 => K (.ret r0) h))
 (fun v h => K (.pan v) h)
def fX.loops : Nat → bU
 | 1 => ⟨[], [], [], [(3, none), (2, some [8, 10]), (2, none), (3, some [12, 15])], [], []⟩
 | 2 => ⟨[], [], [], [(2, none), (4, some [18, 22])], [], []⟩
 | _ => ⟨[], [], [], [], [], []⟩
def fX.H (c : Ctx) (t0 : AV) (t1 : AV) (h : List AObj) (K : AOut → List AObj → Prop) : Prop :=
 boxW aB t1 h fun t3 h =>
 runD (fitD aB (aD h t3)) h fun t6 h =>
 runD (binD aB .geq t6 (.int .i64 0)) h fun t7 h =>
 aL (fun (J1 : AV → AV → List AObj → Prop) =>
 bF t7 true
 (runD (fitD aB (aD h t3)) h fun t9 h =>
 runD (binD aB .leq t9 (.int .i64 4096)) h fun t10 h =>
 J1 (.bool true) t10 h)
 (J1 (.bool false) .und h))
 (fun t8 t10 h => runD (bV t8 t10 (.bool false)) h fun t11 h =>
 aL (fun (J2 : AV → AV → List AObj → Prop) =>
 bF t11 true
 (runD (fitD aB (aD h t3)) h fun t13 h =>
 runD (binD aB .rem t13 (.int .i64 8)) h fun t14 h =>
 runD (binD aB .eql t14 (.int .i64 0)) h fun t15 h =>
 J2 (.bool true) t15 h)
 (J2 (.bool false) .und h))
 (fun t12 t15 h => runD (bV t12 t15 (.bool false)) h fun t16 h =>
 aL (fun (J3 : AV → AV → List AObj → Prop) =>
 bF t16 true
 (aO false c (.fn (.func 136) [] []) [t0, (.fn (.func 137) [] [t3])] h (fun t21 h =>
 runD (unD .not t21) h fun t22 h =>
 J3 (.bool true) t22 h)
 (fun v h => K (.pan v) h))
 (J3 (.bool false) .und h))
 (fun t18 t22 h => runD (bV t18 t22 (.bool false)) h fun t23 h =>
 K (.ret t23) h)))
def eW.loops : Nat → bU
 | _ => ⟨[], [], [], [], [], []⟩
def eW.H (c : Ctx) (h : List AObj) (K : AOut → List AObj → Prop) : Prop :=
 runD (kV fE h.length) h fun t1 h =>
 runH (jT fE h t1 (.int .i64 1) (.fn (.func 139) [] [])) h fun _ h =>
 runH (jT fE h t1 (.int .i64 2) (.fn (.func 140) [] [])) h fun _ h =>
 K (.ret t1) h
def dW.loops : Nat → bU
 | _ => ⟨[], [], [], [], [], []⟩
def dW.H (c : Ctx) (t0 : AV) (t1 : AV) (h : List AObj) (K : AOut → List AObj → Prop) : Prop :=
 boxW fU t0 h fun t2 h =>
 runD (fitD fU (aD h t2)) h fun t4 h =>
 runD (fitD aB (aD h t1)) h fun t5 h =>
 aO false c (.fn (.func 138) [] []) [t4, t5] h (fun t6 h =>
 runD (unD .not t6) h fun t7 h =>
 K (.ret t7) h)
 (fun v h => K (.pan v) h)
def gY.loops : Nat → bU
 | 2 => ⟨[], [], [], [(4, none), (7, some [14, 21]), (2, none), (8, some [23, 31])], [], []⟩
 | _ => ⟨[], [], [], [], [], []⟩
def gY.H (c : Ctx) (t0 : AV) (t1 : AV) (h : List AObj) (K : AOut → List AObj → Prop) : Prop :=
 boxW fU t0 h fun t2 h =>
 runD (kV mN h.length) h fun t6 h =>
 runH (jT mN h t6 (.int .i64 1) t1) h fun _ h =>
 runD (binD aB .quo t1 (.int .i64 8)) h fun t9 h =>
 runH (jT mN h t6 (.int .i64 2) t9) h fun _ h =>
 runD (aC fU t2 1) h fun t11 h =>
 runD (fitD aB (aD h t11)) h fun t12 h =>
 runD (binD aB .geq t12 (.int .i64 0)) h fun t13 h =>
 aL (fun (J1 : AV → AV → List AObj → Prop) =>
 bF t13 true
 (runD (aC fU t2 1) h fun t15 h =>
 runD (fitD aB (aD h t15)) h fun t16 h =>
 runD (aC fU t2 0) h fun t18 h =>
 runD (fitD aB (aD h t18)) h fun t19 h =>
 runD (mA mN h t6 t19) h fun t20 h =>
 runD (binD aB .lss t16 t20) h fun t21 h =>
 J1 (.bool true) t21 h)
 (J1 (.bool false) .und h))
 (fun t14 t21 h => runD (bV t14 t21 (.bool false)) h fun t22 h =>
 aL (fun (J2 : AV → AV → List AObj → Prop) =>
 bF t22 true
 (runD (aC fU t2 0) h fun t24 h =>
 runD (fitD aB (aD h t24)) h fun t25 h =>
 runD (binD aB .eql t25 (.int .i64 1)) h fun t26 h =>
 aL (fun (J3 : AV → AV → List AObj → Prop) =>
 bF t26 false
 (runD (aC fU t2 2) h fun t28 h =>
 runD (fitD aB (aD h t28)) h fun t29 h =>
 runD (binD aB .eql t29 (.int .i64 0)) h fun t30 h =>
 J3 (.bool false) t30 h)
 (J3 (.bool true) .und h))
 (fun t27 t30 h => runD (bV t27 (.bool true) t30) h fun t31 h =>
 J2 (.bool true) t31 h))
 (J2 (.bool false) .und h))
 (fun t23 t31 h => runD (bV t23 t31 (.bool false)) h fun t32 h =>
 K (.ret t32) h))
def dA.loops : Nat → bU
 | _ => ⟨[], [], [], [], [], []⟩
def dA.H (c : Ctx) (t0 : AV) (t1 : AV) (h : List AObj) (K : AOut → List AObj → Prop) : Prop :=
 boxW fU t1 h fun t3 h =>
 runD (bM t0) h fun t7 h =>
 runD (aC jK t7 0) h fun t8 h =>
 runD (fitD aM (aD h t8)) h fun t9 h =>
 runD (aC fU t3 1) h fun t10 h =>
 runD (fitD aB (aD h t10)) h fun t11 h =>
 runD (aC fU t3 2) h fun t12 h =>
 runD (fitD aB (aD h t12)) h fun t13 h =>
 aO false c.noS (.fn (.func 148) [] []) [t9, t11, t13] h (fun t14 h =>
 runD (aW t14 0) h fun t15 h =>
 runD (aW t14 1) h fun t16 h =>
 runD (bM t0) h fun t17 h =>
 runD (aC jK t17 0) h fun t18 h =>
 runH (aT aM h t18 t15) h fun _ h =>
 K (.ret (.tup [])) h)
 (fun _ _ => False)
def cT.loops : Nat → bU
 | _ => ⟨[], [], [], [], [], []⟩
def cT.H (c : Ctx) (t0 : AV) (t1 : AV) (h : List AObj) (K : AOut → List AObj → Prop) : Prop :=
 boxW fU t1 h fun t3 h =>
 runD (bM t0) h fun t7 h =>
 runD (aC jK t7 0) h fun t8 h =>
 runD (fitD aM (aD h t8)) h fun t9 h =>
 runD (aC fU t3 1) h fun t10 h =>
 runD (fitD aB (aD h t10)) h fun t11 h =>
 aO false c.noS (.fn (.func 149) [] []) [t9, t11] h (fun t12 h =>
 runD (aW t12 0) h fun t13 h =>
 runD (aW t12 1) h fun t14 h =>
 runD (bM t0) h fun t15 h =>
 runD (aC jK t15 0) h fun t16 h =>
 runH (aT aM h t16 t13) h fun _ h =>
 runD (bM t0) h fun t20 h =>
 runD (aC jK t20 0) h fun t21 h =>
 runD (fitD aM (aD h t21)) h fun t22 h =>
 aO false c (.fn (.func 150) [] []) [t22] h (fun t23 h =>
 runD (aW t23 0) h fun t24 h =>
 runD (aW t23 1) h fun t25 h =>
 runD (bM t0) h fun t26 h =>
 runD (aC jK t26 0) h fun t27 h =>
 runH (aT aM h t27 t24) h fun _ h =>
 K (.ret (.tup [])) h)
 (fun v h => K (.pan v) h))
 (fun _ _ => False)
theorem iN.eq (F : List (FuncId × aE)) (S : List (FuncId × Con)) (t0 t1 : AV) (h : List AObj) (K : AOut → List AObj → Prop) : funW (ctx F S iN.loops) Tryz.f74 [t0, t1] h K = iN.H (ctx F S iN.loops) t0 t1 h K := by kernel_rfl
theorem iD.eq (F : List (FuncId × aE)) (S : List (FuncId × Con)) (t0 t1 : AV) (h : List AObj) (K : AOut → List AObj → Prop) : funW (ctx F S iD.loops) Tryz.f96 [t0, t1] h K = iD.H (ctx F S iD.loops) t0 t1 h K := by kernel_rfl
theorem fW.eq (F : List (FuncId × aE)) (S : List (FuncId × Con)) (t0 t1 : AV) (h : List AObj) (K : AOut → List AObj → Prop) : funW (ctx F S fW.loops) Tryz.f113 [t0, t1] h K = fW.H (ctx F S fW.loops) t0 t1 h K := by kernel_rfl
theorem eR.eq (F : List (FuncId × aE)) (S : List (FuncId × Con)) (t0 t1 t2 : AV) (h : List AObj) (K : AOut → List AObj → Prop) : funW (ctx F S eR.loops) Tryz.f114 [t0, t1, t2] h K = eR.H (ctx F S eR.loops) t0 t1 t2 h K := by kernel_rfl
theorem fX.eq (F : List (FuncId × aE)) (S : List (FuncId × Con)) (t0 t1 : AV) (h : List AObj) (K : AOut → List AObj → Prop) : funW (ctx F S fX.loops) Tryz.f123 [t0, t1] h K = fX.H (ctx F S fX.loops) t0 t1 h K := by kernel_rfl
theorem eW.eq (F : List (FuncId × aE)) (S : List (FuncId × Con)) (h : List AObj) (K : AOut → List AObj → Prop) : funW (ctx F S eW.loops) Tryz.f124 [] h K = eW.H (ctx F S eW.loops)  h K := by kernel_rfl
theorem dW.eq (F : List (FuncId × aE)) (S : List (FuncId × Con)) (t0 t1 : AV) (h : List AObj) (K : AOut → List AObj → Prop) : funW (ctx F S dW.loops) Tryz.f137 [t0, t1] h K = dW.H (ctx F S dW.loops) t0 t1 h K := by kernel_rfl
theorem gY.eq (F : List (FuncId × aE)) (S : List (FuncId × Con)) (t0 t1 : AV) (h : List AObj) (K : AOut → List AObj → Prop) : funW (ctx F S gY.loops) Tryz.f138 [t0, t1] h K = gY.H (ctx F S gY.loops) t0 t1 h K := by kernel_rfl
theorem dA.eq (F : List (FuncId × aE)) (S : List (FuncId × Con)) (t0 t1 : AV) (h : List AObj) (K : AOut → List AObj → Prop) : funW (ctx F S dA.loops) Tryz.f139 [t0, t1] h K = dA.H (ctx F S dA.loops) t0 t1 h K := by kernel_rfl
theorem cT.eq (F : List (FuncId × aE)) (S : List (FuncId × Con)) (t0 t1 : AV) (h : List AObj) (K : AOut → List AObj → Prop) : funW (ctx F S cT.loops) Tryz.f140 [t0, t1] h K = cT.H (ctx F S cT.loops) t0 t1 h K := by kernel_rfl
theorem iN.at : Tryz.prog.funcs[74]? = some Tryz.f74 := by kernel_rfl
theorem iN.nm : (Tryz.f74.name == "runtime.NumGoroutine") = false := by kernel_rfl
theorem iN.bd : Tryz.f74.body.isNone = false := by kernel_rfl
theorem iD.at : Tryz.prog.funcs[96]? = some Tryz.f96 := by kernel_rfl
theorem iD.nm : (Tryz.f96.name == "runtime.NumGoroutine") = false := by kernel_rfl
theorem iD.bd : Tryz.f96.body.isNone = false := by kernel_rfl
theorem fW.at : Tryz.prog.funcs[113]? = some Tryz.f113 := by kernel_rfl
theorem fW.nm : (Tryz.f113.name == "runtime.NumGoroutine") = false := by kernel_rfl
theorem fW.bd : Tryz.f113.body.isNone = false := by kernel_rfl
theorem eR.at : Tryz.prog.funcs[114]? = some Tryz.f114 := by kernel_rfl
theorem eR.nm : (Tryz.f114.name == "runtime.NumGoroutine") = false := by kernel_rfl
theorem eR.bd : Tryz.f114.body.isNone = false := by kernel_rfl
theorem fX.at : Tryz.prog.funcs[123]? = some Tryz.f123 := by kernel_rfl
theorem fX.nm : (Tryz.f123.name == "runtime.NumGoroutine") = false := by kernel_rfl
theorem fX.bd : Tryz.f123.body.isNone = false := by kernel_rfl
theorem eW.at : Tryz.prog.funcs[124]? = some Tryz.f124 := by kernel_rfl
theorem eW.nm : (Tryz.f124.name == "runtime.NumGoroutine") = false := by kernel_rfl
theorem eW.bd : Tryz.f124.body.isNone = false := by kernel_rfl
theorem dW.at : Tryz.prog.funcs[137]? = some Tryz.f137 := by kernel_rfl
theorem dW.nm : (Tryz.f137.name == "runtime.NumGoroutine") = false := by kernel_rfl
theorem dW.bd : Tryz.f137.body.isNone = false := by kernel_rfl
theorem gY.at : Tryz.prog.funcs[138]? = some Tryz.f138 := by kernel_rfl
theorem gY.nm : (Tryz.f138.name == "runtime.NumGoroutine") = false := by kernel_rfl
theorem gY.bd : Tryz.f138.body.isNone = false := by kernel_rfl
theorem dA.at : Tryz.prog.funcs[139]? = some Tryz.f139 := by kernel_rfl
theorem dA.nm : (Tryz.f139.name == "runtime.NumGoroutine") = false := by kernel_rfl
theorem dA.bd : Tryz.f139.body.isNone = false := by kernel_rfl
theorem cT.at : Tryz.prog.funcs[140]? = some Tryz.f140 := by kernel_rfl
theorem cT.nm : (Tryz.f140.name == "runtime.NumGoroutine") = false := by kernel_rfl
theorem cT.bd : Tryz.f140.body.isNone = false := by kernel_rfl
end Lam
namespace Lam
open Go Go.Proofs
def gY.C : aE
  | [.agg [.int .i64 k, .int .i64 a, .int .i64 w], .int .i64 n] => some (false, pD True (.bool (mmay ⟨k, a, w⟩ n)))
  | _ => none
theorem gY.spec : bO Tryz.prog 138 gY.C := by
  refine bO.of (bQ (F := []) (S := []) (by simp) (by simp) gY.loops) gY.at gY.nm gY.bd ?_
  intro vs b S v news e hS
  unfold gY.C at e
  split at e
  rotate_left
  · cases e
  cases e
  rw [gY.eq]
  unfold gY.H
  simp (maxSteps := 4000000) only [go_sem, reduceEqDiff, Nat.reduceLT, reduceAdd, reduceSub, reduceLeDiff, reduceReplicate, reduceToNat]
  refine ⟨by decide, ?_⟩
  exact aH rfl rfl
def dW.K : Con := fun args h K => match args with
  | [a0, a1] => dW.H (ctx [(138, gY.C)] [] dW.loops) a0 a1 h K
  | _ => False
theorem dW.spec : cN Tryz.prog 137 dW.K := by
  refine cN.of (bQ (F := [(138, gY.C)]) (S := []) (by simpa using gY.spec) (by simp) dW.loops) dW.at dW.nm dW.bd ?_
  intro args h K hC
  unfold dW.K at hC
  split at hC
  · rw [dW.eq]; exact hC
  · exact hC.elim
def aN.K : Con := fun args h K => match args with
  | [a0, a1] => aN.H (ctx [] [(137, dW.K)] aN.loops) a0 a1 h K
  | _ => False
theorem aN.spec : cN Tryz.prog 147 aN.K := by
  refine cN.of (bQ (F := []) (S := [(137, dW.K)]) (by simp) (by simpa using dW.spec) aN.loops) aN.at aN.nm aN.bd ?_
  intro args h K hC
  unfold aN.K at hC
  split at hC
  · rw [aN.eq]; exact hC
  · exact hC.elim
def aR.K : Con := fun args h K => match args with
  | [a0, a1] => aR.H (ctx [] [(147, aN.K)] aR.loops) a0 a1 h K
  | _ => False
theorem aR.spec : cN Tryz.prog 136 aR.K := by
  refine cN.of (bQ (F := []) (S := [(147, aN.K)]) (by simp) (by simpa using aN.spec) aR.loops) aR.at aR.nm aR.bd ?_
  intro args h K hC
  unfold aR.K at hC
  split at hC
  · rw [aR.eq]; exact hC
  · exact hC.elim

theorem aCh (x : Mic) (n : Int) (h : List AObj) (K : AOut → List AObj → Prop) (id : Nat) (hid : h[id]? = some (.box (.int .i64 n)))
    (hK : K (.ret (.bool (!mmay x n))) (h ++ [.box (aJB x)])) : dW.K [.agg [.int .i64 x.kind, .int .i64 x.at_, .int .i64 x.val], .ptr id []] h K := by
  have hlt : id < h.length := (List.getElem?_eq_some_iff.1 hid).1
  have hid' : ∀ r, (h ++ r)[id]? = some (.box (.int .i64 n)) := fun r => by rw [List.getElem?_append_left hlt]; exact hid
  have hlen : ∀ o r, (h ++ o :: r)[h.length]? = some o := fun o r => by simp
  unfold dW.K
  simp only
  unfold dW.H
  simp only [go_sem, reduceEqDiff, Nat.reduceLT, reduceAdd, reduceSub, reduceLeDiff, reduceReplicate, reduceToNat, hid', hlen, gY.C]
  exact hK

theorem aLN (l : List Mic) (n : Int) (K : AOut → List AObj → Prop) (x : Bool) (hr : roomy l.length) (h : List AObj) (hh : h = [.box (.int .i64 n)])
    (hK : ∀ r h', (r = -1 ∧ (∀ y ∈ l, mmay y n = true)) ∨ (0 ≤ r ∧ ∃ y ∈ l, mmay y n = false) → K (.ret (.int .i64 r)) h') :
    aN.K [.sl x (.mics l), .fn (.func 137) [] [.ptr 0 []]] h K := by
  unfold roomy at hr
  unfold aN.K
  simp only
  unfold aN.H
  subst hh
  simp only [go_sem, reduceEqDiff, Nat.reduceLT, reduceAdd, reduceSub, reduceLeDiff, reduceReplicate, reduceToNat, aA]
  unfold aN.L1
  refine ⟨fun m lv h' => ∃ k : Nat, k + m = l.length ∧ lv = [.int .i64 k] ∧ h' = [.box (.int .i64 n)] ∧ ∀ y ∈ l.take k, mmay y n = true, ⟨l.length, 0, by omega, rfl, rfl, by simp⟩, ?_⟩
  rintro m h' t8 ⟨k, hk, hlv, rfl, hall⟩
  simp only [List.cons.injEq, and_true] at hlv
  subst hlv
  simp only [go_sem, reduceEqDiff, Nat.reduceLT, reduceAdd, reduceSub, reduceLeDiff, reduceReplicate, reduceToNat]
  refine ⟨fun hlt => ⟨by omega, ?_⟩, fun hge => ?_⟩
  · have hkl : k < l.length := by omega
    apply aCh _ n _ _ 0 rfl
    simp only [go_sem, reduceEqDiff, Nat.reduceLT, reduceAdd, reduceSub, reduceLeDiff, reduceReplicate, reduceToNat]
    refine ⟨fun h => hK _ _ (.inr ⟨by omega, _, lN l k _ hkl, by simpa using h⟩), fun h => ?_⟩
    refine ⟨m - 1, by omega, k + 1, by omega, by rw [w64 (by omega) (by omega)]; rfl, ?_⟩
    intro y hy
    rw [iK l k ⟨0, 0, 0⟩ hkl] at hy
    rcases List.mem_append.1 hy with hy | hy
    · exact hall y hy
    · rw [List.mem_singleton.1 hy]; simpa using h
  · have : k = l.length := by omega
    subst this
    rw [List.take_length] at hall
    exact hK _ _ (.inl ⟨rfl, hall⟩)

theorem aHE (l : List Mic) (n : Int) (K : AOut → List AObj → Prop) (x : Bool) (hr : roomy l.length) (h : List AObj) (hh : h = [.box (.int .i64 n)])
    (hK : ∀ h', K (.ret (.bool (!l.all (mmay · n)))) h') :
    aR.K [.sl x (.mics l), .fn (.func 137) [] [.ptr 0 []]] h K := by
  unfold aR.K
  simp only
  unfold aR.H
  subst hh
  simp only [go_sem, reduceEqDiff, Nat.reduceLT, reduceAdd, reduceSub, reduceLeDiff, reduceReplicate, reduceToNat]
  apply aLN l n _ x hr _ rfl
  intro r h' hcase
  simp only [go_sem, reduceEqDiff, Nat.reduceLT, reduceAdd, reduceSub, reduceLeDiff, reduceReplicate, reduceToNat]
  have : decide (0 ≤ r) = !l.all (mmay · n) := by
    rcases hcase with ⟨rfl, h⟩ | ⟨h0, y, hy, h⟩
    · have : l.all (mmay · n) = true := List.all_eq_true.2 h
      rw [this]; rfl
    · have : l.all (mmay · n) = false := by
        rw [List.all_eq_false]; exact ⟨y, hy, by simp [h]⟩
      rw [this]; simpa using h0
  rw [this]; exact hK h'

def fX.C : aE
  | [.sl _ (.mics l), .int .i64 n] => some (false, pD (roomy l.length) (.bool (aAy n && l.all (mmay · n))))
  | _ => none
theorem fX.spec : bO Tryz.prog 123 fX.C := by
  refine bO.of (bQ (F := []) (S := [(136, aR.K)]) (by simp) (by simpa using aR.spec) fX.loops) fX.at fX.nm fX.bd ?_
  intro vs b S v news e hS
  unfold fX.C at e
  split at e
  rotate_left
  · cases e
  cases e
  rw [fX.eq]
  unfold fX.H
  simp (maxSteps := 4000000) only [go_sem, reduceEqDiff, Nat.reduceLT, reduceAdd, reduceSub, reduceLeDiff, reduceReplicate, reduceToNat]
  refine ⟨by simp, ?_⟩
  rw [aA]
  simp only [oK]
  refine ⟨fun hs => ?_, fun hs => ?_⟩
  · apply aHE _ _ _ _ hS _ rfl
    intro h'
    simp only [go_sem, reduceEqDiff, Nat.reduceLT, reduceAdd, reduceSub, reduceLeDiff, reduceReplicate, reduceToNat, Bool.not_not]
    exact aH (by rw [show aAy _ = true from hs, Bool.true_and]; rfl) rfl
  · simp only [go_sem, reduceEqDiff, Nat.reduceLT, reduceAdd, reduceSub, reduceLeDiff, reduceReplicate, reduceToNat]
    exact aH (by rw [show aAy _ = false from hs, Bool.false_and]; rfl) rfl


def dA.K : Con := fun args h K => match args with
  | [a0, a1] => dA.H (ctx [(148, iM.C)] [] dA.loops) a0 a1 h K
  | _ => False
theorem dA.spec : cN Tryz.prog 139 dA.K := by
  refine cN.of (bQ (F := [(148, iM.C)]) (S := []) (by simpa using iM.spec) (by simp) dA.loops) dA.at dA.nm dA.bd ?_
  intro args h K hC
  unfold dA.K at hC
  split at hC
  · rw [dA.eq]; exact hC
  · exact hC.elim
def cT.K : Con := fun args h K => match args with
  | [a0, a1] => cT.H (ctx [(149, gF.C), (150, gG.C)] [] cT.loops) a0 a1 h K
  | _ => False
theorem cT.spec : cN Tryz.prog 140 cT.K := by
  refine cN.of (bQ (F := [(149, gF.C), (150, gG.C)]) (S := []) (by simpa using ⟨gF.spec, gG.spec⟩) (by simp) cT.loops) cT.at cT.nm cT.bd ?_
  intro args h K hC
  unfold cT.K at hC
  split at hC
  · rw [cT.eq]; exact hC
  · exact hC.elim
def eW.K : Con := fun args h K => match args with
  | [] => eW.H (ctx [] [] eW.loops)  h K
  | _ => False
theorem eW.spec : cN Tryz.prog 124 eW.K := by
  refine cN.of (bQ (F := []) (S := []) (by simp) (by simp) eW.loops) eW.at eW.nm eW.bd ?_
  intro args h K hC
  unfold eW.K at hC
  split at hC
  · rw [eW.eq]; exact hC
  · exact hC.elim
def eR.C : aE
  | [.agg [.sl false (.ints .i64 vol), .sl false (.ints .i64 per), .sl false (.pends pend)], .sl _ (.mics l), .int .i64 n] => some (false, pD (Mm.ok ⟨vol, per, pend⟩ ∧ (∀ x ∈ l, MayN x vol.length) ∧ pend.length + l.length ≤ 1000000 ∧ 0 ≤ n ∧ n ≤ (l.length : Int)) (runS ⟨vol, per, pend⟩ (l.take n.toNat)).V)
  | _ => none
theorem eR.spec : bO Tryz.prog 114 eR.C := by
  refine bO.of (bQ (F := []) (S := [(124, eW.K), (139, dA.K), (140, cT.K)]) (by simp) (by simpa using ⟨eW.spec, dA.spec, cT.spec⟩) eR.loops) eR.at eR.nm eR.bd ?_
  intro vs b S v news e hS
  unfold eR.C at e
  split at e
  rotate_left
  · cases e
  cases e
  rw [eR.eq]
  unfold eR.H
  simp (maxSteps := 4000000) only [go_sem, reduceEqDiff, Nat.reduceLT, reduceAdd, reduceSub, reduceLeDiff, reduceReplicate, reduceToNat, eW.K, eW.H]
  rename_i vol per pend _ l n
  obtain ⟨ok, hl, hsz, hn0, hn1⟩ := hS
  rw [aA]
  unfold eR.L1
  refine lA (σ := Nat) (fun k => .int .i64 k) (fun k => [.box (memV vol per pend), .box (memV [] [] []), .box (.agg [(runS ⟨vol, per, pend⟩ (l.take k)).V]), .map (.ifn fun j => if j = 2 then some 140 else if j = 1 then some 139 else none)]) (fun k => n.toNat - k) (fun k => k ≤ n.toNat) 0 rfl rfl (Nat.zero_le _) ?_
  intro I back k hk
  have okk := aHY (l.take k) ok fun x hx => hl x ((List.take_sublist _ _).subset hx)
  have lenk := aGn (l.take k) ⟨vol, per, pend⟩
  have pendk := aAA (l.take k) ⟨vol, per, pend⟩
  rw [List.length_take] at pendk
  simp only [] at lenk pendk
  simp only [go_sem, reduceEqDiff, Nat.reduceLT, reduceAdd, reduceSub, reduceLeDiff, reduceReplicate, reduceToNat]
  refine ⟨fun hlt => ?_, fun hge => ?_⟩
  · have hkl : k < l.length := by omega
    have hnx : runS ⟨vol, per, pend⟩ (l.take (k + 1)) = jS (runS ⟨vol, per, pend⟩ (l.take k)) (l.getD k ⟨0, 0, 0⟩) := by
      rw [iK l k ⟨0, 0, 0⟩ hkl, aHw]; rfl
    have hx := hl _ (lN l k ⟨0, 0, 0⟩ hkl)
    generalize l.getD k ⟨0, 0, 0⟩ = x at *
    generalize runS ⟨vol, per, pend⟩ (l.take k) = m at *
    have hsm : kT m.vol m.per m.pend := OkM.small okk (by omega)
    refine ⟨by omega, ?_⟩
    rcases hx with ⟨hkd, h0, h1⟩ | ⟨hkd, h0, h1, _⟩
    · have hp : mV m.vol m.per m.pend x.at_ = true := aEI.2 ⟨⟨h0, by omega⟩, okk⟩
      have hst : jS m x = store m x.at_ x.val := by unfold jS; rw [if_pos hkd]
      have e : (if x.kind = 2 then some 140 else if x.kind = 1 then some 139 else none : Option Nat) = some 139 := by rw [if_neg (by omega), if_pos hkd]
      simp only [e, dA.K, dA.H, iM.C, aMT hp, go_sem, reduceEqDiff, Nat.reduceLT, reduceAdd, reduceSub, reduceLeDiff, reduceReplicate, reduceToNat]
      refine ⟨by omega, ⟨hsm, by unfold roomy; omega⟩, back (k + 1) (by omega) (by rw [eQ (by omega)]) ?_ (by omega)⟩
      rw [hnx, hst]; rfl
    · have hp : mV m.vol m.per m.pend (pC m.vol x.at_) = true := (OkM.first okk h0 (by omega)).2
      have hst : jS m x = vG m x.at_ := by unfold jS; rw [if_neg (by omega)]
      have e : (if x.kind = 2 then some 140 else if x.kind = 1 then some 139 else none : Option Nat) = some 140 := by rw [if_pos hkd]
      have okf := okk.flush x.at_
      simp only [e, cT.K, cT.H, gF.C, aKq hp, aKr, aAx.2 okf, gG.C, go_sem, reduceEqDiff, Nat.reduceLT, reduceAdd, reduceSub, reduceLeDiff, reduceReplicate, reduceToNat]
      refine ⟨by omega, hsm, OkM.small okf (by rw [aIW]; omega), back (k + 1) (by omega) (by rw [eQ (by omega)]) ?_ (by omega)⟩
      rw [hnx, hst]; rfl
  · have : k = n.toNat := by omega
    subst this
    refine aH ?_ rfl
    simp only [go_sem, reduceEqDiff, Nat.reduceLT, reduceAdd, reduceSub, reduceLeDiff, reduceReplicate, reduceToNat]

def yC (m : Mm) (l : List Mic) : Bool := m.okB && aKs l m.vol.length
def fW.C : aE
  | [.agg [.sl false (.ints .i64 vol), .sl false (.ints .i64 per), .sl false (.pends pend)], .sl _ (.mics l)] => some (false, pD (kT vol per pend ∧ roomy l.length) (.bool (yC ⟨vol, per, pend⟩ l)))
  | _ => none
theorem fW.spec : bO Tryz.prog 113 fW.C := by
  refine bO.of (bQ (F := [(13, eD.C), (123, fX.C)]) (S := []) (by simpa using ⟨eD.spec, fX.spec⟩) (by simp) fW.loops) fW.at fW.nm fW.bd ?_
  intro vs b S v news e hS
  unfold fW.C at e
  split at e
  rotate_left
  · cases e
  cases e
  rw [fW.eq]
  unfold fW.H
  simp (maxSteps := 4000000) only [go_sem, reduceEqDiff, Nat.reduceLT, reduceAdd, reduceSub, reduceLeDiff, reduceReplicate, reduceToNat, eD.C, fX.C]
  exact ⟨hS.1, fun _ => hS.2, aH rfl rfl⟩
theorem aKI {m : Mm} {l : List Mic} : yC m l = true ↔ m.ok ∧ ∀ x ∈ l, MayN x m.vol.length := by
  unfold yC aKs
  rw [Bool.and_eq_true, Bool.and_eq_true, Mm.ok_iff, List.all_eq_true]
  constructor
  · rintro ⟨h1, _, h2⟩
    exact ⟨h1, fun x hx => (aGm h1.sz).1 (h2 x hx)⟩
  · rintro ⟨h1, h2⟩
    have hmd := h1.md
    have hsz := h1.sz
    refine ⟨h1, ?_, fun x hx => (aGm h1.sz).2 (h2 x hx)⟩
    unfold aAy
    simp only [Bool.and_eq_true, decide_eq_true_eq]
    refine ⟨⟨by omega, by omega⟩, ?_⟩
    rw [Int.tmod_eq_emod_of_nonneg (by omega)]; omega
def runV (m : Mm) (l : List Mic) : AV := if yC m l = true then .tup [(runS m l).V, .int .i64 0] else .tup [m.V, .int .i64 40]
def iD.C : aE
  | [.agg [.sl false (.ints .i64 vol), .sl false (.ints .i64 per), .sl false (.pends pend)], .sl _ (.mics l)] => some (false, pD (kT vol per pend ∧ pend.length + l.length ≤ 1000000) (runV ⟨vol, per, pend⟩ l))
  | _ => none
theorem iD.spec : bO Tryz.prog 96 iD.C := by
  refine bO.of (bQ (F := [(113, fW.C), (114, eR.C)]) (S := []) (by simpa using ⟨fW.spec, eR.spec⟩) (by simp) iD.loops) iD.at iD.nm iD.bd ?_
  intro vs b S v news e hS
  unfold iD.C at e
  split at e
  rotate_left
  · cases e
  cases e
  rw [iD.eq]
  unfold iD.H
  simp (maxSteps := 4000000) only [go_sem, reduceEqDiff, Nat.reduceLT, reduceAdd, reduceSub, reduceLeDiff, reduceReplicate, reduceToNat, fW.C, eR.C]
  rename_i vol per pend _ l
  obtain ⟨hs, hz⟩ := hS
  refine ⟨⟨hs, by unfold roomy; omega⟩, fun h => ?_, fun h => ?_⟩
  · unfold runV; rw [h]; exact aH rfl rfl
  · obtain ⟨ok, hl⟩ := aKI.1 h
    refine ⟨⟨ok, hl, hz, by omega, by omega⟩, ?_⟩
    unfold runV; simp only [h, if_true]
    refine aH ?_ rfl
    simp only [go_sem, reduceEqDiff, Nat.reduceLT, reduceAdd, reduceSub, reduceLeDiff, reduceReplicate, reduceToNat, Int.toNat_natCast, List.take_length]
def iN.C : aE
  | [.agg [.sl false (.ints .i64 vol), .sl false (.ints .i64 per), .sl false (.pends pend)], .agg [.int .i64 a, .int .i64 b, .int .i64 c]] => some (false, pD (kT vol per pend ∧ pend.length + 1 ≤ 1000000) (runV ⟨vol, per, pend⟩ [⟨a, b, c⟩]))
  | _ => none
theorem iN.spec : bO Tryz.prog 74 iN.C := by
  refine bO.of (bQ (F := [(96, iD.C)]) (S := []) (by simpa using iD.spec) (by simp) iN.loops) iN.at iN.nm iN.bd ?_
  intro vs b S v news e hS
  unfold iN.C at e
  split at e
  rotate_left
  · cases e
  cases e
  rw [iN.eq]
  unfold iN.H
  simp (maxSteps := 4000000) only [go_sem, reduceEqDiff, Nat.reduceLT, reduceAdd, reduceSub, reduceLeDiff, reduceReplicate, reduceToNat, iD.C]
  rename_i vol per pend a b c
  unfold runV
  cases h : yC ⟨vol, per, pend⟩ [⟨a, b, c⟩]
  · simp only [aA, gq, reduceEq, reduceLT, reduceLE, implies_true, reduceCtorEq, if_true, if_false, go_sem, reduceEqDiff, Nat.reduceLT, reduceAdd, reduceSub, reduceLeDiff, reduceReplicate, reduceToNat]
    exact ⟨⟨hS.1, by omega⟩, aH rfl rfl⟩
  · simp only [aA, gq, reduceEq, reduceLT, reduceLE, implies_true, reduceCtorEq, if_true, if_false, go_sem, reduceEqDiff, Nat.reduceLT, reduceAdd, reduceSub, reduceLeDiff, reduceReplicate, reduceToNat]
    exact ⟨⟨hS.1, by omega⟩, aH rfl rfl⟩
end Lam
namespace Lam
open Go Go.Proofs
def eE.loops : Nat → bU
 | 6 => ⟨[47], [false], [5, 45, 46], [], [], []⟩
 | _ => ⟨[], [], [], [], [], []⟩
def eE.L1 (c : Ctx) (J1 : List AObj → Prop) (J4 : AV → List AObj → Prop) (K : AOut → List AObj → Prop) (lv : List AV) (h0 : List AObj) (n0 : Nat) (c5 : AV) (c45 : AV) (c46 : AV) : Prop :=
 ∃ I : Nat → List AV → List AObj → Prop, (∃ n, I n lv h0) ∧ ∀ n h, ∀ t47, I n [t47] h →
 runD (binD aB .lss t47 c46) h fun t48 h =>
 bC t48
 (runD (aG aI h c45 t47) h fun t49 h =>
 runD (fitD aB (aD h t49)) h fun t50 h =>
 runD (binD aB .neq t50 (.int .i64 0)) h fun t52 h =>
 bC t52
 (J1 h)
 (runD (binD aB .add t47 (.int .i64 1)) h fun t53 h =>
 (∃ m, m < n ∧ I m (AV.norms n0 h [t53]) (cI n0 h)) ∧ AV.norms n0 h [c5, c45, c46] = [c5, c45, c46]))
 (J4 c5 h)
def eE.H (c : Ctx) (t0 : AV) (h : List AObj) (K : AOut → List AObj → Prop) : Prop :=
 aL (fun (J1 : List AObj → Prop) =>
 cV dF h fun t5 h =>
 runD (lenD aI h t0) h fun t9 h =>
 runD (binD aB .lss t9 (.int .i64 32)) h fun t10 h =>
 bC t10
 (J1 h)
 (runD (aG aI h t0 (.int .i64 0)) h fun t12 h =>
 runD (fitD aB (aD h t12)) h fun t13 h =>
 runD (aG aI h t0 (.int .i64 1)) h fun t15 h =>
 runD (fitD aB (aD h t15)) h fun t16 h =>
 runD (aG aI h t0 (.int .i64 2)) h fun t18 h =>
 runD (fitD aB (aD h t18)) h fun t19 h =>
 runD (aG aI h t0 (.int .i64 3)) h fun t21 h =>
 runD (fitD aB (aD h t21)) h fun t22 h =>
 runD (hG dF [(0, t13), (1, t16), (2, t19), (3, t22)]) h fun t23 h =>
 runH (aT dF h t5 t23) h fun _ h =>
 runD (fitD dF (aD h t5)) h fun t24 h =>
 runD (aC dF t5 1) h fun t25 h =>
 runD (fitD aB (aD h t25)) h fun t26 h =>
 runD (aC dF t5 3) h fun t27 h =>
 runD (fitD aB (aD h t27)) h fun t28 h =>
 aO false c.noS (.fn (.func 65) [] []) [t26, t28] h (fun t29 h =>
 runD (binD dF .neq t24 t29) h fun t30 h =>
 aL (fun (J2 : AV → AV → List AObj → Prop) =>
 bF t30 false
 (runD (fitD dF (aD h t5)) h fun t32 h =>
 aO false c.noS (.fn (.func 66) [] []) [t32] h (fun t33 h =>
 runD (unD .not t33) h fun t34 h =>
 J2 (.bool false) t34 h)
 (fun _ _ => False))
 (J2 (.bool true) .und h))
 (fun t31 t34 h => runD (bV t31 (.bool true) t34) h fun t35 h =>
 aL (fun (J3 : AV → AV → List AObj → Prop) =>
 bF t35 false
 (runD (aC dF t5 1) h fun t37 h =>
 runD (fitD aB (aD h t37)) h fun t38 h =>
 runD (lenD aI h t0) h fun t40 h =>
 runD (binD aB .quo t40 (.int .i64 16)) h fun t41 h =>
 runD (binD aB .neq t38 t41) h fun t42 h =>
 J3 (.bool false) t42 h)
 (J3 (.bool true) .und h))
 (fun t36 t42 h => runD (bV t36 (.bool true) t42) h fun t43 h =>
 bC t43
 (J1 h)
 (runD (eJ aI h t0 (some (.int .i64 4)) (some (.int .i64 16)) none) h fun t45 h =>
 runD (lenD aI h t45) h fun t46 h =>
 aL (fun (J4 : AV → List AObj → Prop) =>
 dK [false] [(.int .i64 0)] h fun lv h => eE.L1 c J1 J4 K (AV.norms h.length h lv) (cI h.length h) h.length (AV.norm h.length h t5) (AV.norm h.length h t45) (AV.norm h.length h t46))
 (fun t5 h => runD (aC dF t5 1) h fun t54 h =>
 runD (fitD aB (aD h t54)) h fun t55 h =>
 runD (aC dF t5 3) h fun t56 h =>
 runD (fitD aB (aD h t56)) h fun t57 h =>
 K (.ret (.tup [t55, t57, (.int .i64 0)])) h)))))
 (fun _ _ => False)))
 (fun h => K (.ret (.tup [(.int .i64 0), (.int .i64 0), (.int .i64 80)])) h)
def fY.loops : Nat → bU
 | _ => ⟨[], [], [], [], [], []⟩
def fY.H (c : Ctx) (t0 : AV) (t1 : AV) (h : List AObj) (K : AOut → List AObj → Prop) : Prop :=
 aO false c (.fn (.func 65) [] []) [t0, t1] h (fun t10 h =>
 cV dF h fun t6 h =>
 runH (aT dF h t6 t10) h fun _ h =>
 runD (fitD dF (aD h t6)) h fun t11 h =>
 aO false c (.fn (.func 66) [] []) [t11] h (fun t12 h =>
 runD (unD .not t12) h fun t13 h =>
 bC t13
 (K (.ret (.tup [(.sl true (.ints .i64 [])), (.int .i64 1)])) h)
 (runD (kF aI (.int .i64 16) (.int .i64 16) h.length) h fun t14 h =>
 runD (aC dF t6 0) h fun t16 h =>
 runD (fitD aB (aD h t16)) h fun t17 h =>
 runD (aC dF t6 1) h fun t18 h =>
 runD (fitD aB (aD h t18)) h fun t19 h =>
 runD (aC dF t6 2) h fun t20 h =>
 runD (fitD aB (aD h t20)) h fun t21 h =>
 runD (aC dF t6 3) h fun t22 h =>
 runD (fitD aB (aD h t22)) h fun t23 h =>
 runD (gE aI 4 [(0, t17), (1, t19), (2, t21), (3, t23)] h.length) h fun t24 h =>
 runM (mE aI h t14 t24) h fun t25 h =>
 K (.ret (.tup [t14, (.int .i64 0)])) h))
 (fun v h => K (.pan v) h))
 (fun v h => K (.pan v) h)
def iA.loops : Nat → bU
 | _ => ⟨[], [], [], [], [], []⟩
def iA.H (c : Ctx) (t0 : AV) (t1 : AV) (h : List AObj) (K : AOut → List AObj → Prop) : Prop :=
 cV dF h fun t4 h =>
 runD (gE aI 2 [(0, (.int .i64 7015)), (1, t0)] h.length) h fun t7 h =>
 aO false c (.fn (.func 93) [] []) [t7] h (fun t8 h =>
 runD (hG dF [(0, (.int .i64 7015)), (1, t0), (2, t8), (3, t1)]) h fun t10 h =>
 runH (aT dF h t4 t10) h fun _ h =>
 dG (fitD dF (aD h t4)) fun r0 => K (.ret r0) h)
 (fun v h => K (.pan v) h)
def dQ.loops : Nat → bU
 | 1 => ⟨[], [], [], [(4, none), (3, some [6, 9]), (2, none), (3, some [11, 14]), (2, none), (5, some [16, 21])], [], []⟩
 | _ => ⟨[], [], [], [], [], []⟩
def dQ.H (c : Ctx) (t0 : AV) (h : List AObj) (K : AOut → List AObj → Prop) : Prop :=
 boxW dF t0 h fun t1 h =>
 runD (aC dF t1 1) h fun t3 h =>
 runD (fitD aB (aD h t3)) h fun t4 h =>
 runD (binD aB .geq t4 (.int .i64 2)) h fun t5 h =>
 aL (fun (J1 : AV → AV → List AObj → Prop) =>
 bF t5 true
 (runD (aC dF t1 1) h fun t7 h =>
 runD (fitD aB (aD h t7)) h fun t8 h =>
 runD (binD aB .leq t8 (.int .i64 256)) h fun t9 h =>
 J1 (.bool true) t9 h)
 (J1 (.bool false) .und h))
 (fun t6 t9 h => runD (bV t6 t9 (.bool false)) h fun t10 h =>
 aL (fun (J2 : AV → AV → List AObj → Prop) =>
 bF t10 true
 (runD (aC dF t1 3) h fun t12 h =>
 runD (fitD aB (aD h t12)) h fun t13 h =>
 runD (binD aB .geq t13 (.int .i64 1)) h fun t14 h =>
 J2 (.bool true) t14 h)
 (J2 (.bool false) .und h))
 (fun t11 t14 h => runD (bV t11 t14 (.bool false)) h fun t15 h =>
 aL (fun (J3 : AV → AV → List AObj → Prop) =>
 bF t15 true
 (runD (aC dF t1 3) h fun t17 h =>
 runD (fitD aB (aD h t17)) h fun t18 h =>
 runD (aC dF t1 1) h fun t19 h =>
 runD (fitD aB (aD h t19)) h fun t20 h =>
 runD (binD aB .lss t18 t20) h fun t21 h =>
 J3 (.bool true) t21 h)
 (J3 (.bool false) .und h))
 (fun t16 t21 h => runD (bV t16 t21 (.bool false)) h fun t22 h =>
 K (.ret t22) h)))
theorem eE.eq (F : List (FuncId × aE)) (S : List (FuncId × Con)) (t0 : AV) (h : List AObj) (K : AOut → List AObj → Prop) : funW (ctx F S eE.loops) Tryz.f38 [t0] h K = eE.H (ctx F S eE.loops) t0 h K := by kernel_rfl
theorem fY.eq (F : List (FuncId × aE)) (S : List (FuncId × Con)) (t0 t1 : AV) (h : List AObj) (K : AOut → List AObj → Prop) : funW (ctx F S fY.loops) Tryz.f56 [t0, t1] h K = fY.H (ctx F S fY.loops) t0 t1 h K := by kernel_rfl
theorem iA.eq (F : List (FuncId × aE)) (S : List (FuncId × Con)) (t0 t1 : AV) (h : List AObj) (K : AOut → List AObj → Prop) : funW (ctx F S iA.loops) Tryz.f65 [t0, t1] h K = iA.H (ctx F S iA.loops) t0 t1 h K := by kernel_rfl
theorem dQ.eq (F : List (FuncId × aE)) (S : List (FuncId × Con)) (t0 : AV) (h : List AObj) (K : AOut → List AObj → Prop) : funW (ctx F S dQ.loops) Tryz.f66 [t0] h K = dQ.H (ctx F S dQ.loops) t0 h K := by kernel_rfl
theorem eE.at : Tryz.prog.funcs[38]? = some Tryz.f38 := by kernel_rfl
theorem eE.nm : (Tryz.f38.name == "runtime.NumGoroutine") = false := by kernel_rfl
theorem eE.bd : Tryz.f38.body.isNone = false := by kernel_rfl
theorem fY.at : Tryz.prog.funcs[56]? = some Tryz.f56 := by kernel_rfl
theorem fY.nm : (Tryz.f56.name == "runtime.NumGoroutine") = false := by kernel_rfl
theorem fY.bd : Tryz.f56.body.isNone = false := by kernel_rfl
theorem iA.at : Tryz.prog.funcs[65]? = some Tryz.f65 := by kernel_rfl
theorem iA.nm : (Tryz.f65.name == "runtime.NumGoroutine") = false := by kernel_rfl
theorem iA.bd : Tryz.f65.body.isNone = false := by kernel_rfl
theorem dQ.at : Tryz.prog.funcs[66]? = some Tryz.f66 := by kernel_rfl
theorem dQ.nm : (Tryz.f66.name == "runtime.NumGoroutine") = false := by kernel_rfl
theorem dQ.bd : Tryz.f66.body.isNone = false := by kernel_rfl
end Lam
namespace Lam
open Go Go.Proofs
def aJn (b r : Int) : AV := .agg [.int .i64 7015, .int .i64 b, .int .i64 (aBh [7015, b]), .int .i64 r]
def iA.C : aE
  | [.int .i64 b, .int .i64 r] => some (false, pD True (aJn b r))
  | _ => none
theorem iA.spec : bO Tryz.prog 65 iA.C := by
  refine bO.of (bQ (F := [(93, iS.C)]) (S := []) (by simpa using iS.spec) (by simp) iA.loops) iA.at iA.nm iA.bd ?_
  intro vs b S v news e hS
  unfold iA.C at e
  split at e
  rotate_left
  · cases e
  cases e
  rw [iA.eq]
  unfold iA.H
  simp (maxSteps := 4000000) only [go_sem, reduceEqDiff, Nat.reduceLT, reduceAdd, reduceSub, reduceLeDiff, reduceReplicate, reduceToNat, iS.C]
  exact ⟨by unfold roomy; decide, aH rfl rfl⟩
def mayB (b r : Int) : Bool := decide (2 ≤ b) && decide (b ≤ 256) && decide (1 ≤ r) && decide (r < b)
def dQ.C : aE
  | [.agg [.int .i64 _, .int .i64 b, .int .i64 _, .int .i64 r]] => some (false, pD True (.bool (mayB b r)))
  | _ => none
theorem dQ.spec : bO Tryz.prog 66 dQ.C := by
  refine bO.of (bQ (F := []) (S := []) (by simp) (by simp) dQ.loops) dQ.at dQ.nm dQ.bd ?_
  intro vs b S v news e hS
  unfold dQ.C at e
  split at e
  rotate_left
  · cases e
  cases e
  rw [dQ.eq]
  unfold dQ.H
  simp (maxSteps := 4000000) only [go_sem, reduceEqDiff, Nat.reduceLT, reduceAdd, reduceSub, reduceLeDiff, reduceReplicate, reduceToNat]
  exact aH rfl rfl
def qI (b r : Int) : List Int := [7015, b, aBh [7015, b], r] ++ List.replicate 12 0
def fY.C : aE
  | [.int .i64 b, .int .i64 r] => some (false, pD True (if mayB b r = true then .tup [.sl false (.ints .i64 (qI b r)), .int .i64 0] else .tup [.sl false (.ints .i64 []), .int .i64 1]))
  | _ => none
theorem fY.spec : bO Tryz.prog 56 fY.C := by
  refine bO.of (bQ (F := [(65, iA.C), (66, dQ.C)]) (S := []) (by simpa using ⟨iA.spec, dQ.spec⟩) (by simp) fY.loops) fY.at fY.nm fY.bd ?_
  intro vs b S v news e hS
  unfold fY.C at e
  split at e
  rotate_left
  · cases e
  cases e
  rw [fY.eq]
  unfold fY.H
  simp (maxSteps := 4000000) only [go_sem, reduceEqDiff, Nat.reduceLT, reduceAdd, reduceSub, reduceLeDiff, reduceReplicate, reduceToNat, iA.C, dQ.C, aJn]
  refine ⟨fun h => ?_, fun h => ?_⟩
  · simp only [h, Bool.false_eq_true, if_false]; exact aH rfl rfl
  · refine ⟨by unfold roomy; decide, ?_⟩
    simp only [h, if_true]; exact aH rfl rfl

def aJo (l : List Int) : Bool := decide (l.getD 0 0 = 7015) && decide (l.getD 2 0 = aBh [7015, l.getD 1 0]) && mayB (l.getD 1 0) (l.getD 3 0) && decide (l.getD 1 0 = ((l.length / 16 : Nat) : Int))
def eV (l : List Int) : Bool := decide (32 ≤ l.length) && aJo l && ((l.drop 4).take 12).all (fun w => decide (w = 0))
theorem aSi (a b m d : Bool) : (!(a && b) || !m || !d) = !(a && b && m && d) := by cases a <;> cases b <;> cases m <;> cases d <;> rfl
def kU (l : List Int) : AV := if eV l = true then .tup [.int .i64 (l.getD 1 0), .int .i64 (l.getD 3 0), .int .i64 0] else .tup [.int .i64 0, .int .i64 0, .int .i64 80]
@[go_sem] theorem aPr (l : List Int) : (kU l).noSl = true := by unfold kU; split <;> rfl
def eE.C : aE
  | [.sl _ (.ints .i64 l)] => some (false, pD (roomy l.length) (kU l))
  | _ => none
theorem aCi (l : List Int) (hb : eV l = false) (h : List AObj) : Post false (kU l) [] (.ret (.tup [.int .i64 0, .int .i64 0, .int .i64 80])) h := by
  unfold kU; rw [hb]; exact aH rfl rfl
theorem eE.spec : bO Tryz.prog 38 eE.C := by
  refine bO.of (bQ (F := [(65, iA.C), (66, dQ.C)]) (S := []) (by simpa using ⟨iA.spec, dQ.spec⟩) (by simp) eE.loops) eE.at eE.nm eE.bd ?_
  intro vs b S v news e hS
  unfold eE.C at e
  split at e
  rotate_left
  · cases e
  cases e
  rw [eE.eq]
  unfold eE.H
  simp (maxSteps := 4000000) only [go_sem, reduceEqDiff, Nat.reduceLT, reduceAdd, reduceSub, reduceLeDiff, reduceReplicate, reduceToNat, iA.C, dQ.C, aJn]
  rename_i l
  unfold roomy at hS
  have hw : IntKind.i64.wrap ((l.length : Int).tdiv 16) = ((l.length / 16 : Nat) : Int) := by rw [aKo]; apply w64 <;> omega
  rw [aA]
  refine ⟨fun h => ?_, fun h => ?_⟩
  · apply aCi
    have : ¬ 32 ≤ l.length := by omega
    simp [eV, this]
  refine ⟨by omega, by omega, by omega, by omega, by simp, ?_⟩
  rw [hw, aSi]
  refine ⟨fun hc => aCi l ?_ _, fun hc => ⟨by omega, ?_⟩⟩
  · have hc : aJo l = false := by rw [Bool.not_eq_true'] at hc; exact hc
    simp [eV, hc]
  · have hc : aJo l = true := by rw [Bool.not_eq_false'] at hc; exact hc
    have h32 : 32 ≤ l.length := by omega
    have hlen : ((l.drop 4).take 12).length = 12 := by simp; omega
    rw [aA]
    unfold eE.L1
    generalize hz : (l.drop 4).take 12 = z at *
    refine ⟨fun m lv h' => ∃ k : Nat, k + m = z.length ∧ lv = [.int .i64 k] ∧ h' = [.box (.agg [.int .i64 (l.getD 0 0), .int .i64 (l.getD 1 0), .int .i64 (l.getD 2 0), .int .i64 (l.getD 3 0)])] ∧ ∀ y ∈ z.take k, y = 0, ⟨z.length, 0, by omega, rfl, rfl, by simp⟩, ?_⟩
    rintro m h' t8 ⟨k, hk, hlv, rfl, hall⟩
    simp only [List.cons.injEq, and_true] at hlv
    subst hlv
    simp only [go_sem, reduceEqDiff, Nat.reduceLT, reduceAdd, reduceSub, reduceLeDiff, reduceReplicate, reduceToNat]
    refine ⟨fun hlt => ⟨by omega, fun h0 => ?_, fun h0 => ?_⟩, fun hge => ?_⟩
    · apply aCi
      have hkz : k < z.length := by omega
      have : z.all (fun w => decide (w = 0)) = false := by
        rw [List.all_eq_false]; exact ⟨_, lN z k 0 hkz, by simpa using h0⟩
      simp [eV, hz, this]
    · have hkz : k < z.length := by omega
      refine ⟨m - 1, by omega, k + 1, by omega, by rw [w64 (by omega) (by omega)]; rfl, ?_⟩
      intro y hy
      rw [iK z k 0 hkz] at hy
      rcases List.mem_append.1 hy with hy | hy
      · exact hall y hy
      · rw [List.mem_singleton.1 hy]; exact h0
    · have : k = z.length := by omega
      subst this
      rw [List.take_length] at hall
      have ha : z.all (fun w => decide (w = 0)) = true := by
        rw [List.all_eq_true]; intro y hy; simpa using hall y hy
      have hb : eV l = true := by simp [eV, hz, ha, hc, h32]
      unfold kU
      rw [if_pos hb]
      exact aH rfl rfl

end Lam
namespace Lam
open Go Go.Proofs
def gI.C : aE
  | [.int .i64 b] => some (false, pD True (.bool (rQ b)))
  | _ => none
theorem gI.spec : bO Tryz.prog 94 gI.C := by
  refine bO.of (bQ (F := []) (S := []) (by simp) (by simp) gI.loops) gI.at gI.nm gI.bd ?_
  intro vs b S v news e hS
  unfold gI.C at e
  split at e
  rotate_left
  · cases e
  cases e
  rw [gI.eq]
  unfold gI.H
  simp (maxSteps := 4000000) only [go_sem, reduceEqDiff, Nat.reduceLT, reduceAdd, reduceSub, reduceLeDiff, reduceReplicate, reduceToNat]
  exact ⟨fun _ => by decide, aH rfl rfl⟩
def gM.C : aE
  | [.int .i64 b, .int .i64 s] => some (false, pD True (.int .i64 (pF b s)))
  | _ => none
theorem gM.spec : bO Tryz.prog 68 gM.C := by
  refine bO.of (bQ (F := [(94, gI.C)]) (S := []) (by simpa using gI.spec) (by simp) gM.loops) gM.at gM.nm gM.bd ?_
  intro vs b S v news e hS
  unfold gM.C at e
  split at e
  rotate_left
  · cases e
  cases e
  rw [gM.eq]
  unfold gM.H
  simp (maxSteps := 4000000) only [go_sem, reduceEqDiff, Nat.reduceLT, reduceAdd, reduceSub, reduceLeDiff, reduceReplicate, reduceToNat, gI.C]
  rename_i b s
  have e : (!rQ b || decide (s < 0) || decide (13 ≤ s)) = !(rQ b && decide (0 ≤ s) && decide (s < 13)) := by
    cases rQ b
    · rfl
    · rw [Bool.eq_iff_iff]; simp only [Bool.and_eq_true, Bool.or_eq_true, Bool.not_eq_true', Bool.not_eq_false', Bool.not_eq_true, decide_eq_true_eq, decide_eq_false_iff_not, Bool.or_eq_false_iff, Bool.and_eq_false_iff, beq_iff_eq]; simp <;> omega
  rw [e]
  unfold pF
  refine ⟨fun h => ?_, fun h => ?_⟩
  · rw [Bool.not_eq_true'] at h
    rw [h]; exact aH rfl rfl
  · rw [Bool.not_eq_false'] at h
    rw [h]; exact aH rfl rfl
def gN.C : aE
  | [.sl _ (.ints .i64 l), .int .i64 b] => some (false, pD (roomy l.length ∧ b ≤ 1099511627776) (.sl false (.ints .i64 (mM l b))))
  | _ => none
theorem gN.spec : bO Tryz.prog 80 gN.C := by
  refine bO.of (bQ (F := [(94, gI.C), (102, bP.C), (34, aY.C)]) (S := []) (by simpa using ⟨gI.spec, bP.spec, aY.spec⟩) (by simp) gN.loops) gN.at gN.nm gN.bd ?_
  intro vs b S v news e hS
  unfold gN.C at e
  split at e
  rotate_left
  · cases e
  cases e
  rw [gN.eq]
  unfold gN.H
  simp (maxSteps := 4000000) only [go_sem, reduceEqDiff, Nat.reduceLT, reduceAdd, reduceSub, reduceLeDiff, reduceReplicate, reduceToNat, gI.C, bP.C, aY.C]
  rename_i _ l b
  obtain ⟨hr, hb⟩ := hS
  unfold roomy at hr
  cases hn : rQ b with
  | false =>
    refine ⟨fun h => ?_, fun h => by simp at h⟩
    unfold mM; rw [hn]; exact aH rfl rfl
  | true =>
    have hbb := (yZ hb).1 hn
    have e1 : IntKind.i64.wrap (b + 16) = b + 16 := w64 (by omega) (by omega)
    have e2 : IntKind.i64.wrap (b + 3) = b + 3 := w64 (by omega) (by omega)
    rw [e1, e2]
    by_cases hlt : (l.length : Int) < b + 16
    · refine ⟨fun h => ?_, fun h => by simp at h; omega⟩
      unfold mM; rw [hn, decide_eq_false (by omega)]; exact aH rfl rfl
    · refine ⟨fun h => by simp at h; omega, fun h => ⟨by omega, ?_⟩⟩
      have e3 : (b + 16).toNat - (b + 3).toNat = 13 := by omega
      have e4 : (b + 3).toNat = b.toNat + 3 := by omega
      have hsl : mM l b = upTo ((l.drop (b.toNat + 3)).take 13) := by
        unfold mM; rw [hn, decide_eq_true (by omega)]; rfl
      rw [e3, e4, hsl]
      have hlen : ((l.drop (b.toNat + 3)).take 13).length = 13 := by simp; omega
      generalize (l.drop (b.toNat + 3)).take 13 = z at *
      have hu := aLB z
      have hir := aIZ lt1 z
      have hul : (upTo z).length ≤ z.length := by rw [← hu]; exact List.length_take_le' _ _
      refine ⟨by unfold roomy; omega, ?_⟩
      rw [aA]
      refine ⟨fun h => ?_, fun h => ?_⟩
      · rw [if_pos h] at hu
        rw [Int.toNat_natCast, List.take_length] at hu
        simp only [aY.C, Int.toNat_natCast, List.take_length, go_sem, reduceEqDiff, Nat.reduceLT, reduceAdd, reduceSub, reduceLeDiff, reduceReplicate, reduceToNat]
        refine ⟨by omega, by unfold roomy; omega, aH ?_ rfl⟩
        simp only [go_sem, reduceEqDiff, Nat.reduceLT, reduceAdd, reduceSub, reduceLeDiff, reduceReplicate, reduceToNat, List.take_length]
        rw [← hu]
      · rw [if_neg h] at hu
        simp only [aY.C, hu, go_sem, reduceEqDiff, Nat.reduceLT, reduceAdd, reduceSub, reduceLeDiff, reduceReplicate, reduceToNat]
        refine ⟨by omega, by unfold roomy; omega, aH ?_ rfl⟩
        simp only [go_sem, reduceEqDiff, Nat.reduceLT, reduceAdd, reduceSub, reduceLeDiff, reduceReplicate, reduceToNat, List.take_length]
def bR.K : Con := fun args h K => match args with
  | [a0] => bR.H (ctx [] [] bR.loops) a0 h K
  | _ => False
theorem bR.spec : cN Tryz.prog 98 bR.K := by
  refine cN.of (bQ (F := []) (S := []) (by simp) (by simp) bR.loops) bR.at bR.nm bR.bd ?_
  intro args h K hC
  unfold bR.K at hC
  split at hC
  · rw [bR.eq]; exact hC
  · exact hC.elim
theorem aJp (l : List Int) (hr : roomy l.length) (K : AOut → List AObj → Prop)
    (hK : ∀ x v l' k, k ≤ l'.length → l'.take k = plain l → K (.ret (.sref x 0 v 0 k)) [.row .own v (.ints .i64 l')]) :
    bR.K [.sref false 0 0 0 l.length] [.row .own 0 (.ints .i64 l)] K := by
  unfold roomy at hr
  unfold bR.K
  simp only
  unfold bR.H
  simp only [go_sem, reduceEqDiff, Nat.reduceLT, reduceAdd, reduceSub, reduceLeDiff, reduceReplicate, reduceToNat]
  refine ⟨fun h => ?_, fun h => ?_⟩
  · refine hK _ _ _ _ (Nat.le_refl _) ?_
    rw [List.take_length]
    rcases l with _ | ⟨a, _ | ⟨b, r⟩⟩
    · rfl
    · rfl
    · simp at h; omega
  rw [aA]
  unfold bR.L1
  refine lA (σ := Nat) (fun k => .int .i64 k) (fun k => [.row .own 0 (.ints .i64 l)]) (fun k => l.length - k) (fun k => 0 < k ∧ k ≤ l.length ∧ ∀ i, 0 < i → i < k → l.getD i 0 ≠ l.getD (i - 1) 0) 1 rfl rfl ⟨by omega, by omega, fun i h1 h2 => by omega⟩ ?_
  rintro I back k ⟨h0, hk, hall⟩
  simp only [go_sem, reduceEqDiff, Nat.reduceLT, reduceAdd, reduceSub, reduceLeDiff, reduceReplicate, reduceToNat]
  refine ⟨fun hlt => ?_, fun hge => ?_⟩
  · have e1 : IntKind.i64.wrap ((k : Int) - 1) = ((k - 1 : Nat) : Int) := by rw [w64 (by omega) (by omega)]; omega
    rw [aA, e1, Int.toNat_natCast]
    refine ⟨by omega, by omega, by omega, by omega, fun heq => ⟨by omega, ?_⟩, fun hne => ?_⟩
    · rw [aA]
      unfold bR.L2
      have hp0 : plain (l.take (k + 1)) = l.take k := by
        rw [aDl h0 (by omega), if_pos heq, zA]
        intro i hi0 hi
        rw [List.length_take] at hi
        have := hall i hi0 (by omega)
        rw [List.getD_eq_getElem?_getD, List.getD_eq_getElem?_getD, List.getElem?_take, List.getElem?_take, if_pos (by omega), if_pos (by omega), ← List.getD_eq_getElem?_getD, ← List.getD_eq_getElem?_getD]
        exact this
      refine pU (σ := Nat × Nat × List Int) (fun s => .int .i64 s.1) (fun s => .int .i64 s.2.1) (fun s => [.row .own 0 (.ints .i64 s.2.2)]) (fun s => l.length - k - s.2.1)
        (fun s => k ≤ s.1 ∧ s.1 ≤ k + s.2.1 - 1 ∧ 1 ≤ s.2.1 ∧ s.2.1 ≤ l.length - k ∧ s.2.2.length = l.length ∧ s.2.2.take s.1 = plain (l.take (k + s.2.1)) ∧ ∀ j, k + s.2.1 - 1 ≤ j → s.2.2.getD j 0 = l.getD j 0) (k, 1, l) rfl rfl
        ⟨Nat.le_refl _, by simp, Nat.le_refl _, by simp only; omega, rfl, hp0.symm, fun j _ => rfl⟩ ?_
      rintro I2 back2 ⟨w, q, R⟩ ⟨hw0, hw1, hq0, hq1, hRl, hRt, hRd⟩
      simp only [] at hw0 hw1 hq0 hq1 hRl hRt hRd ⊢
      simp only [go_sem, reduceEqDiff, Nat.reduceLT, reduceAdd, reduceSub, reduceLeDiff, reduceReplicate, reduceToNat, hRl]
      have e2 : IntKind.i64.wrap ((q : Int) - 1) = ((q - 1 : Nat) : Int) := by rw [w64 (by omega) (by omega)]; omega
      refine ⟨fun hql => ?_, fun hql => ?_⟩
      · have hnext := aDl (l := l) (k := k + q) (by omega) (by omega)
        rw [e2, Int.toNat_natCast, hRd (k + q) (by omega), hRd (k + (q - 1)) (by omega)]
        have e3 : k + q - 1 = k + (q - 1) := by omega
        rw [e3] at hnext
        refine ⟨by omega, by omega, by omega, by omega, ?_⟩
        rw [aA]
        refine ⟨fun hc => ⟨by omega, by omega, by omega, by omega, ?_⟩, fun hc => ?_⟩
        · simp only [go_sem, reduceEqDiff, Nat.reduceLT, reduceAdd, reduceSub, reduceLeDiff, reduceReplicate, reduceToNat]
          rw [if_neg hc] at hnext
          refine back2 (w + 1, q + 1, R.set w (l.getD (k + q) 0)) (by show _ - (q + 1) < _ - q; omega) (by rw [eQ (by omega), eQ (by omega)]) rfl ⟨by show k ≤ w + 1; omega, by show w + 1 ≤ k + (q + 1) - 1; omega, by show 1 ≤ q + 1; omega, by show q + 1 ≤ _; omega, by show (R.set _ _).length = _; rw [List.length_set]; exact hRl, ?_, fun j hj => ?_⟩
          · show (R.set w _).take (w + 1) = plain (l.take (k + (q + 1)))
            rw [show k + (q + 1) = k + q + 1 from by omega, hnext, ← hRt, iK _ w 0 (by rw [List.length_set]; omega), aCf, if_pos ⟨rfl, by omega⟩, List.take_set_of_le (Nat.le_refl _)]
          · show (R.set w _).getD j 0 = _
            have hj : k + (q + 1) - 1 ≤ j := hj
            rw [aCf, if_neg (by omega), hRd j (by omega)]
        · simp only [go_sem, reduceEqDiff, Nat.reduceLT, reduceAdd, reduceSub, reduceLeDiff, reduceReplicate, reduceToNat]
          rw [if_pos hc] at hnext
          refine back2 (w, q + 1, R) (by show _ - (q + 1) < _ - q; omega) (by rw [eQ (by omega)]) rfl ⟨hw0, by show w ≤ k + (q + 1) - 1; omega, by show 1 ≤ q + 1; omega, by show q + 1 ≤ _; omega, hRl, ?_, fun j hj => hRd j (by have hj : k + (q + 1) - 1 ≤ j := hj; omega)⟩
          show R.take w = plain (l.take (k + (q + 1)))
          rw [show k + (q + 1) = k + q + 1 from by omega, hnext, hRt]
      · obtain rfl : q = l.length - k := by omega
        rw [show k + (l.length - k) = l.length from by omega, List.take_length] at hRt
        have hov : oD (.slice (.int .i64)) [.row .own 0 (.ints .i64 R)] (.sref false 0 0 w (l.length - w)) = some (True, .tup [], 0, .row .own 0 (.ints .i64 (R.take w ++ List.replicate (l.length - w) 0))) := by
          have e4 : l.length - (w + (l.length - w)) = 0 := by omega
          simp [oD, aCq, Lst.over, Lst.cut, Lst.app, LK.zeros, Lst.kind, jG, TyD.fitsRow, Lst.len, hRl, e4]
        rw [hov]
        simp only [go_sem, reduceEqDiff, Nat.reduceLT, reduceAdd, reduceSub, reduceLeDiff, reduceReplicate, reduceToNat]
        have hl2 : (R.take w ++ List.replicate (l.length - w) 0).length = l.length := by simp [hRl]; omega
        refine ⟨⟨by omega, by omega⟩, ⟨by omega, by omega⟩, ?_⟩
        refine hK _ _ _ _ (by omega) ?_
        rw [List.take_append_of_le_length (by rw [List.length_take]; omega), List.take_take, Nat.min_self, hRt]
    · simp only [go_sem, reduceEqDiff, Nat.reduceLT, reduceAdd, reduceSub, reduceLeDiff, reduceReplicate, reduceToNat]
      refine back (k + 1) (by omega) (by rw [eQ (by omega)]) rfl ⟨by omega, by omega, fun i hi0 hi => ?_⟩
      by_cases e : i = k
      · subst e; exact hne
      · exact hall i hi0 (by omega)
  · obtain rfl : k = l.length := by omega
    refine hK _ _ _ _ (Nat.le_refl _) ?_
    rw [List.take_length, zA l hall]
def eK.C : aE
  | [.sl _ (.ints .i64 l)] => some (false, pD (roomy l.length) (.sl false (.ints .i64 (plain l))))
  | _ => none
theorem eK.spec : bO Tryz.prog 78 eK.C := by
  refine bO.of (bQ (F := [(34, aY.C)]) (S := [(98, bR.K)]) (by simpa using aY.spec) (by simpa using bR.spec) eK.loops) eK.at eK.nm eK.bd ?_
  intro vs b S v news e hS
  unfold eK.C at e
  split at e
  rotate_left
  · cases e
  cases e
  rw [eK.eq]
  unfold eK.H
  simp (maxSteps := 4000000) only [go_sem, reduceEqDiff, Nat.reduceLT, reduceAdd, reduceSub, reduceLeDiff, reduceReplicate, reduceToNat, aY.C]
  rename_i _ l
  refine ⟨hS, aJp l hS _ fun x v l' k hk he => ?_⟩
  simp only [go_sem, reduceEqDiff, Nat.reduceLT, reduceAdd, reduceSub, reduceLeDiff, reduceReplicate, reduceToNat]
  refine aH ?_ rfl
  simp only [go_sem, reduceEqDiff, Nat.reduceLT, reduceAdd, reduceSub, reduceLeDiff, reduceReplicate, reduceToNat, he]
end Lam
namespace Lam
open Go Go.Proofs
def gO.C : aE
  | [.agg [.int .i64 a, .int .i64 b, .int .i64 c, .int .i64 d, .sl false (.ints .i64 l)]] => some (false, pD True (.bool (ndB ⟨a, b, c, d, l⟩)))
  | _ => none
theorem gO.spec : bO Tryz.prog 86 gO.C := by
  refine bO.of (bQ (F := [(105, fC.C), (106, bX.C)]) (S := []) (by simpa using ⟨fC.spec, bX.spec⟩) (by simp) gO.loops) gO.at gO.nm gO.bd ?_
  intro vs b S v news e hS
  unfold gO.C at e
  split at e
  rotate_left
  · cases e
  cases e
  rw [gO.eq]
  unfold gO.H
  simp (maxSteps := 4000000) only [go_sem, reduceEqDiff, Nat.reduceLT, reduceAdd, reduceSub, reduceLeDiff, reduceReplicate, reduceToNat, fC.C, bX.C]
  rename_i a b c d l
  have h1 : (a < 0 ∨ 9 < a ∨ b < 0 ∨ 1099511627776 < b ∨ rR c = false ∨ rR d = false ∨ 13 < (l.length : Int)) → ndB ⟨a, b, c, d, l⟩ = false := by
    intro h
    rw [Bool.eq_false_iff]
    intro hh
    obtain ⟨q1, q2, q3, q4, q5, q6, q7, q8⟩ := xV.1 hh
    simp only at q1 q2 q3 q4 q5 q6 q7 q8
    unfold rR at h
    simp only [Bool.and_eq_false_iff, decide_eq_false_iff_not] at h
    omega
  have h2 : ¬ (a < 0 ∨ 9 < a ∨ b < 0 ∨ 1099511627776 < b ∨ rR c = false ∨ rR d = false ∨ 13 < (l.length : Int)) → ndB ⟨a, b, c, d, l⟩ = !l.any vH := by
    intro h
    simp only [not_or, Bool.not_eq_false] at h
    obtain ⟨q1, q2, q3, q4, q5, q6, q7⟩ := h
    unfold ndB
    rw [decide_eq_true (show 0 ≤ a by omega), decide_eq_true (show a ≤ 9 by omega), decide_eq_true (show 0 ≤ b by omega), decide_eq_true (show b ≤ 1099511627776 by omega), q5, q6, decide_eq_true (show l.length ≤ 13 by omega)]
    rfl
  generalize ndB ⟨a, b, c, d, l⟩ = R at *
  simp only [fC.C, bX.C, aA, gq, reduceEq, reduceLT, reduceLE, implies_true, reduceCtorEq, if_true, if_false, go_sem, reduceEqDiff, Nat.reduceLT, reduceAdd, reduceSub, reduceLeDiff, reduceReplicate, reduceToNat]
  repeat' (first | (with_reducible apply And.intro) | (with_reducible intro _))
  all_goals first
    | omega
    | (unfold roomy; omega)
    | (exfalso; simp_all; done)
    | (rw [h1 (by grind)]; exact aH rfl rfl)
    | (rw [h2 (by grind)]; exact aH rfl rfl)
    | skip
  all_goals trace_state
def gP.C : aE
  | [.agg [.int .i64 a, .int .i64 b, .int .i64 c, .int .i64 d, .sl false (.ints .i64 l)]] => some (false, pD (0 ≤ a ∧ a ≤ 9 ∧ 0 ≤ b ∧ b ≤ 1099511627776) (.int .i64 (aAF ⟨a, b, c, d, l⟩)))
  | _ => none
theorem gP.spec : bO Tryz.prog 87 gP.C := by
  refine bO.of (bQ (F := []) (S := []) (by simp) (by simp) gP.loops) gP.at gP.nm gP.bd ?_
  intro vs b S v news e hS
  unfold gP.C at e
  split at e
  rotate_left
  · cases e
  cases e
  rw [gP.eq]
  unfold gP.H
  simp (maxSteps := 4000000) only [go_sem, reduceEqDiff, Nat.reduceLT, reduceAdd, reduceSub, reduceLeDiff, reduceReplicate, reduceToNat]
  rename_i a b c d l
  rw [aJd hS.1 (by omega) hS.2.2.1 hS.2.2.2]
  exact ⟨by decide, aH rfl rfl⟩
def yD (n : Nd) : AV := if ndB n = true then .tup [.sl false (.ints .i64 (gR n)), .int .i64 0] else .tup [.sl false (.ints .i64 []), .int .i64 90]
def fK.C : aE
  | [.agg [.int .i64 a, .int .i64 b, .int .i64 c, .int .i64 d, .sl false (.ints .i64 l)]] => some (false, pD True (yD ⟨a, b, c, d, l⟩))
  | _ => none
theorem fK.spec : bO Tryz.prog 57 fK.C := by
  refine bO.of (bQ (F := [(86, gO.C), (87, gP.C)]) (S := []) (by simpa using ⟨gO.spec, gP.spec⟩) (by simp) fK.loops) fK.at fK.nm fK.bd ?_
  intro vs b S v news e hS
  unfold fK.C at e
  split at e
  rotate_left
  · cases e
  cases e
  rw [fK.eq]
  unfold fK.H
  simp (maxSteps := 4000000) only [go_sem, reduceEqDiff, Nat.reduceLT, reduceAdd, reduceSub, reduceLeDiff, reduceReplicate, reduceToNat, gO.C, gP.C]
  rename_i a b c d l
  refine ⟨fun h => ?_, fun h => ?_⟩
  · unfold yD; rw [h]; exact aH rfl rfl
  · have hok := xV.1 h
    obtain ⟨q1, q2, q3, q4, _, _, q7, _⟩ := hok
    simp only at q1 q2 q3 q4 q7
    have hw : aAF ⟨a, b, c, d, l⟩ :: c :: d :: (l.take 13 ++ List.take (16 - (3 + min 13 l.length)) (List.drop (3 + min 13 l.length) [aAF ⟨a, b, c, d, l⟩, c, d, 0, 0, 0, 0, 0, 0, 0, 0, 0, 0, 0, 0, 0])) = gR ⟨a, b, c, d, l⟩ := by
      unfold gR
      simp only
      rw [qX l q7, Nat.min_eq_right q7]
      congr 4
      have : ∀ k, k ≤ 13 → List.take (16 - (3 + k)) (List.drop (3 + k) [aAF ⟨a, b, c, d, l⟩, c, d, 0, 0, 0, 0, 0, 0, 0, 0, 0, 0, 0, 0, 0]) = List.replicate (13 - k) 0 := by
        intro k hk
        rcases k with _|_|_|_|_|_|_|_|_|_|_|_|_|_|k <;> first | rfl | omega
      exact this _ q7
    rw [hw]
    unfold yD; simp only [h, if_true]
    refine ⟨⟨by decide, by decide, by unfold roomy; omega⟩, ⟨q1, q2, q3, q4⟩, ⟨by decide, by decide⟩, ⟨by decide, by decide⟩, ⟨by decide, by decide⟩, rfl, rfl, rfl, ⟨by decide, by decide⟩, aH ?_ rfl⟩
    simp only [go_sem, reduceEqDiff, Nat.reduceLT, reduceAdd, reduceSub, reduceLeDiff, reduceReplicate, reduceToNat]
    rw [qX _ (Nat.le_of_eq (aAG (xV.1 h)))]
def qP (words : List Int) (at_ : Int) : AV := if (decide (at_ < 0) || decide (((words.length / 16 : Nat) : Int) ≤ at_)) = true then .tup [jO.V, .int .i64 1] else match aDn (kX words at_.toNat) with
  | some n => .tup [n.V, .int .i64 0]
  | none => .tup [jO.V, .int .i64 90]
def cL.C : aE
  | [.sl _ (.ints .i64 l), .int .i64 k] => some (false, pD (roomy l.length) (qP l k))
  | _ => none
theorem cL.spec : bO Tryz.prog 46 cL.C := by
  refine bO.of (bQ (F := [(80, gN.C), (57, fK.C), (35, bW.C)]) (S := []) (by simpa using ⟨gN.spec, fK.spec, bW.spec⟩) (by simp) cL.loops) cL.at cL.nm cL.bd ?_
  intro vs b S v news e hS
  unfold cL.C at e
  split at e
  rotate_left
  · cases e
  cases e
  rw [cL.eq]
  unfold cL.H
  simp (maxSteps := 4000000) only [go_sem, reduceEqDiff, Nat.reduceLT, reduceAdd, reduceSub, reduceLeDiff, reduceReplicate, reduceToNat, gN.C, fK.C, bW.C]
  rename_i l k
  have hrl := hS
  unfold roomy at hS
  have e0 : IntKind.i64.wrap ((l.length : Int).tdiv 16) = ((l.length / 16 : Nat) : Int) := by
    rw [Int.tdiv_eq_ediv_of_nonneg (by omega)]; exact w64 (by omega) (by omega)
  rw [e0]
  unfold qP
  refine ⟨fun _ => by decide, fun h => ?_, fun h => ?_⟩
  · rw [if_pos h]
    refine aH ?_ rfl
    simp only [jO, go_sem, reduceEqDiff, Nat.reduceLT, reduceAdd, reduceSub, reduceLeDiff, reduceReplicate, reduceToNat]
  · rw [h]
    simp only [Bool.or_eq_false_iff, decide_eq_false_iff_not] at h
    obtain ⟨k, rfl⟩ := Int.eq_ofNat_of_zero_le (show 0 ≤ k by omega)
    have hk : 16 * k + 16 ≤ l.length := by omega
    have e1 : IntKind.i64.wrap (16 * (k : Int)) = 16 * (k : Int) := w64 (by omega) (by omega)
    have e2 : IntKind.i64.wrap ((k : Int) + 1) = (k : Int) + 1 := w64 (by omega) (by omega)
    have e3 : IntKind.i64.wrap (16 * ((k : Int) + 1)) = 16 * ((k : Int) + 1) := w64 (by omega) (by omega)
    have e4 : (16 * ((k : Int) + 1)).toNat - (16 * (k : Int)).toNat = 16 := by omega
    have e5 : (16 * (k : Int)).toNat = 16 * k := by omega
    have eb : (l.drop (16 * k)).take 16 = kX l k := rfl
    have hbl : (kX l k).length = 16 := by unfold kX; simp; omega
    rw [e2, e1, e3, e4, e5, eb, Int.toNat_natCast]
    generalize kX l k = w at *
    have hdp : (⟨andI .i64 (w.getD 0 0) 15, (xU .i64 (w.getD 0 0) 1152921504606846976).fdiv (2 ^ min 4 64), w.getD 1 0, w.getD 2 0, mM w 0⟩ : Nd) = decP w := rfl
    have hV : (decP w).V = .agg [.int .i64 (andI .i64 (w.getD 0 0) 15), .int .i64 ((xU .i64 (w.getD 0 0) 1152921504606846976).fdiv (2 ^ min 4 64)), .int .i64 (w.getD 1 0), .int .i64 (w.getD 2 0), .sl false (.ints .i64 (mM w 0))] := rfl
    rw [hdp, hbl, ← aLE]
    have hsr := aFj w 0
    refine ⟨by omega, by omega, by omega, by decide, by omega, by omega, ⟨by unfold roomy; omega, by decide⟩, ?_⟩
    unfold pG yD
    cases hd : ndB (decP w) with
    | false =>
      simp only [Bool.false_eq_true, if_false, Bool.false_and, aA, aA, gq, reduceEq, reduceLT, reduceLE, implies_true, reduceCtorEq, if_true, if_false, go_sem, reduceEqDiff, Nat.reduceLT, reduceAdd, reduceSub, reduceLeDiff, reduceReplicate, reduceToNat]
      refine aH ?_ rfl
      simp only [jO, go_sem, reduceEqDiff, Nat.reduceLT, reduceAdd, reduceSub, reduceLeDiff, reduceReplicate, reduceToNat]
    | true =>
      have hok := xV.1 hd
      have hwl := aAG hok
      simp only [if_true, Bool.true_and, bW.C, hwl, hbl, aA, gq, reduceEq, reduceLT, reduceLE, implies_true, reduceCtorEq, if_true, if_false, go_sem, reduceEqDiff, Nat.reduceLT, reduceAdd, reduceSub, reduceLeDiff, reduceReplicate, reduceToNat]
      refine ⟨by unfold roomy; omega, fun h => ?_, fun h => ?_⟩
      · rw [if_neg h]
        refine aH ?_ rfl
        simp only [jO, go_sem, reduceEqDiff, Nat.reduceLT, reduceAdd, reduceSub, reduceLeDiff, reduceReplicate, reduceToNat]
      · rw [if_pos h]
        exact aH rfl rfl
end Lam
namespace Lam
open Go Go.Proofs
def gJ.loops : Nat → bU
 | 1 => ⟨[], [], [], [(3, none), (3, some [5, 8])], [], []⟩
 | _ => ⟨[], [], [], [], [], []⟩
def gJ.H (c : Ctx) (t0 : AV) (h : List AObj) (K : AOut → List AObj → Prop) : Prop :=
 runD (binD cB .neq t0 (.str [])) h fun t4 h =>
 aL (fun (J1 : AV → AV → List AObj → Prop) =>
 bF t4 true
 (runD (lenD cB h t0) h fun t7 h =>
 runD (binD aB .leq t7 (.int .i64 21)) h fun t8 h =>
 J1 (.bool true) t8 h)
 (J1 (.bool false) .und h))
 (fun t5 t8 h => runD (bV t5 t8 (.bool false)) h fun t9 h =>
 K (.ret t9) h)
def eS.loops : Nat → bU
 | 1 => ⟨[], [], [], [(3, none), (9, some [14, 23])], [], []⟩
 | 5 => ⟨[6, 31], [true, false], [1, 29, 30], [], [], []⟩
 | 7 => ⟨[], [], [], [(3, none), (2, some [37, 39])], [], []⟩
 | 10 => ⟨[6, 41], [true, false], [1, 8, 29, 30, 31], [], [], []⟩
 | 16 => ⟨[59], [false], [1, 6, 57, 58], [], [], []⟩
 | _ => ⟨[], [], [], [], [], []⟩
def eS.L2 (c : Ctx) (J5 : AV → AV → AV → AV → AV → List AObj → Prop) (K : AOut → List AObj → Prop) (lv : List AV) (h0 : List AObj) (n0 : Nat) (c1 : AV) (c8 : AV) (c29 : AV) (c30 : AV) (c31 : AV) : Prop :=
 ∃ I : Nat → List AV → List AObj → Prop, (∃ n, I n lv h0) ∧ ∀ n h, ∀ t6, ∀ t41, I n [t6, t41] h →
 runD (binD aB .lss t41 (.int .i64 7)) h fun t42 h =>
 bC t42
 (runD (binD aB .sub (.int .i64 6) t41) h fun t47 h =>
 runD (binD aB .mul (.int .i64 8) t47) h fun t48 h =>
 runD (binD aB .shr c8 t48) h fun t49 h =>
 runD (jR h aB nK t49) h fun t50 h =>
 runD (gE kJ 1 [(0, t50)] h.length) h fun t51 h =>
 kG (gU kJ h t6 t51 h.length) (iE kJ h t6 t51) h fun t52 h =>
 runD (binD aB .add t41 (.int .i64 1)) h fun t53 h =>
 (∃ m, m < n ∧ I m (AV.norms n0 h [t52, t53]) (cI n0 h)) ∧ AV.norms n0 h [c1, c8, c29, c30, c31] = [c1, c8, c29, c30, c31])
 (J5 c1 t6 c29 c30 c31 h)
def eS.L1 (c : Ctx) (J2 : AV → AV → List AObj → Prop) (K : AOut → List AObj → Prop) (lv : List AV) (h0 : List AObj) (n0 : Nat) (c1 : AV) (c29 : AV) (c30 : AV) : Prop :=
 ∃ I : Nat → List AV → List AObj → Prop, (∃ n, I n lv h0) ∧ ∀ n h, ∀ t6, ∀ t31, I n [t6, t31] h →
 runD (binD aB .lss t31 c30) h fun t32 h =>
 bC t32
 (aL (fun (J3 : AV → AV → AV → AV → AV → List AObj → Prop) =>
 runD (aG aI h c29 t31) h fun t33 h =>
 runD (fitD aB (aD h t33)) h fun t34 h =>
 runD (binD aB .lss t34 (.int .i64 0)) h fun t36 h =>
 aL (fun (J4 : AV → AV → List AObj → Prop) =>
 bF t36 false
 (runD (binD aB .geq t34 (.int .i64 72057594037927936)) h fun t39 h =>
 J4 (.bool false) t39 h)
 (J4 (.bool true) .und h))
 (fun t37 t39 h => runD (bV t37 (.bool true) t39) h fun t40 h =>
 bC t40
 (K (.ret (.tup [(.str []), (.int .i64 20)])) h)
 (aL (fun (J5 : AV → AV → AV → AV → AV → List AObj → Prop) =>
 dK [true, false] [t6, (.int .i64 0)] h fun lv h => eS.L2 c J5 K (AV.norms h.length h lv) (cI h.length h) h.length (AV.norm h.length h c1) (AV.norm h.length h t34) (AV.norm h.length h c29) (AV.norm h.length h c30) (AV.norm h.length h t31))
 (fun t1 t6 t29 t30 t31 h => J3 t1 t6 t29 t30 t31 h))))
 (fun t1 t6 t29 t30 t31 h => runD (binD aB .add t31 (.int .i64 1)) h fun t54 h =>
 (∃ m, m < n ∧ I m (AV.norms n0 h [t6, t54]) (cI n0 h)) ∧ AV.norms n0 h [t1, t29, t30] = [c1, c29, c30]))
 (J2 c1 t6 h)
def eS.L3 (c : Ctx) (J6 : AV → AV → List AObj → Prop) (K : AOut → List AObj → Prop) (lv : List AV) (h0 : List AObj) (n0 : Nat) (c1 : AV) (c6 : AV) (c57 : AV) (c58 : AV) : Prop :=
 ∃ I : Nat → List AV → List AObj → Prop, (∃ n, I n lv h0) ∧ ∀ n h, ∀ t59, I n [t59] h →
 runD (binD aB .lss t59 c58) h fun t60 h =>
 bC t60
 (runD (aG kJ h c57 t59) h fun t61 h =>
 runD (fitD nK (aD h t61)) h fun t62 h =>
 runD (binD nK .neq t62 (.int .u8 0)) h fun t64 h =>
 bC t64
 (K (.ret (.tup [(.str []), (.int .i64 20)])) h)
 (runD (binD aB .add t59 (.int .i64 1)) h fun t65 h =>
 (∃ m, m < n ∧ I m (AV.norms n0 h [t65]) (cI n0 h)) ∧ AV.norms n0 h [c1, c6, c57, c58] = [c1, c6, c57, c58]))
 (J6 c1 c6 h)
def eS.H (c : Ctx) (t0 : AV) (t1 : AV) (h : List AObj) (K : AOut → List AObj → Prop) : Prop :=
 runD (binD aB .lss t1 (.int .i64 0)) h fun t13 h =>
 aL (fun (J1 : AV → AV → List AObj → Prop) =>
 bF t13 false
 (runD (lenD aI h t0) h fun t16 h =>
 runD (binD aB .quo t1 (.int .i64 7)) h fun t18 h =>
 runD (binD aB .rem t1 (.int .i64 7)) h fun t20 h =>
 runD (minD (.int .i64 1) t20) h fun t21 h =>
 runD (binD aB .add t18 t21) h fun t22 h =>
 runD (binD aB .neq t16 t22) h fun t23 h =>
 J1 (.bool false) t23 h)
 (J1 (.bool true) .und h))
 (fun t14 t23 h => runD (bV t14 (.bool true) t23) h fun t24 h =>
 bC t24
 (K (.ret (.tup [(.str []), (.int .i64 20)])) h)
 (runD (lenD aI h t0) h fun t26 h =>
 runD (binD aB .mul (.int .i64 7) t26) h fun t27 h =>
 runD (kF kJ (.int .i64 0) t27 h.length) h fun t28 h =>
 runD (lenD aI h t0) h fun t30 h =>
 aL (fun (J2 : AV → AV → List AObj → Prop) =>
 dK [true, false] [t28, (.int .i64 0)] h fun lv h => eS.L1 c J2 K (AV.norms h.length h lv) (cI h.length h) h.length (AV.norm h.length h t1) (AV.norm h.length h t0) (AV.norm h.length h t30))
 (fun t1 t6 h => runD (eJ kJ h t6 (some t1) none none) h fun t57 h =>
 runD (lenD kJ h t57) h fun t58 h =>
 aL (fun (J6 : AV → AV → List AObj → Prop) =>
 dK [false] [(.int .i64 0)] h fun lv h => eS.L3 c J6 K (AV.norms h.length h lv) (cI h.length h) h.length (AV.norm h.length h t1) (AV.norm h.length h t6) (AV.norm h.length h t57) (AV.norm h.length h t58))
 (fun t1 t6 h => runD (eJ kJ h t6 none (some t1) none) h fun t68 h =>
 runD (jR h kJ cB t68) h fun t69 h =>
 K (.ret (.tup [t69, (.int .i64 0)])) h))))
def eX.loops : Nat → bU
 | _ => ⟨[], [], [], [], [], []⟩
def eX.H (c : Ctx) (t0 : AV) (h : List AObj) (K : AOut → List AObj → Prop) : Prop :=
 runD (lenD cB h t0) h fun t4 h =>
 runD (binD aB .leq t4 (.int .i64 21)) h fun t5 h =>
 K (.ret t5) h
def fS.loops : Nat → bU
 | 2 => ⟨[], [], [], [], [2], []⟩
 | 5 => ⟨[4, 11], [false, false], [2, 3, 10], [], [], []⟩
 | _ => ⟨[], [], [], [], [], []⟩
def fS.L1 (c : Ctx) (id : Nat) (r : Loop) (J3 : AV → AV → List AObj → Prop) (K : AOut → List AObj → Prop) (lv : List AV) (h0 : List AObj) (n0 : Nat) (c2 : AV) (c3 : AV) (c10 : AV) : Prop :=
 ∃ I : Nat → List AV → List AObj → Prop, (∃ n, I n lv h0) ∧ ∀ n h, ∀ t4, ∀ t11, I n [t4, t11] h →
 runD (binD aB .lss t11 c10) h fun t12 h =>
 bC t12
 (runD (tE cB c3 t11) h fun t17 h =>
 runD (jR h nK aB t17) h fun t18 h =>
 runD (binD aB .sub (.int .i64 6) t11) h fun t20 h =>
 runD (binD aB .mul (.int .i64 8) t20) h fun t21 h =>
 runD (binD aB .shl t18 t21) h fun t22 h =>
 runD (binD aB .or t4 t22) h fun t23 h =>
 runD (binD aB .add t11 (.int .i64 1)) h fun t24 h =>
 (∃ m, m < n ∧ I m (AV.norms n0 h [t23, t24]) (cI n0 h)) ∧ AV.norms n0 h [c2, c3, c10] = [c2, c3, c10])
 (J3 c2 t4 h)
def fS.H (c : Ctx) (t0 : AV) (h : List AObj) (K : AOut → List AObj → Prop) : Prop :=
 cV aI h fun t2 h =>
 aO false c (.fn (.func 125) [] []) [t0] h (fun t7 h =>
 aL (fun (J1 : AV → List AObj → Prop) =>
 xI c.iterS t7 (boxH [t2] h)
 (fun id r args h K => lpIs h id .ready r ∧ aAX args fun t8 =>
 lpIs h id .ready r ∧
 aL (fun (J2 : List AObj → Prop) =>
 runD (lenD cB (List.set h id (.lp .busy none r)) t8) (List.set h id (.lp .busy none r)) fun t10 h =>
 aL (fun (J3 : AV → AV → List AObj → Prop) =>
 dK [false, false] [(.int .i64 0), (.int .i64 0)] h fun lv h => fS.L1 c id r J3 K (AV.norms h.length h lv) (cI h.length h) h.length (AV.norm h.length h t2) (AV.norm h.length h t8) (AV.norm h.length h t10))
 (fun t2 t4 h => runD (fitD aI (aD h t2)) h fun t25 h =>
 runD (gE aI 1 [(0, t4)] h.length) h fun t27 h =>
 kG (gU aI h t25 t27 h.length) (iE aI h t25 t27) h fun t28 h =>
 runH (aT aI h t2 t28) h fun _ h =>
 J2 h))
 (fun h => lpIs h id .busy r ∧ K (.ret (.bool true)) (List.set h id (.lp .ready none r))))
 (fun id r ao h => endX id r ao h
 (fun h => J1 t2 h)
 (fun h => dG (fitD aI (aD h t2)) fun r0 => K (.ret r0) h)
 (fun i h => aFl i 0 (J1 t2 h) (False))
 (fun l h => False)
 (fun v h => K (.pan v) h)))
 (fun t2 h => runD (fitD aI (aD h t2)) h fun t29 h =>
 runH (aT aI h t2 t29) h fun _ h =>
 dG (fitD aI (aD h t2)) fun r0 => K (.ret r0) h))
 (fun v h => K (.pan v) h)
def fZ.loops : Nat → bU
 | _ => ⟨[], [], [], [], [], []⟩
def fZ.H (c : Ctx) (t0 : AV) (h : List AObj) (K : AOut → List AObj → Prop) : Prop :=
 boxW cB t0 h fun t1 h =>
 K (.ret (.fn (.func 141) [] [t1])) h
def eB.loops : Nat → bU
 | 0 => ⟨[], [], [0, 1], [], [], []⟩
 | _ => ⟨[], [], [], [], [], []⟩
def eB.L1 (c : Ctx) (J1 : List AObj → Prop) (K : AOut → List AObj → Prop) (lv : List AV) (h0 : List AObj) (n0 : Nat) (c0 : AV) (c1 : AV) : Prop :=
 ∃ I : Nat → List AV → List AObj → Prop, (∃ n, I n lv h0) ∧ ∀ n h, I n [] h →
 runD (fitD cB (aD h c1)) h fun t4 h =>
 runD (lenD cB h t4) h fun t5 h =>
 runD (binD aB .gtr t5 (.int .i64 0)) h fun t6 h =>
 bC t6
 (runD (fitD cB (aD h c1)) h fun t7 h =>
 runD (lenD cB h t7) h fun t8 h =>
 runD (minD (.int .i64 7) t8) h fun t9 h =>
 runD (fitD cB (aD h c1)) h fun t11 h =>
 runD (eJ cB h t11 none (some t9) none) h fun t13 h =>
 aO false c c0 [t13] h (fun t14 h =>
 runD (unD .not t14) h fun t15 h =>
 bC t15
 (K (.ret (.tup [])) h)
 (runD (fitD cB (aD h c1)) h fun t16 h =>
 runD (eJ cB h t16 (some t9) none none) h fun t18 h =>
 runH (aT cB h c1 t18) h fun _ h =>
 (∃ m, m < n ∧ I m (AV.norms n0 h []) (cI n0 h)) ∧ AV.norms n0 h [c0, c1] = [c0, c1]))
 (fun v h => K (.pan v) h))
 (J1 h)
def eB.H (c : Ctx) (t0 : AV) (t1 : AV) (h : List AObj) (K : AOut → List AObj → Prop) : Prop :=
 aL (fun (J1 : List AObj → Prop) =>
 dK [] [] h fun lv h => eB.L1 c J1 K (AV.norms h.length h lv) (cI h.length h) h.length (AV.norm h.length h t0) (AV.norm h.length h t1))
 (fun h => K (.ret (.tup [])) h)
theorem gJ.eq (F : List (FuncId × aE)) (S : List (FuncId × Con)) (t0 : AV) (h : List AObj) (K : AOut → List AObj → Prop) : funW (ctx F S gJ.loops) Tryz.f53 [t0] h K = gJ.H (ctx F S gJ.loops) t0 h K := by kernel_rfl
theorem eS.eq (F : List (FuncId × aE)) (S : List (FuncId × Con)) (t0 t1 : AV) (h : List AObj) (K : AOut → List AObj → Prop) : funW (ctx F S eS.loops) Tryz.f115 [t0, t1] h K = eS.H (ctx F S eS.loops) t0 t1 h K := by kernel_rfl
theorem eX.eq (F : List (FuncId × aE)) (S : List (FuncId × Con)) (t0 : AV) (h : List AObj) (K : AOut → List AObj → Prop) : funW (ctx F S eX.loops) Tryz.f116 [t0] h K = eX.H (ctx F S eX.loops) t0 h K := by kernel_rfl
theorem fS.eq (F : List (FuncId × aE)) (S : List (FuncId × Con)) (Is : List (FuncId × (Con → Con))) (t0 : AV) (h : List AObj) (K : AOut → List AObj → Prop) : funW (ctxI F S Is fS.loops) Tryz.f117 [t0] h K = fS.H (ctxI F S Is fS.loops) t0 h K := by kernel_rfl
theorem fZ.eq (F : List (FuncId × aE)) (S : List (FuncId × Con)) (t0 : AV) (h : List AObj) (K : AOut → List AObj → Prop) : funW (ctx F S fZ.loops) Tryz.f125 [t0] h K = fZ.H (ctx F S fZ.loops) t0 h K := by kernel_rfl
theorem eB.eq (F : List (FuncId × aE)) (S : List (FuncId × Con)) (l : Nat) (Y : Con) (t0 t1 : AV) (h : List AObj) (K : AOut → List AObj → Prop) : funW ((ctx F S eB.loops).withY l Y) Tryz.f141 [t0, t1] h K = eB.H ((ctx F S eB.loops).withY l Y) t0 t1 h K := by kernel_rfl
theorem gJ.at : Tryz.prog.funcs[53]? = some Tryz.f53 := by kernel_rfl
theorem gJ.nm : (Tryz.f53.name == "runtime.NumGoroutine") = false := by kernel_rfl
theorem gJ.bd : Tryz.f53.body.isNone = false := by kernel_rfl
theorem eS.at : Tryz.prog.funcs[115]? = some Tryz.f115 := by kernel_rfl
theorem eS.nm : (Tryz.f115.name == "runtime.NumGoroutine") = false := by kernel_rfl
theorem eS.bd : Tryz.f115.body.isNone = false := by kernel_rfl
theorem eX.at : Tryz.prog.funcs[116]? = some Tryz.f116 := by kernel_rfl
theorem eX.nm : (Tryz.f116.name == "runtime.NumGoroutine") = false := by kernel_rfl
theorem eX.bd : Tryz.f116.body.isNone = false := by kernel_rfl
theorem fS.at : Tryz.prog.funcs[117]? = some Tryz.f117 := by kernel_rfl
theorem fS.nm : (Tryz.f117.name == "runtime.NumGoroutine") = false := by kernel_rfl
theorem fS.bd : Tryz.f117.body.isNone = false := by kernel_rfl
theorem fZ.at : Tryz.prog.funcs[125]? = some Tryz.f125 := by kernel_rfl
theorem fZ.nm : (Tryz.f125.name == "runtime.NumGoroutine") = false := by kernel_rfl
theorem fZ.bd : Tryz.f125.body.isNone = false := by kernel_rfl
theorem eB.at : Tryz.prog.funcs[141]? = some Tryz.f141 := by kernel_rfl
theorem eB.nm : (Tryz.f141.name == "runtime.NumGoroutine") = false := by kernel_rfl
theorem eB.bd : Tryz.f141.body.isNone = false := by kernel_rfl
end Lam
namespace Lam
open Go Go.Proofs
theorem aGA (c : Ctx) (id : Nat) (r : Loop) (J : AV → AV → List AObj → Prop) (K : AOut → List AObj → Prop) (p : bE) (hp : p.length ≤ 7) (v k : Nat) (s : bE) (xs : List Int)
    (hJ : J (.ptr 0 []) (.int .i64 (pw p : Nat)) [.box (.sref false 2 v 0 k), .box (.str s), .row .own v (.ints .i64 xs), .lp .busy none r]) :
    fS.L1 c id r J K [.int .i64 0, .int .i64 0] [.box (.sref false 2 v 0 k), .box (.str s), .row .own v (.ints .i64 xs), .lp .busy none r] 4 (.ptr 0 []) (.str p) (.int .i64 p.length) := by
  unfold fS.L1
  refine ⟨fun m lv h' => ∃ j : Nat, j + m = p.length ∧ lv = [.int .i64 (pv (p.take j) * 256 ^ (7 - j) : Nat), .int .i64 j] ∧ h' = [.box (.sref false 2 v 0 k), .box (.str s), .row .own v (.ints .i64 xs), .lp .busy none r],
    ⟨p.length, 0, by omega, by simp [pv], rfl⟩, ?_⟩
  rintro m h' t4 t11 ⟨j, hj, hlv, rfl⟩
  simp only [List.cons.injEq, and_true] at hlv
  obtain ⟨rfl, rfl⟩ := hlv
  simp only [go_sem, reduceEqDiff, Nat.reduceLT, reduceAdd, reduceSub, reduceLeDiff, reduceReplicate, reduceToNat]
  refine ⟨fun hlt => ?_, fun hge => ?_⟩
  · have hjp : j < p.length := by omega
    have e1 : IntKind.i64.wrap (6 - (j : Int)) = 6 - j := w64 (by omega) (by omega)
    refine ⟨by omega, by rw [e1, w64 (by omega) (by omega)]; omega, m - 1, by omega, j + 1, by omega, ?_⟩
    rw [aMV p hp hjp, w64 (by omega) (by omega)]
    rfl
  · have : j = p.length := by omega
    subst this
    rw [List.take_length] at *
    exact hJ

def eB.I : Con → Con := fun Y args h K => match args with
  | [.fn (.yield l) [] [], a0] => eB.H ((ctx [] [] eB.loops).withY l Y) (.fn (.yield l) [] []) a0 h K
  | _ => False
theorem eB.spec : tA Tryz.prog 141 eB.I := by
  refine tA.of (bQ (F := []) (S := []) (by simp) (by simp) eB.loops).toOkI eB.at eB.nm eB.bd ?_
  intro Yc l cap h K hC
  unfold eB.I at hC
  split at hC
  · rename_i e
    simp only [List.cons.injEq, AV.fn.injEq, Fn.yield.injEq, and_true, true_and] at e
    obtain ⟨rfl, rfl⟩ := e
    rw [eB.eq]; exact hC
  · exact hC.elim
def fZ.K : Con := fun args h K => match args with
  | [a0] => fZ.H (ctx [] [] fZ.loops) a0 h K
  | _ => False
theorem fZ.spec : cN Tryz.prog 125 fZ.K := by
  refine cN.of (bQ (F := []) (S := []) (by simp) (by simp) fZ.loops) fZ.at fZ.nm fZ.bd ?_
  intro args h K hC
  unfold fZ.K at hC
  split at hC
  · rw [fZ.eq]; exact hC
  · exact hC.elim
def fS.C : aE
  | [.str s] => some (false, pD (roomy s.length) (.sl false (.ints .i64 (keyW s))))
  | _ => none
theorem fS.spec : bO Tryz.prog 117 fS.C := by
  refine bO.of (aDW (F := []) (S := [(125, fZ.K)]) (Is := [(141, eB.I)]) (by simp) (by simpa using fZ.spec) (by simpa using eB.spec) fS.loops) fS.at fS.nm fS.bd ?_
  intro vs b S v news e hS
  unfold fS.C at e
  split at e
  rotate_left
  · cases e
  cases e
  rw [fS.eq]
  unfold fS.H
  simp (maxSteps := 4000000) only [go_sem, reduceEqDiff, Nat.reduceLT, reduceAdd, reduceSub, reduceLeDiff, reduceReplicate, reduceToNat, fZ.K, fZ.H, eB.I, eB.H, aA]
  rename_i s
  unfold roomy at hS
  intro l r
  unfold eB.L1
  refine ⟨fun m lv h' => ∃ k v : Nat, k + m = iQ s ∧ h' = [.box (.sref false 2 v 0 k), .box (.str (s.drop (7*k))), .row .own v (.ints .i64 ((keyW s).take k)), .lp .ready none r], ⟨iQ s, 0, 0, by omega, by simp⟩, ?_⟩
  rintro m h' ⟨k, v, hk, rfl⟩
  have hwl : (keyW s).length = iQ s := by simp [keyW]
  have hnp : iQ s = (s.length + 6) / 7 := rfl
  have hacc : ((keyW s).take k).length = k := by simp; omega
  simp only [go_sem, reduceEqDiff, Nat.reduceLT, reduceAdd, reduceSub, reduceLeDiff, reduceReplicate, reduceToNat, List.length_drop]
  refine ⟨fun hlt => ?_, fun hge => ?_⟩
  · have hn : (if ((s.length - 7 * k : Nat) : Int) < 7 then ((s.length - 7 * k : Nat) : Int) else 7) = ((min 7 (s.length - 7 * k) : Nat) : Int) := by split <;> omega
    simp only [hn, Int.toNat_natCast]
    have hpc : (s.drop (7 * k)).take (min 7 (s.length - 7 * k)) = pH s k := by
      unfold pH
      rcases Nat.lt_or_ge (s.length - 7 * k) 7 with h | h
      · rw [Nat.min_eq_right (by omega), List.take_of_length_le (by simp), List.take_of_length_le (by simp; omega)]
      · rw [Nat.min_eq_left (by omega)]
    rw [hpc]
    have hpl : (pH s k).length ≤ 7 := by unfold pH; simp; omega
    refine ⟨by omega, aGA _ _ _ _ _ _ hpl _ _ _ _ ?_⟩
    simp only [go_sem, reduceEqDiff, Nat.reduceLT, reduceAdd, reduceSub, reduceLeDiff, reduceReplicate, reduceToNat, hacc]
    have hkn : k < iQ s := by omega
    have hnext : (keyW s).take (k + 1) = (keyW s).take k ++ [(pw (pH s k) : Int)] := by
      rw [iK _ k 0 (by omega), aJh s hkn]
    have hd : (s.drop (7 * k)).drop (min 7 (s.length - 7 * k)) = s.drop (7 * (k + 1)) := by
      rw [List.drop_drop]
      rcases Nat.lt_or_ge (s.length - 7 * k) 7 with h | h
      · rw [List.drop_eq_nil_of_le (by omega), List.drop_eq_nil_of_le (by omega)]
      · congr 1; omega
    have hl1 : ((keyW s).take (k + 1)).length = k + 1 := by simp; omega
    rw [← hnext, hd, hl1]
    refine ⟨by unfold roomy; omega, by simp; omega, m - 1, by omega, k + 1, v + 1, by omega, rfl⟩
  · have : k = iQ s := by omega
    subst this
    rw [List.take_of_length_le (by omega)]
    refine aH ?_ rfl
    have := hacc
    rw [List.take_of_length_le (by omega)] at this
    simp only [go_sem, reduceEqDiff, Nat.reduceLT, reduceAdd, reduceSub, reduceLeDiff, reduceReplicate, reduceToNat, List.take_of_length_le (Nat.le_of_eq hwl)]
def aBl (l : List Int) (n : Int) : AV := .tup [.str (if nX l n = true then wN l n else []), .int .i64 (if nX l n = true then 0 else 20)]
@[go_sem] theorem aSj (l : List Int) (n : Int) : (aBl l n).noSl = true := (rfl)
theorem aCj {l : List Int} {n : Int} (hb : nX l n = false) (h : List AObj) : Post false (aBl l n) [] (.ret (.tup [.str [], .int .i64 20])) h := by
  unfold aBl; rw [hb]; exact aH rfl rfl
def eS.C : aE
  | [.sl _ (.ints .i64 l), .int .i64 n] => some (false, pD (roomy (7 * l.length) ∧ n < 9223372036854775808) (aBl l n))
  | _ => none
theorem aHF (c : Ctx) (J : AV → AV → AV → AV → AV → List AObj → Prop) (K : AOut → List AObj → Prop) (n w : Int) (l pre : List Int) (v k len : Nat) (hr : pre.length + 7 ≤ 1099511627776)
    (hJ : J (.int .i64 n) (.sref false 0 (v + 7) 0 (pre.length + 7)) (.sl false (.ints .i64 l)) (.int .i64 len) (.int .i64 k) [.row .own (v + 7) (.ints .u8 (pre ++ rT w))]) :
    eS.L2 c J K [.sref false 0 v 0 pre.length, .int .i64 0] [.row .own v (.ints .u8 pre)] 1 (.int .i64 n) (.int .i64 w) (.sl false (.ints .i64 l)) (.int .i64 len) (.int .i64 k) := by
  unfold eS.L2
  refine ⟨fun m lv h' => ∃ j : Nat, j + m = 7 ∧ lv = [.sref false 0 (v + j) 0 (pre.length + j), .int .i64 j] ∧ h' = [.row .own (v + j) (.ints .u8 (pre ++ (List.range j).map (rS w)))],
    ⟨7, 0, by omega, by simp, by simp⟩, ?_⟩
  rintro m h' t6 t41 ⟨j, hj, hlv, rfl⟩
  simp only [List.cons.injEq, and_true] at hlv
  obtain ⟨rfl, rfl⟩ := hlv
  have hlen : (pre ++ (List.range j).map (rS w)).length = pre.length + j := by simp
  simp only [go_sem, reduceEqDiff, Nat.reduceLT, reduceAdd, reduceSub, reduceLeDiff, reduceReplicate, reduceToNat, hlen]
  refine ⟨fun hlt => ?_, fun hge => ?_⟩
  · have e1 : IntKind.i64.wrap (6 - (j : Int)) = 6 - j := w64 (by omega) (by omega)
    have e2 : IntKind.i64.wrap (8 * (6 - (j : Int))) = 8 * (6 - j) := w64 (by omega) (by omega)
    have e3 : (8 * (6 - (j : Int))).toNat = 8 * (6 - j) := by omega
    have e4 : min (8 * (6 - j)) 64 = 8 * (6 - j) := by omega
    simp only [e1, e2, e3, e4]
    have hz : (List.range j).map (rS w) ++ [IntKind.u8.wrap (w.fdiv (2 ^ (8 * (6 - j))))] = (List.range (j + 1)).map (rS w) := by rw [List.range_succ]; simp [rS]
    have hl2 : (pre ++ (List.range (j + 1)).map (rS w)).length = pre.length + (j + 1) := by simp
    rw [hz, hl2, w64 (by omega) (by omega)]
    exact ⟨by omega, by unfold roomy; omega, m - 1, by omega, j + 1, by omega, rfl, rfl⟩
  · have : j = 7 := by omega
    subst this
    exact hJ

theorem eS.spec : bO Tryz.prog 115 eS.C := by
  refine bO.of (bQ (F := []) (S := []) (by simp) (by simp) eS.loops) eS.at eS.nm eS.bd ?_
  intro vs b S v news e hS
  unfold eS.C at e
  split at e
  rotate_left
  · cases e
  cases e
  rw [eS.eq]
  unfold eS.H
  simp (maxSteps := 4000000) only [go_sem, reduceEqDiff, Nat.reduceLT, reduceAdd, reduceSub, reduceLeDiff, reduceReplicate, reduceToNat]
  rename_i l n
  unfold roomy at hS
  obtain ⟨hS, hn63⟩ := hS
  refine ⟨fun _ => by decide, fun hb => aCj ?_ _, fun hb => ?_⟩
  · have hb : (!decide (n < 0) && decide ((l.length : Int) = lenT n)) = false := by
      unfold lenT
      revert hb
      cases decide (n < 0) <;> simp
    unfold nX
    rw [hb]; rfl
  have hb1 : ¬ n < 0 := by intro h; simp [h] at hb
  have hb2 : (l.length : Int) = lenT n := by
    rw [decide_eq_false hb1, Bool.false_or, Bool.not_eq_false', decide_eq_true_eq] at hb
    exact hb
  have e7 : IntKind.i64.wrap (7 * (l.length : Int)) = ((7 * l.length : Nat) : Int) := by rw [w64 (by omega) (by omega)]; omega
  refine ⟨⟨by omega, by rw [e7]; omega, by rw [e7, Int.toNat_natCast]; exact hS⟩, ?_⟩
  rw [aA]
  unfold eS.L1
  refine ⟨fun m lv h' => ∃ k v : Nat, k + m = l.length ∧ lv = [.sref false 0 v 0 (7 * k), .int .i64 k] ∧ h' = [.row .own v (.ints .u8 (jY (l.take k)))] ∧ (l.take k).all wMay = true,
    ⟨l.length, 0, 0, by omega, rfl, rfl, rfl⟩, ?_⟩
  rintro m h' t6 t31 ⟨k, v, hk, hlv, rfl, hall⟩
  simp only [List.cons.injEq, and_true] at hlv
  obtain ⟨rfl, rfl⟩ := hlv
  have hfl : (jY (l.take k)).length = 7 * k := by rw [aKx, List.length_take, Nat.min_eq_left (by omega)]
  simp only [go_sem, reduceEqDiff, Nat.reduceLT, reduceAdd, reduceSub, reduceLeDiff, reduceReplicate, reduceToNat, hfl]
  refine ⟨fun hlt => ?_, fun hge => ?_⟩
  · have hkl : k < l.length := by omega
    rw [aA]
    refine ⟨by omega, fun hbad => aCj ?_ _, fun hok => ?_⟩
    · have : l.all wMay = false := by
        rw [List.all_eq_false]
        refine ⟨_, lN l k 0 hkl, fun h => ?_⟩
        simp only [wMay, Bool.and_eq_true, decide_eq_true_eq] at h
        simp only [Bool.or_eq_true, decide_eq_true_eq] at hbad
        omega
      simp [nX, this]
    · have hw : wMay (l.getD k 0) = true := by
        simp only [Bool.or_eq_false_iff, decide_eq_false_iff_not] at hok
        simp only [wMay, Bool.and_eq_true, decide_eq_true_eq]; omega
      rw [aA]
      have hL2 := aHF (ctx [] [] eS.loops)
      rw [← hfl]
      refine hL2 _ _ _ _ _ _ _ _ _ (by rw [hfl]; omega) ?_
      have hnx : jY (l.take k) ++ rT (l.getD k 0) = jY (l.take (k + 1)) := by
        rw [iK l k 0 hkl]; simp [jY]
      rw [hnx, hfl]
      simp only [go_sem, reduceEqDiff, Nat.reduceLT, reduceAdd, reduceSub, reduceLeDiff, reduceReplicate, reduceToNat]
      have hmx : ¬ (False) := id
      refine ⟨m - 1, by omega, k + 1, v + 7, by omega, by rw [w64 (by omega) (by omega)]; rfl, rfl, ?_⟩
      rw [iK l k 0 hkl, List.all_append, hall, Bool.true_and, List.all_cons, hw]
      rfl
  · have : k = l.length := by omega
    subst this
    rw [List.take_length] at *
    obtain ⟨N, rfl⟩ : ∃ N : Nat, n = N := ⟨n.toNat, by omega⟩
    have hN : (l.length : Int) = ((N + 6) / 7 : Nat) := by rw [hb2, aGp N (by omega)]
    refine ⟨by omega, ?_⟩
    rw [aA, Int.toNat_natCast]
    unfold eS.L3
    refine ⟨fun m lv h' => ∃ j : Nat, j + m = 7 * l.length - N ∧ lv = [.int .i64 j] ∧ h' = [.row .own v (.ints .u8 (jY l))] ∧ ∀ i, i < j → (jY l).getD (N + i) 0 = 0,
      ⟨_, 0, Nat.zero_add _, rfl, rfl, fun i hi => by omega⟩, ?_⟩
    rintro m h' t59 ⟨j, hj, hlv, rfl, hz⟩
    simp only [List.cons.injEq, and_true] at hlv
    subst hlv
    simp only [go_sem, reduceEqDiff, Nat.reduceLT, reduceAdd, reduceSub, reduceLeDiff, reduceReplicate, reduceToNat, hfl]
    refine ⟨fun hlt => ⟨by omega, by omega, fun h0 => aCj ?_ _, fun h0 => ?_⟩, fun hge => ⟨by omega, ?_⟩⟩
    · have : ((jY l).drop N).all (fun b => decide (b = 0)) = false := by
        rw [List.all_eq_false]
        have hjl : j < ((jY l).drop N).length := by rw [List.length_drop, hfl]; omega
        have e : ((jY l).drop N).getD j 0 = (jY l).getD (N + j) 0 := by rw [List.getD_eq_getElem?_getD, List.getD_eq_getElem?_getD, List.getElem?_drop]
        exact ⟨_, lN _ j 0 hjl, by rw [e]; simpa using h0⟩
      simp [nX, this]
    · refine ⟨m - 1, by omega, j + 1, by omega, by rw [w64 (by omega) (by omega)]; rfl, fun i hi => ?_⟩
      by_cases e : i = j
      · subst e; exact h0
      · exact hz i (by omega)
    · have hj2 : j = 7 * l.length - N := by omega
      have hzero : ((jY l).drop N).all (fun b => decide (b = 0)) = true := by
        rw [List.all_eq_true]
        intro b hb
        obtain ⟨i, hi, rfl⟩ := List.getElem_of_mem hb
        rw [List.length_drop, hfl] at hi
        have := hz i (by omega)
        rw [List.getD_eq_getElem?_getD, List.getElem?_eq_getElem (by rw [hfl]; omega)] at this
        rw [List.getElem_drop]
        simpa using this
      have hB : nX l N = true := by
        unfold nX
        rw [hall, Int.toNat_natCast, hzero, decide_eq_false hb1, decide_eq_true hb2]; rfl
      unfold aBl wN
      simp only [hB, if_true]
      exact aH rfl rfl
def gJ.C : aE
  | [.str s] => some (false, pD True (.bool (decide (s ≠ []) && decide ((s.length : Int) ≤ 21))))
  | _ => none
theorem gJ.spec : bO Tryz.prog 53 gJ.C := by
  refine bO.of (bQ (F := []) (S := []) (by simp) (by simp) gJ.loops) gJ.at gJ.nm gJ.bd ?_
  intro vs b S v news e hS
  unfold gJ.C at e
  split at e
  rotate_left
  · cases e
  cases e
  rw [gJ.eq]
  unfold gJ.H
  simp (maxSteps := 4000000) only [go_sem, reduceEqDiff, Nat.reduceLT, reduceAdd, reduceSub, reduceLeDiff, reduceReplicate, reduceToNat]
  rename_i s
  have : (decide ¬s = []) = !decide (s = []) := by by_cases h : s = [] <;> simp [h]
  rw [this]
  exact aH rfl rfl
def eX.C : aE
  | [.str s] => some (false, pD True (.bool (decide ((s.length : Int) ≤ 21))))
  | _ => none
theorem eX.spec : bO Tryz.prog 116 eX.C := by
  refine bO.of (bQ (F := []) (S := []) (by simp) (by simp) eX.loops) eX.at eX.nm eX.bd ?_
  intro vs b S v news e hS
  unfold eX.C at e
  split at e
  rotate_left
  · cases e
  cases e
  rw [eX.eq]
  unfold eX.H
  simp (maxSteps := 4000000) only [go_sem, reduceEqDiff, Nat.reduceLT, reduceAdd, reduceSub, reduceLeDiff, reduceReplicate, reduceToNat]
  exact aH rfl rfl
end Lam
namespace Lam
open Go Go.Proofs
def dZ.loops : Nat → bU
 | 1 => ⟨[], [], [], [(3, none), (5, some [11, 16])], [], []⟩
 | _ => ⟨[], [], [], [], [], []⟩
def dZ.H (c : Ctx) (t0 : AV) (t1 : AV) (h : List AObj) (K : AOut → List AObj → Prop) : Prop :=
 cV aK h fun t4 h =>
 runD (binD aB .lss t1 (.int .i64 0)) h fun t10 h =>
 aL (fun (J1 : AV → AV → List AObj → Prop) =>
 bF t10 false
 (runD (lenD aI h t0) h fun t14 h =>
 runD (binD aB .quo t14 (.int .i64 16)) h fun t15 h =>
 runD (binD aB .geq t1 t15) h fun t16 h =>
 J1 (.bool false) t16 h)
 (J1 (.bool true) .und h))
 (fun t11 t16 h => runD (bV t11 (.bool true) t16) h fun t17 h =>
 bC t17
 (runD (hG aK []) h fun t18 h =>
 runH (aT aK h t4 t18) h fun _ h =>
 dG (fitD aK (aD h t4)) fun r0 => K (.ret (.tup [r0, (.int .i64 1)])) h)
 (cV dU h fun t6 h =>
 runD (eJ dU h t6 none none none) h fun t19 h =>
 runD (binD aB .mul (.int .i64 16) t1) h fun t22 h =>
 runD (eJ aI h t0 (some t22) none none) h fun t23 h =>
 runM (mE aI h t19 t23) h fun t24 h =>
 runD (aG dU h t6 (.int .i64 0)) h fun t25 h =>
 runD (fitD aB (aD h t25)) h fun t26 h =>
 runD (hG aK [(0, t26)]) h fun t27 h =>
 cV aK h fun t7 h =>
 runH (aT aK h t7 t27) h fun _ h =>
 runD (fitD dU (aD h t6)) h fun t29 h =>
 runD (aG dU h t6 (.int .i64 1)) h fun t30 h =>
 runD (fitD aB (aD h t30)) h fun t31 h =>
 runD (binD aB .quo t31 (.int .i64 32)) h fun t32 h =>
 aO false c (.fn (.func 99) [] []) [t29, (.int .i64 3), t32] h (fun t33 h =>
 runD (aW t33 0) h fun t34 h =>
 runD (aW t33 1) h fun t35 h =>
 runD (aC aK t7 1) h fun t36 h =>
 runH (aT cB h t36 t34) h fun _ h =>
 runD (unD .not t35) h fun t38 h =>
 bC t38
 (runD (hG aK []) h fun t39 h =>
 runH (aT aK h t4 t39) h fun _ h =>
 dG (fitD aK (aD h t4)) fun r0 => K (.ret (.tup [r0, (.int .i64 70)])) h)
 (runD (aC aK t7 0) h fun t40 h =>
 runD (fitD aB (aD h t40)) h fun t41 h =>
 runD (binD aB .eql t41 (.int .i64 1)) h fun t43 h =>
 aL (fun (J2 : AV → List AObj → Prop) =>
 bC t43
 (runD (fitD dU (aD h t6)) h fun t45 h =>
 runD (aG dU h t6 (.int .i64 1)) h fun t46 h =>
 runD (fitD aB (aD h t46)) h fun t47 h =>
 runD (binD aB .rem t47 (.int .i64 32)) h fun t48 h =>
 aO false c (.fn (.func 99) [] []) [t45, (.int .i64 6), t48] h (fun t49 h =>
 runD (aW t49 0) h fun t50 h =>
 runD (aW t49 1) h fun t51 h =>
 runD (aC aK t7 2) h fun t52 h =>
 runH (aT cB h t52 t50) h fun _ h =>
 J2 t51 h)
 (fun v h => K (.pan v) h))
 (runD (binD aB .eql t41 (.int .i64 2)) h fun t54 h =>
 aL (fun (J3 : List AObj → Prop) =>
 bC t54
 (runD (aG dU h t6 (.int .i64 6)) h fun t55 h =>
 runD (fitD aB (aD h t55)) h fun t56 h =>
 runD (aC aK t7 3) h fun t57 h =>
 runH (aT aB h t57 t56) h fun _ h =>
 J3 h)
 (J3 h))
 (fun h => J2 t35 h)))
 (fun t8 h => runD (unD .not t8) h fun t59 h =>
 aL (fun (J4 : AV → AV → List AObj → Prop) =>
 bF t59 false
 (runD (fitD aK (aD h t7)) h fun t61 h =>
 aO false c.noS (.fn (.func 100) [] []) [t61] h (fun t62 h =>
 runD (unD .not t62) h fun t63 h =>
 J4 (.bool false) t63 h)
 (fun _ _ => False))
 (J4 (.bool true) .und h))
 (fun t60 t63 h => runD (bV t60 (.bool true) t63) h fun t64 h =>
 aL (fun (J5 : AV → AV → List AObj → Prop) =>
 bF t64 false
 (runD (fitD aK (aD h t7)) h fun t66 h =>
 aO false c.noS (.fn (.func 101) [] []) [t66] h (fun t67 h =>
 runD (fitD dU (aD h t6)) h fun t68 h =>
 runD (binD dU .neq t67 t68) h fun t69 h =>
 J5 (.bool false) t69 h)
 (fun _ _ => False))
 (J5 (.bool true) .und h))
 (fun t65 t69 h => runD (bV t65 (.bool true) t69) h fun t70 h =>
 bC t70
 (runD (hG aK []) h fun t71 h =>
 runH (aT aK h t4 t71) h fun _ h =>
 dG (fitD aK (aD h t4)) fun r0 => K (.ret (.tup [r0, (.int .i64 70)])) h)
 (runD (fitD aK (aD h t7)) h fun t72 h =>
 runH (aT aK h t4 t72) h fun _ h =>
 dG (fitD aK (aD h t4)) fun r0 => K (.ret (.tup [r0, (.int .i64 0)])) h))))))
 (fun v h => K (.pan v) h)))
def iO.loops : Nat → bU
 | 1 => ⟨[], [], [], [(3, none), (2, some [12, 14])], [], []⟩
 | _ => ⟨[], [], [], [], [], []⟩
def iO.H (c : Ctx) (t0 : AV) (t1 : AV) (t2 : AV) (h : List AObj) (K : AOut → List AObj → Prop) : Prop :=
 boxW dU t0 h fun t3 h =>
 runD (binD aB .lss t2 (.int .i64 0)) h fun t11 h =>
 aL (fun (J1 : AV → AV → List AObj → Prop) =>
 bF t11 false
 (runD (binD aB .gtr t2 (.int .i64 21)) h fun t14 h =>
 J1 (.bool false) t14 h)
 (J1 (.bool true) .und h))
 (fun t12 t14 h => runD (bV t12 (.bool true) t14) h fun t15 h =>
 bC t15
 (K (.ret (.tup [(.str []), (.bool false)])) h)
 (runD (binD aB .add t2 (.int .i64 6)) h fun t20 h =>
 runD (binD aB .quo t20 (.int .i64 7)) h fun t21 h =>
 runD (binD aB .add t1 t21) h fun t22 h =>
 runD (eJ dU h t3 (some t1) (some t22) none) h fun t23 h =>
 aO false c (.fn (.func 115) [] []) [t23, t2] h (fun t25 h =>
 runD (aW t25 0) h fun t26 h =>
 runD (aW t25 1) h fun t27 h =>
 runD (binD cO .eql t27 (.int .i64 0)) h fun t30 h =>
 K (.ret (.tup [t26, t30])) h)
 (fun v h => K (.pan v) h)))
def fI.loops : Nat → bU
 | 3 => ⟨[], [], [], [(4, none), (3, some [10, 13]), (2, none), (3, some [15, 18])], [], []⟩
 | 5 => ⟨[], [], [], [(4, none), (3, some [25, 28]), (2, none), (3, some [30, 33]), (2, none), (3, some [35, 38]), (2, none), (3, some [40, 43])], [], []⟩
 | _ => ⟨[], [], [], [], [], []⟩
def fI.H (c : Ctx) (t0 : AV) (h : List AObj) (K : AOut → List AObj → Prop) : Prop :=
 boxW aK t0 h fun t1 h =>
 runD (aC aK t1 0) h fun t3 h =>
 runD (fitD aB (aD h t3)) h fun t4 h =>
 runD (binD aB .eql t4 (.int .i64 1)) h fun t6 h =>
 bC t6
 (runD (aC aK t1 1) h fun t7 h =>
 runD (fitD cB (aD h t7)) h fun t8 h =>
 aO false c (.fn (.func 53) [] []) [t8] h (fun t9 h =>
 aL (fun (J1 : AV → AV → List AObj → Prop) =>
 bF t9 true
 (runD (aC aK t1 2) h fun t11 h =>
 runD (fitD cB (aD h t11)) h fun t12 h =>
 aO false c (.fn (.func 116) [] []) [t12] h (fun t13 h =>
 J1 (.bool true) t13 h)
 (fun v h => K (.pan v) h))
 (J1 (.bool false) .und h))
 (fun t10 t13 h => runD (bV t10 t13 (.bool false)) h fun t14 h =>
 aL (fun (J2 : AV → AV → List AObj → Prop) =>
 bF t14 true
 (runD (aC aK t1 3) h fun t16 h =>
 runD (fitD aB (aD h t16)) h fun t17 h =>
 runD (binD aB .eql t17 (.int .i64 0)) h fun t18 h =>
 J2 (.bool true) t18 h)
 (J2 (.bool false) .und h))
 (fun t15 t18 h => runD (bV t15 t18 (.bool false)) h fun t19 h =>
 K (.ret t19) h)))
 (fun v h => K (.pan v) h))
 (runD (binD aB .eql t4 (.int .i64 2)) h fun t21 h =>
 bC t21
 (runD (aC aK t1 1) h fun t22 h =>
 runD (fitD cB (aD h t22)) h fun t23 h =>
 runD (binD cB .eql t23 (.str [])) h fun t24 h =>
 aL (fun (J3 : AV → AV → List AObj → Prop) =>
 bF t24 false
 (runD (aC aK t1 1) h fun t26 h =>
 runD (fitD cB (aD h t26)) h fun t27 h =>
 aO false c (.fn (.func 53) [] []) [t27] h (fun t28 h =>
 J3 (.bool false) t28 h)
 (fun v h => K (.pan v) h))
 (J3 (.bool true) .und h))
 (fun t25 t28 h => runD (bV t25 (.bool true) t28) h fun t29 h =>
 aL (fun (J4 : AV → AV → List AObj → Prop) =>
 bF t29 true
 (runD (aC aK t1 2) h fun t31 h =>
 runD (fitD cB (aD h t31)) h fun t32 h =>
 runD (binD cB .eql t32 (.str [])) h fun t33 h =>
 J4 (.bool true) t33 h)
 (J4 (.bool false) .und h))
 (fun t30 t33 h => runD (bV t30 t33 (.bool false)) h fun t34 h =>
 aL (fun (J5 : AV → AV → List AObj → Prop) =>
 bF t34 true
 (runD (aC aK t1 3) h fun t36 h =>
 runD (fitD aB (aD h t36)) h fun t37 h =>
 runD (binD aB .gtr t37 (.int .i64 0)) h fun t38 h =>
 J5 (.bool true) t38 h)
 (J5 (.bool false) .und h))
 (fun t35 t38 h => runD (bV t35 t38 (.bool false)) h fun t39 h =>
 aL (fun (J6 : AV → AV → List AObj → Prop) =>
 bF t39 true
 (runD (aC aK t1 3) h fun t41 h =>
 runD (fitD aB (aD h t41)) h fun t42 h =>
 runD (binD aB .lss t42 (.int .i64 256)) h fun t43 h =>
 J6 (.bool true) t43 h)
 (J6 (.bool false) .und h))
 (fun t40 t43 h => runD (bV t40 t43 (.bool false)) h fun t44 h =>
 K (.ret t44) h)))))
 (K (.ret (.bool false)) h))
def jE.loops : Nat → bU
 | _ => ⟨[], [], [], [], [], []⟩
def jE.H (c : Ctx) (t0 : AV) (h : List AObj) (K : AOut → List AObj → Prop) : Prop :=
 boxW aK t0 h fun t1 h =>
 cV dU h fun t2 h =>
 runD (aC aK t1 0) h fun t4 h =>
 runD (fitD aB (aD h t4)) h fun t5 h =>
 runD (aC aK t1 1) h fun t6 h =>
 runD (fitD cB (aD h t6)) h fun t7 h =>
 runD (lenD cB h t7) h fun t8 h =>
 runD (binD aB .mul (.int .i64 32) t8) h fun t9 h =>
 runD (aC aK t1 2) h fun t10 h =>
 runD (fitD cB (aD h t10)) h fun t11 h =>
 runD (lenD cB h t11) h fun t12 h =>
 runD (binD aB .add t9 t12) h fun t13 h =>
 runD (hG dU [(0, t5), (1, t13)]) h fun t14 h =>
 cV dU h fun t3 h =>
 runH (aT dU h t3 t14) h fun _ h =>
 runD (eJ dU h t3 (some (.int .i64 3)) none none) h fun t15 h =>
 runD (aC aK t1 1) h fun t16 h =>
 runD (fitD cB (aD h t16)) h fun t17 h =>
 aO false c.noS (.fn (.func 117) [] []) [t17] h (fun t18 h =>
 runM (mE aI h t15 t18) h fun t19 h =>
 runD (eJ dU h t3 (some (.int .i64 6)) none none) h fun t20 h =>
 runD (aC aK t1 2) h fun t21 h =>
 runD (fitD cB (aD h t21)) h fun t22 h =>
 aO false c.noS (.fn (.func 117) [] []) [t22] h (fun t23 h =>
 runM (mE aI h t20 t23) h fun t24 h =>
 runD (aC aK t1 0) h fun t25 h =>
 runD (fitD aB (aD h t25)) h fun t26 h =>
 runD (binD aB .eql t26 (.int .i64 2)) h fun t27 h =>
 aL (fun (J1 : List AObj → Prop) =>
 bC t27
 (runD (aC aK t1 3) h fun t28 h =>
 runD (fitD aB (aD h t28)) h fun t29 h =>
 runD (aG dU h t3 (.int .i64 6)) h fun t30 h =>
 runH (aT aB h t30 t29) h fun _ h =>
 J1 h)
 (J1 h))
 (fun h => runD (fitD dU (aD h t3)) h fun t31 h =>
 aO false c (.fn (.func 118) [] []) [t31] h (fun t32 h =>
 runH (aT dU h t2 t32) h fun _ h =>
 dG (fitD dU (aD h t2)) fun r0 => K (.ret r0) h)
 (fun v h => K (.pan v) h)))
 (fun _ _ => False))
 (fun _ _ => False)
def gH.loops : Nat → bU
 | _ => ⟨[], [], [], [], [], []⟩
def gH.H (c : Ctx) (t0 : AV) (h : List AObj) (K : AOut → List AObj → Prop) : Prop :=
 boxW dU t0 h fun t1 h =>
 cV dU h fun t2 h =>
 runD (aG dU h t1 (.int .i64 0)) h fun t4 h =>
 runD (fitD aB (aD h t4)) h fun t5 h =>
 runD (aG dU h t1 (.int .i64 1)) h fun t6 h =>
 runD (fitD aB (aD h t6)) h fun t7 h =>
 runD (gE aI 2 [(0, t5), (1, t7)] h.length) h fun t8 h =>
 runD (eJ dU h t1 (some (.int .i64 3)) none none) h fun t9 h =>
 kG (gU aI h t8 t9 h.length) (iE aI h t8 t9) h fun t10 h =>
 aO false c (.fn (.func 93) [] []) [t10] h (fun t12 h =>
 runD (aG dU h t1 (.int .i64 2)) h fun t13 h =>
 runH (aT aB h t13 t12) h fun _ h =>
 runD (fitD dU (aD h t1)) h fun t14 h =>
 runH (aT dU h t2 t14) h fun _ h =>
 dG (fitD dU (aD h t2)) fun r0 => K (.ret r0) h)
 (fun v h => K (.pan v) h)
theorem dZ.eq (F : List (FuncId × aE)) (S : List (FuncId × Con)) (t0 t1 : AV) (h : List AObj) (K : AOut → List AObj → Prop) : funW (ctx F S dZ.loops) Tryz.f79 [t0, t1] h K = dZ.H (ctx F S dZ.loops) t0 t1 h K := by kernel_rfl
theorem iO.eq (F : List (FuncId × aE)) (S : List (FuncId × Con)) (t0 t1 t2 : AV) (h : List AObj) (K : AOut → List AObj → Prop) : funW (ctx F S iO.loops) Tryz.f99 [t0, t1, t2] h K = iO.H (ctx F S iO.loops) t0 t1 t2 h K := by kernel_rfl
theorem fI.eq (F : List (FuncId × aE)) (S : List (FuncId × Con)) (t0 : AV) (h : List AObj) (K : AOut → List AObj → Prop) : funW (ctx F S fI.loops) Tryz.f100 [t0] h K = fI.H (ctx F S fI.loops) t0 h K := by kernel_rfl
theorem jE.eq (F : List (FuncId × aE)) (S : List (FuncId × Con)) (t0 : AV) (h : List AObj) (K : AOut → List AObj → Prop) : funW (ctx F S jE.loops) Tryz.f101 [t0] h K = jE.H (ctx F S jE.loops) t0 h K := by kernel_rfl
theorem gH.eq (F : List (FuncId × aE)) (S : List (FuncId × Con)) (t0 : AV) (h : List AObj) (K : AOut → List AObj → Prop) : funW (ctx F S gH.loops) Tryz.f118 [t0] h K = gH.H (ctx F S gH.loops) t0 h K := by kernel_rfl
theorem dZ.at : Tryz.prog.funcs[79]? = some Tryz.f79 := by kernel_rfl
theorem dZ.nm : (Tryz.f79.name == "runtime.NumGoroutine") = false := by kernel_rfl
theorem dZ.bd : Tryz.f79.body.isNone = false := by kernel_rfl
theorem iO.at : Tryz.prog.funcs[99]? = some Tryz.f99 := by kernel_rfl
theorem iO.nm : (Tryz.f99.name == "runtime.NumGoroutine") = false := by kernel_rfl
theorem iO.bd : Tryz.f99.body.isNone = false := by kernel_rfl
theorem fI.at : Tryz.prog.funcs[100]? = some Tryz.f100 := by kernel_rfl
theorem fI.nm : (Tryz.f100.name == "runtime.NumGoroutine") = false := by kernel_rfl
theorem fI.bd : Tryz.f100.body.isNone = false := by kernel_rfl
theorem jE.at : Tryz.prog.funcs[101]? = some Tryz.f101 := by kernel_rfl
theorem jE.nm : (Tryz.f101.name == "runtime.NumGoroutine") = false := by kernel_rfl
theorem jE.bd : Tryz.f101.body.isNone = false := by kernel_rfl
theorem gH.at : Tryz.prog.funcs[118]? = some Tryz.f118 := by kernel_rfl
theorem gH.nm : (Tryz.f118.name == "runtime.NumGoroutine") = false := by kernel_rfl
theorem gH.bd : Tryz.f118.body.isNone = false := by kernel_rfl
end Lam
namespace Lam
open Go Go.Proofs
def fI.C : aE
  | [.agg [.int .i64 a, .str k, .str v, .int .i64 c]] => some (false, pD True (.bool (recB ⟨a, k, v, c⟩)))
  | _ => none
theorem fI.spec : bO Tryz.prog 100 fI.C := by
  refine bO.of (bQ (F := [(53, gJ.C), (116, eX.C)]) (S := []) (by simpa using ⟨gJ.spec, eX.spec⟩) (by simp) fI.loops) fI.at fI.nm fI.bd ?_
  intro vs b S v news e hS
  unfold fI.C at e
  split at e
  rotate_left
  · cases e
  cases e
  rw [fI.eq]
  unfold fI.H
  simp (maxSteps := 4000000) only [go_sem, reduceEqDiff, Nat.reduceLT, reduceAdd, reduceSub, reduceLeDiff, reduceReplicate, reduceToNat, gJ.C, eX.C]
  rename_i a k v c
  have r1 : a = 1 → recB ⟨a, k, v, c⟩ = (decide (¬ k = []) && decide ((List.length k : Int) ≤ 21) && decide ((List.length v : Int) ≤ 21) && decide (c = 0)) := by
    rintro rfl
    unfold recB keyB
    rw [Bool.eq_iff_iff]
    simp [and_assoc]
  have r2 : a = 2 → recB ⟨a, k, v, c⟩ = ((decide (k = []) || decide (¬ k = []) && decide ((List.length k : Int) ≤ 21)) && decide (v = []) && decide (0 < c) && decide (c < 256)) := by
    rintro rfl
    unfold recB keyB
    rw [Bool.eq_iff_iff]
    simp [and_assoc]
  have r3 : ¬ a = 1 → ¬ a = 2 → recB ⟨a, k, v, c⟩ = false := by
    intro h1 h2
    unfold recB
    rw [decide_eq_false h1, decide_eq_false h2]; rfl
  refine ⟨fun h => ?_, fun h => ⟨fun h2 => ?_, fun h2 => ?_⟩⟩
  · rw [r1 h]; exact aH rfl rfl
  · rw [r2 h2]; exact aH rfl rfl
  · rw [r3 h h2]; exact aH rfl rfl
def gH.C : aE
  | [.arr (.ints .i64 l)] => some (false, pD (l.length = 16) (.arr (.ints .i64 (l.set 2 (aBh (l.getD 0 0 :: l.getD 1 0 :: l.drop 3))))))
  | _ => none
theorem gH.spec : bO Tryz.prog 118 gH.C := by
  refine bO.of (bQ (F := [(93, iS.C)]) (S := []) (by simpa using iS.spec) (by simp) gH.loops) gH.at gH.nm gH.bd ?_
  intro vs b S v news e hS
  unfold gH.C at e
  split at e
  rotate_left
  · cases e
  cases e
  rw [gH.eq]
  unfold gH.H
  simp (maxSteps := 4000000) only [go_sem, reduceEqDiff, Nat.reduceLT, reduceAdd, reduceSub, reduceLeDiff, reduceReplicate, reduceToNat, iS.C]
  rename_i l
  simp only [hS, iS.C, aA, gq, reduceEq, reduceLT, reduceLE, implies_true, reduceCtorEq, if_true, if_false, go_sem, reduceEqDiff, Nat.reduceLT, reduceAdd, reduceSub, reduceLeDiff, reduceReplicate, reduceToNat]
  have htk : (l.drop 3).take 13 = l.drop 3 := qX _ (by simp; omega)
  rw [htk]
  have : roomy ((l.drop 3).length + 1 + 1) := by unfold roomy; simp; omega
  exact ⟨this, this, aH rfl rfl⟩
def jE.C : aE
  | [.agg [.int .i64 a, .str k, .str v, .int .i64 c]] => some (false, pD (Rc.ok ⟨a, k, v, c⟩) (.arr (.ints .i64 (jH ⟨a, k, v, c⟩))))
  | _ => none
theorem jE.spec : bO Tryz.prog 101 jE.C := by
  refine bO.of (bQ (F := [(117, fS.C), (118, gH.C)]) (S := []) (by simpa using ⟨fS.spec, gH.spec⟩) (by simp) jE.loops) jE.at jE.nm jE.bd ?_
  intro vs b S v news e hS
  unfold jE.C at e
  split at e
  rotate_left
  · cases e
  cases e
  rw [jE.eq]
  unfold jE.H
  simp (maxSteps := 4000000) only [go_sem, reduceEqDiff, Nat.reduceLT, reduceAdd, reduceSub, reduceLeDiff, reduceReplicate, reduceToNat, fS.C, gH.C]
  rename_i a k v c
  have hok := hS
  have hk := pI hS.key
  have hkl : (keyW k).length = (k.length + 6) / 7 := vV k
  have hvl : (keyW v).length = (v.length + 6) / 7 := vV v
  have q1 := hS.key
  have q2 := hS.val
  simp only at q1 q2 hk
  have e1 : IntKind.i64.wrap (IntKind.i64.wrap (32 * (List.length k : Int)) + (List.length v : Int)) = nF ⟨a, k, v, c⟩ := by
    rw [w64 (n := 32 * (List.length k : Int)) (by omega) (by omega), w64 (by omega) (by omega)]; rfl
  rw [e1]
  generalize hm : nF ⟨a, k, v, c⟩ = m at *
  have pad : ∀ (t : List Int), t.length ≤ 3 → t.take 13 ++ List.take (16 - (3 + min 13 t.length)) (List.drop (3 + min 13 t.length) [a, m, 0, 0, 0, 0, 0, 0, 0, 0, 0, 0, 0, 0, 0, 0]) = t ++ List.replicate (13 - t.length) 0 := by
    intro t ht
    rw [qX t (by omega), Nat.min_eq_right (by omega)]
    congr 1
    have : ∀ n, n ≤ 3 → List.take (16 - (3 + n)) (List.drop (3 + n) [a, m, 0, 0, 0, 0, 0, 0, 0, 0, 0, 0, 0, 0, 0, 0]) = List.replicate (13 - n) 0 := by
      intro n hn
      rcases n with _|_|_|_|n <;> first | rfl | omega
    exact this _ ht
  have hkl3 : (keyW k).length ≤ 3 := by omega
  have hvl3 : (keyW v).length ≤ 3 := by omega
  rw [pad _ hkl3]
  have hL : (keyW k ++ List.replicate (13 - (keyW k).length) 0).length = 13 := by simp; omega
  simp only [hL, fS.C, aA, gq, reduceEq, reduceLT, reduceLE, implies_true, reduceCtorEq, if_true, if_false, go_sem, reduceEqDiff, Nat.reduceLT, reduceAdd, reduceSub, reduceLeDiff, reduceReplicate, reduceToNat]
  have hZ : List.take 3 (keyW k ++ List.replicate (13 - (keyW k).length) 0) = kD k := by
    unfold kD
    rw [List.take_append, qX (keyW k) hkl3, List.take_replicate, Nat.min_eq_left (by omega)]
  have hT : List.take 10 (keyW v) ++ List.take (16 - (6 + min 10 (keyW v).length)) (List.drop (6 + min 10 (keyW v).length) (a :: m :: 0 :: (keyW k ++ List.replicate (13 - (keyW k).length) 0))) = keyW v ++ List.replicate (10 - (keyW v).length) 0 := by
    rw [qX (keyW v) (by omega), Nat.min_eq_right (by omega)]
    congr 1
    rw [show 6 + (keyW v).length = (3 + (keyW v).length) + 1 + 1 + 1 from by omega, List.drop_succ_cons, List.drop_succ_cons, List.drop_succ_cons, List.drop_append, List.drop_eq_nil_of_le (by omega), List.nil_append, List.drop_replicate, List.take_replicate]
    congr 1; omega
  rw [hZ, hT]
  have hlen : (kD k ++ (keyW v ++ List.replicate (10 - (keyW v).length) 0)).length = 13 := by simp [hk]; omega
  have hr1 : a ≠ 2 → kD k ++ (keyW v ++ List.replicate (10 - (keyW v).length) 0) = wO ⟨a, k, v, c⟩ := by
    intro h
    unfold wO
    simp only [if_neg h]
    congr 1
    unfold kD
    rw [List.append_assoc, List.replicate_append_replicate]
    congr 2; omega
  have hr2 : a = 2 → (kD k ++ (keyW v ++ List.replicate (10 - (keyW v).length) 0)).set 3 c = wO ⟨a, k, v, c⟩ := by
    intro h
    have hv0 : v = [] := by
      rcases hok with h' | h'
      · have := h'.1; simp only at this; omega
      · exact h'.2.2.1
    subst hv0
    unfold wO
    simp only [if_pos h]
    rw [List.set_append_right _ _ (by omega), hk]
    rfl
  have hmr : m = nF ⟨a, k, v, c⟩ := hm.symm
  simp only [hlen, gH.C, aA, gq, reduceEq, reduceLT, reduceLE, implies_true, reduceCtorEq, if_true, if_false, go_sem, reduceEqDiff, Nat.reduceLT, reduceAdd, reduceSub, reduceLeDiff, reduceReplicate, reduceToNat]
  have hd3 : ∀ R : List Int, List.drop 3 (a :: m :: 0 :: R) = R := fun R => rfl
  refine ⟨by unfold roomy; omega, by unfold roomy; omega, fun h2 => ?_, fun h2 => ?_⟩
  · rw [hr2 h2, hd3, hmr]; exact aH rfl rfl
  · rw [hr1 h2, hd3, hmr]; exact aH rfl rfl
def iO.C : aE
  | [.arr (.ints .i64 l), .int .i64 a, .int .i64 n] => some (false, pD (l.length = 16 ∧ 0 ≤ a ∧ a ≤ 6) (.tup [.str (txtS l a.toNat n), .bool (txtB l a.toNat n)]))
  | _ => none
theorem iO.spec : bO Tryz.prog 99 iO.C := by
  refine bO.of (bQ (F := [(115, eS.C)]) (S := []) (by simpa using eS.spec) (by simp) iO.loops) iO.at iO.nm iO.bd ?_
  intro vs b S v news e hS
  unfold iO.C at e
  split at e
  rotate_left
  · cases e
  cases e
  rw [iO.eq]
  unfold iO.H
  simp (maxSteps := 4000000) only [go_sem, reduceEqDiff, Nat.reduceLT, reduceAdd, reduceSub, reduceLeDiff, reduceReplicate, reduceToNat, eS.C]
  rename_i l a n
  obtain ⟨hl, ha0, ha6⟩ := hS
  have eg : (decide (n < 0) || decide (21 < n)) = !(decide (0 ≤ n) && decide (n ≤ 21)) := by
    rw [Bool.eq_iff_iff]; simp only [Bool.or_eq_true, Bool.not_eq_true', Bool.and_eq_false_iff, decide_eq_true_eq, decide_eq_false_iff_not]; omega
  rw [eg]
  refine ⟨hl, fun h => ?_, fun h => ?_⟩
  · have hb : txtB l a.toNat n = false := by
      unfold txtB; rw [Bool.not_eq_true'] at h; rw [h]; rfl
    unfold txtS
    rw [hb]; exact aH rfl rfl
  · rw [Bool.not_eq_false'] at h
    have h' := h
    simp only [Bool.and_eq_true, decide_eq_true_eq] at h'
    obtain ⟨N, rfl⟩ := Int.eq_ofNat_of_zero_le h'.1
    obtain ⟨A, rfl⟩ := Int.eq_ofNat_of_zero_le ha0
    have hN : N ≤ 21 := by omega
    have q0 : (N + 6) / 7 ≤ 3 := by omega
    have e1 : IntKind.i64.wrap ((N : Int) + 6) = ((N + 6 : Nat) : Int) := by rw [w64 (by omega) (by omega)]; omega
    have e2 : IntKind.i64.wrap (((N + 6 : Nat) : Int).tdiv 7) = (((N + 6) / 7 : Nat) : Int) := by
      rw [Int.tdiv_eq_ediv_of_nonneg (by omega), w64 (by omega) (by omega)]; omega
    have e3 : IntKind.i64.wrap ((A : Int) + (((N + 6) / 7 : Nat) : Int)) = ((A + (N + 6) / 7 : Nat) : Int) := by rw [w64 (by omega) (by omega)]; omega
    have e4 : A + (N + 6) / 7 - A = (N + 6) / 7 := by omega
    rw [e1, e2, e3]
    simp only [hl, Int.toNat_natCast, e4, eS.C, aA, gq, reduceEq, reduceLT, reduceLE, implies_true, reduceCtorEq, if_true, if_false, go_sem, reduceEqDiff, Nat.reduceLT, reduceAdd, reduceSub, reduceLeDiff, reduceReplicate, reduceToNat]
    have hbt : txtB l A (N : Int) = nX ((l.drop A).take ((N + 6) / 7)) N := by
      unfold txtB
      rw [Int.toNat_natCast, h, Bool.true_and]
    have hst : txtS l A (N : Int) = if nX ((l.drop A).take ((N + 6) / 7)) N = true then wN ((l.drop A).take ((N + 6) / 7)) N else [] := by
      unfold txtS
      rw [hbt, Int.toNat_natCast]
    have hw : roomy (7 * (List.take ((N + 6) / 7) (List.drop A l)).length) := by rw [List.length_take]; unfold roomy; omega
    rw [hst, hbt]
    unfold aBl
    refine ⟨by omega, ⟨hw, by omega⟩, ?_⟩
    cases nX ((l.drop A).take ((N + 6) / 7)) N
    · simp only [aA, gq, reduceEq, reduceLT, reduceLE, implies_true, reduceCtorEq, if_true, if_false, go_sem, reduceEqDiff, Nat.reduceLT, reduceAdd, reduceSub, reduceLeDiff, reduceReplicate, reduceToNat]; exact aH rfl rfl
    · simp only [aA, gq, reduceEq, reduceLT, reduceLE, implies_true, reduceCtorEq, if_true, if_false, go_sem, reduceEqDiff, Nat.reduceLT, reduceAdd, reduceSub, reduceLeDiff, reduceReplicate, reduceToNat]; exact aH rfl rfl
def pK (words : List Int) (at_ : Int) : AV := if (decide (at_ < 0) || decide (((words.length / 16 : Nat) : Int) ≤ at_)) = true then .tup [kI.V, .int .i64 1] else match wP (kX words at_.toNat) with
  | some n => .tup [n.V, .int .i64 0]
  | none => .tup [kI.V, .int .i64 70]
def pW (w : List Int) : Rc := ⟨w.getD 0 0, txtS w 3 (IntKind.i64.wrap ((w.getD 1 0).tdiv 32)), if w.getD 0 0 = 1 then txtS w 6 ((w.getD 1 0).tmod 32) else [], if w.getD 0 0 = 2 then w.getD 6 0 else 0⟩
theorem aGB {x : Rc} (h : x.ok) : IntKind.i64.wrap ((nF x).tdiv 32) = x.key.length ∧ (nF x).tmod 32 = x.val.length := by
  have hl := aAH h
  rw [Int.tdiv_eq_ediv_of_nonneg hl.2.2.1, Int.tmod_eq_emod_of_nonneg hl.2.2.1, w64 (by omega) (by omega)]
  exact ⟨hl.1, hl.2.1⟩
theorem aJq {x : Rc} (h : x.ok) : pW (jH x) = x := by
  have hd := aEO h
  have e1 : (jH x).getD 1 0 = nF x := rfl
  have hl := aAH h
  have hp := aGB h
  unfold decC at hd
  unfold pW
  rw [e1, hl.1, hl.2.1] at hd
  rw [e1, hp.1, hp.2]; exact hd
theorem aDX (w : List Int) : pV pW w = wP w := aLJ (fun n h => aJq h) (fun n h => aEO h) w
theorem aNV {w : List Int} (h : txtB w 3 (IntKind.i64.wrap ((w.getD 1 0).tdiv 32)) = false) : wP w = none := by
  apply aDr
  rintro x hx rfl
  have e1 : (jH x).getD 1 0 = nF x := rfl
  rw [e1, (aGB hx).1, (aGr hx).1] at h
  cases h
theorem aNW {w : List Int} (h1 : w.getD 0 0 = 1) (h : txtB w 6 ((w.getD 1 0).tmod 32) = false) : wP w = none := by
  apply aDr
  rintro x hx rfl
  have e1 : (jH x).getD 1 0 = nF x := rfl
  rw [e1, (aGB hx).2, (aGs hx h1).1] at h
  cases h
def dZ.C : aE
  | [.sl _ (.ints .i64 l), .int .i64 k] => some (false, pD (roomy l.length) (pK l k))
  | _ => none
theorem dZ.spec : bO Tryz.prog 79 dZ.C := by
  refine bO.of (bQ (F := [(99, iO.C), (100, fI.C), (101, jE.C)]) (S := []) (by simpa using ⟨iO.spec, fI.spec, jE.spec⟩) (by simp) dZ.loops) dZ.at dZ.nm dZ.bd ?_
  intro vs b S v news e hS
  unfold dZ.C at e
  split at e
  rotate_left
  · cases e
  cases e
  rw [dZ.eq]
  unfold dZ.H
  simp (maxSteps := 4000000) only [go_sem, reduceEqDiff, Nat.reduceLT, reduceAdd, reduceSub, reduceLeDiff, reduceReplicate, reduceToNat, iO.C, fI.C, jE.C]
  rename_i l k
  have hrl := hS
  unfold roomy at hS
  have e0 : IntKind.i64.wrap ((l.length : Int).tdiv 16) = ((l.length / 16 : Nat) : Int) := by
    rw [Int.tdiv_eq_ediv_of_nonneg (by omega)]; exact w64 (by omega) (by omega)
  rw [e0]
  unfold pK
  refine ⟨fun _ => by decide, fun h => ?_, fun h => ?_⟩
  · rw [if_pos h]
    refine aH ?_ rfl
    simp only [kI, go_sem, reduceEqDiff, Nat.reduceLT, reduceAdd, reduceSub, reduceLeDiff, reduceReplicate, reduceToNat]
  · rw [h]
    simp only [Bool.or_eq_false_iff, decide_eq_false_iff_not] at h
    obtain ⟨k, rfl⟩ := Int.eq_ofNat_of_zero_le (show 0 ≤ k by omega)
    have hk : 16 * k + 16 ≤ l.length := by omega
    have e1 : IntKind.i64.wrap (16 * (k : Int)) = 16 * (k : Int) := w64 (by omega) (by omega)
    have e5 : (16 * (k : Int)).toNat = 16 * k := by omega
    have hdl : (l.drop (16 * k)).length = l.length - 16 * k := by simp
    have et : (l.drop (16 * k)).take (l.length - 16 * k) = l.drop (16 * k) := qX _ (by omega)
    have hbl : (kX l k).length = 16 := by unfold kX; simp; omega
    rw [e1, e5, et, hdl, Nat.min_eq_left (by omega)]
    have ew : (l.drop (16 * k)).take 16 ++ List.take (16 - 16) (List.drop 16 [0, 0, 0, 0, 0, 0, 0, 0, 0, 0, 0, 0, 0, 0, 0, 0]) = kX l k := by
      show (l.drop (16 * k)).take 16 ++ [] = _
      rw [List.append_nil]; rfl
    rw [ew, Int.toNat_natCast]
    generalize kX l k = w at *
    have hV : (pW w).V = .agg [.int .i64 (w.getD 0 0), .str (txtS w 3 (IntKind.i64.wrap ((w.getD 1 0).tdiv 32))), .str (if w.getD 0 0 = 1 then txtS w 6 ((w.getD 1 0).tmod 32) else []), .int .i64 (if w.getD 0 0 = 2 then w.getD 6 0 else 0)] := rfl
    simp only [hbl, iO.C, aA, gq, reduceEq, reduceLT, reduceLE, implies_true, reduceCtorEq, if_true, if_false, go_sem, reduceEqDiff, Nat.reduceLT, reduceAdd, reduceSub, reduceLeDiff, reduceReplicate, reduceToNat]
    refine ⟨by omega, fun hT => ?_, fun hT => ⟨fun h1 => ?_, fun h1 => ⟨fun h2 => ?_, fun h2 => ?_⟩⟩⟩
    · rw [aNV hT]
      refine aH ?_ rfl
      simp only [kI, go_sem, reduceEqDiff, Nat.reduceLT, reduceAdd, reduceSub, reduceLeDiff, reduceReplicate, reduceToNat]
    · have hd1 : (⟨w.getD 0 0, txtS w 3 (IntKind.i64.wrap ((w.getD 1 0).tdiv 32)), txtS w 6 ((w.getD 1 0).tmod 32), 0⟩ : Rc) = pW w := by
        unfold pW; rw [if_pos h1, if_neg (by omega)]
      cases h6 : txtB w 6 ((w.getD 1 0).tmod 32) with
      | false =>
        simp only [Bool.not_false, aGl]
        rw [aNW h1 h6]
        refine aH ?_ rfl
        simp only [kI, go_sem, reduceEqDiff, Nat.reduceLT, reduceAdd, reduceSub, reduceLeDiff, reduceReplicate, reduceToNat]
      | true =>
        rw [← aDX]
        unfold pV
        cases hb : recB (pW w) with
        | false =>
          simp only [fI.C, hd1, hb, Bool.false_and, Bool.false_eq_true, if_false, aA, gq, reduceEq, reduceLT, reduceLE, implies_true, reduceCtorEq, if_true, if_false, go_sem, reduceEqDiff, Nat.reduceLT, reduceAdd, reduceSub, reduceLeDiff, reduceReplicate, reduceToNat]
          refine aH ?_ rfl
          simp only [kI, go_sem, reduceEqDiff, Nat.reduceLT, reduceAdd, reduceSub, reduceLeDiff, reduceReplicate, reduceToNat]
        | true =>
          have hok := xW.1 hb
          have hfl := aCg hok
          simp only [fI.C, jE.C, hd1, hb, hfl, hbl, Bool.true_and, aA, gq, reduceEq, reduceLT, reduceLE, implies_true, reduceCtorEq, if_true, if_false, go_sem, reduceEqDiff, Nat.reduceLT, reduceAdd, reduceSub, reduceLeDiff, reduceReplicate, reduceToNat]
          refine ⟨hok, fun h => ?_, fun h => ?_⟩
          · rw [if_neg h]
            refine aH ?_ rfl
            simp only [kI, go_sem, reduceEqDiff, Nat.reduceLT, reduceAdd, reduceSub, reduceLeDiff, reduceReplicate, reduceToNat]
          · rw [if_pos h, ← hd1]
            exact aH rfl rfl
    · have hd1 : (⟨w.getD 0 0, txtS w 3 (IntKind.i64.wrap ((w.getD 1 0).tdiv 32)), [], w.getD 6 0⟩ : Rc) = pW w := by
        unfold pW; rw [if_neg (by omega), if_pos h2]
      rw [← aDX]
      unfold pV
      cases hb : recB (pW w) with
      | false =>
        simp only [hT, fI.C, hd1, hb, Bool.false_and, Bool.false_eq_true, if_false, aA, gq, reduceEq, reduceLT, reduceLE, implies_true, reduceCtorEq, if_true, if_false, go_sem, reduceEqDiff, Nat.reduceLT, reduceAdd, reduceSub, reduceLeDiff, reduceReplicate, reduceToNat]
        refine aH ?_ rfl
        simp only [kI, go_sem, reduceEqDiff, Nat.reduceLT, reduceAdd, reduceSub, reduceLeDiff, reduceReplicate, reduceToNat]
      | true =>
        have hok := xW.1 hb
        have hfl := aCg hok
        simp only [hT, fI.C, jE.C, hd1, hb, hfl, hbl, Bool.true_and, aA, gq, reduceEq, reduceLT, reduceLE, implies_true, reduceCtorEq, if_true, if_false, go_sem, reduceEqDiff, Nat.reduceLT, reduceAdd, reduceSub, reduceLeDiff, reduceReplicate, reduceToNat]
        refine ⟨hok, fun h => ?_, fun h => ?_⟩
        · rw [if_neg h]
          refine aH ?_ rfl
          simp only [kI, go_sem, reduceEqDiff, Nat.reduceLT, reduceAdd, reduceSub, reduceLeDiff, reduceReplicate, reduceToNat]
        · rw [if_pos h, ← hd1]
          exact aH rfl rfl
    · have hd1 : (⟨w.getD 0 0, txtS w 3 (IntKind.i64.wrap ((w.getD 1 0).tdiv 32)), [], 0⟩ : Rc) = pW w := by
        unfold pW; rw [if_neg (by omega), if_neg h2]
      rw [← aDX]
      unfold pV
      cases hb : recB (pW w) with
      | false =>
        simp only [hT, fI.C, hd1, hb, Bool.false_and, Bool.false_eq_true, if_false, aA, gq, reduceEq, reduceLT, reduceLE, implies_true, reduceCtorEq, if_true, if_false, go_sem, reduceEqDiff, Nat.reduceLT, reduceAdd, reduceSub, reduceLeDiff, reduceReplicate, reduceToNat]
        refine aH ?_ rfl
        simp only [kI, go_sem, reduceEqDiff, Nat.reduceLT, reduceAdd, reduceSub, reduceLeDiff, reduceReplicate, reduceToNat]
      | true =>
        have hok := xW.1 hb
        have hfl := aCg hok
        simp only [hT, fI.C, jE.C, hd1, hb, hfl, hbl, Bool.true_and, aA, gq, reduceEq, reduceLT, reduceLE, implies_true, reduceCtorEq, if_true, if_false, go_sem, reduceEqDiff, Nat.reduceLT, reduceAdd, reduceSub, reduceLeDiff, reduceReplicate, reduceToNat]
        refine ⟨hok, fun h => ?_, fun h => ?_⟩
        · rw [if_neg h]
          refine aH ?_ rfl
          simp only [kI, go_sem, reduceEqDiff, Nat.reduceLT, reduceAdd, reduceSub, reduceLeDiff, reduceReplicate, reduceToNat]
        · rw [if_pos h, ← hd1]
          exact aH rfl rfl
end Lam
namespace Lam
open Go Go.Proofs
def uU : AV := .iface 128 (.agg [])
theorem iV {w : List Int} {b : Int} {n : Nd} (h : dL w b = some n) : qP w b = .tup [n.V, .int .i64 0] := by
  unfold dL at h
  unfold qP
  split at h
  · cases h
  · rename_i hb; rw [if_neg hb, h]
theorem nZ {w : List Int} {b : Int} (h : dL w b = none) : ∃ e, e ≠ 0 ∧ qP w b = .tup [jO.V, .int .i64 e] := by
  unfold dL at h
  unfold qP
  split at h
  · rename_i hb; rw [if_pos hb]; exact ⟨1, by decide, rfl⟩
  · rename_i hb; rw [if_neg hb, h]; exact ⟨90, by decide, rfl⟩
theorem tC {w : List Int} {b : Int} {n : Rc} (h : recO w b = some n) : pK w b = .tup [n.V, .int .i64 0] := by
  unfold recO at h
  unfold pK
  split at h
  · cases h
  · rename_i hb; rw [if_neg hb, h]
theorem tD {w : List Int} {b : Int} (h : recO w b = none) : ∃ e, e ≠ 0 ∧ pK w b = .tup [kI.V, .int .i64 e] := by
  unfold recO at h
  unfold pK
  split at h
  · rename_i hb; rw [if_pos hb]; exact ⟨1, by decide, rfl⟩
  · rename_i hb; rw [if_neg hb, h]; exact ⟨70, by decide, rfl⟩
theorem nR {v pv : AV} {b : Bool} {news : List AObj} {h : List AObj} : aDi true pv b v news (.pan pv) h := rfl
theorem pL {ao : AOut} {pv v : AV} {b : Bool} {news : List AObj} {h : List AObj} (p : Post b v news ao h) : aDi false pv b v news ao h := p
def cG.J : JCon
  | [.bool b] => some (True, !b, uU, false, .tup [], [])
  | _ => none
abbrev cG.K : Con := Jcon cG.J
set_option maxHeartbeats 1000000 in
theorem cG.jspec : nE Tryz.prog 77 cG.J := by
  refine nE.of (bQ (F := []) (S := []) (by simp) (by simp) cG.loops) cG.at cG.nm cG.bd ?_ ?_
  · intro vs S pb pv b v news e
    unfold cG.J at e
    split at e
    rotate_left
    · cases e
    cases e
    rfl
  intro vs S pb pv b v news e hS
  unfold cG.J at e
  split at e
  rotate_left
  · cases e
  cases e
  rw [cG.eq]
  unfold cG.H
  simp (maxSteps := 4000000) only [go_sem, reduceEqDiff, Nat.reduceLT, reduceAdd, reduceSub, reduceLeDiff, reduceReplicate, reduceToNat]
  rename_i b
  rw [aA]
  exact ⟨fun h => by subst h; rfl, fun h => by subst h; exact pL (aH rfl rfl)⟩
def iH (w : List Int) : Prop := w.length ≤ 65536 ∧ i64s w
theorem iH.roomy {w : List Int} (h : iH w) : roomy w.length := by have := h.1; unfold Lam.roomy; omega
def cQ.J : JCon
  | [.sl _ (.ints .i64 w), .int .i64 b] => some (iH w, (dL w b).isNone, uU, false, ((dL w b).getD jO).V, [])
  | _ => none
abbrev cQ.K : Con := Jcon cQ.J
set_option maxHeartbeats 1000000 in
theorem cQ.jspec : nE Tryz.prog 75 cQ.J := by
  refine nE.of (bQ (F := [(46, cL.C)]) (S := [(77, cG.K)]) (by simpa using cL.spec) (by simpa using cG.jspec.con) cQ.loops) cQ.at cQ.nm cQ.bd ?_ ?_
  · intro vs S pb pv b v news e
    unfold cQ.J at e
    split at e
    rotate_left
    · cases e
    cases e
    rfl
  intro vs S pb pv b v news e hS
  unfold cQ.J at e
  split at e
  rotate_left
  · cases e
  cases e
  rw [cQ.eq]
  unfold cQ.H
  simp (maxSteps := 4000000) only [go_sem, reduceEqDiff, Nat.reduceLT, reduceAdd, reduceSub, reduceLeDiff, reduceReplicate, reduceToNat, cL.C, cG.K, cG.J]
  rename_i _ w b
  refine ⟨hS.roomy, ?_⟩
  cases hn : dL w b with
  | none =>
    obtain ⟨e, he, hr⟩ := nZ hn
    have hd : decide (e = 0) = false := decide_eq_false he
    simp only [hr, jO, cG.J, hd, aA, gq, reduceEq, reduceLT, reduceLE, implies_true, reduceCtorEq, if_true, if_false, go_sem, reduceEqDiff, Nat.reduceLT, reduceAdd, reduceSub, reduceLeDiff, reduceReplicate, reduceToNat]
    exact nR
  | some n =>
    simp only [iV hn, cG.J, aA, gq, reduceEq, reduceLT, reduceLE, implies_true, reduceCtorEq, if_true, if_false, go_sem, reduceEqDiff, Nat.reduceLT, reduceAdd, reduceSub, reduceLeDiff, reduceReplicate, reduceToNat]
    exact pL (aH rfl rfl)
def eL.J : JCon
  | [.sl _ (.ints .i64 w), .int .i64 b] => some (iH w, (recO w b).isNone, uU, false, .str ((recO w b).getD kI).key, [])
  | _ => none
abbrev eL.K : Con := Jcon eL.J
set_option maxHeartbeats 1000000 in
theorem eL.jspec : nE Tryz.prog 97 eL.J := by
  refine nE.of (bQ (F := [(79, dZ.C)]) (S := [(77, cG.K)]) (by simpa using dZ.spec) (by simpa using cG.jspec.con) eL.loops) eL.at eL.nm eL.bd ?_ ?_
  · intro vs S pb pv b v news e
    unfold eL.J at e
    split at e
    rotate_left
    · cases e
    cases e
    rfl
  intro vs S pb pv b v news e hS
  unfold eL.J at e
  split at e
  rotate_left
  · cases e
  cases e
  rw [eL.eq]
  unfold eL.H
  simp (maxSteps := 4000000) only [go_sem, reduceEqDiff, Nat.reduceLT, reduceAdd, reduceSub, reduceLeDiff, reduceReplicate, reduceToNat, dZ.C, cG.K, cG.J]
  rename_i _ w b
  refine ⟨hS.roomy, ?_⟩
  cases hn : recO w b with
  | none =>
    obtain ⟨e, he, hr⟩ := tD hn
    have hd : decide (e = 0) = false := decide_eq_false he
    simp only [hr, kI, cG.J, hd, aA, gq, reduceEq, reduceLT, reduceLE, implies_true, reduceCtorEq, if_true, if_false, go_sem, reduceEqDiff, Nat.reduceLT, reduceAdd, reduceSub, reduceLeDiff, reduceReplicate, reduceToNat]
    exact nR
  | some n =>
    simp only [tC hn, cG.J, aA, gq, reduceEq, reduceLT, reduceLE, implies_true, reduceCtorEq, if_true, if_false, go_sem, reduceEqDiff, Nat.reduceLT, reduceAdd, reduceSub, reduceLeDiff, reduceReplicate, reduceToNat]
    exact pL (aH rfl rfl)
def dJ.J : JCon
  | [.sl _ (.ints .i64 w), .agg [.int .i64 a, .int .i64 b, .int .i64 c, .int .i64 d, .sl _ (.ints .i64 l)]] => some (iH w, (lowO w ⟨a, b, c, d, l⟩).isNone, uU, false, .str ((lowO w ⟨a, b, c, d, l⟩).getD []), [])
  | _ => none
abbrev dJ.K : Con := Jcon dJ.J
set_option maxHeartbeats 1000000 in
theorem dJ.jspec : nE Tryz.prog 76 dJ.J := by
  refine nE.of (bQ (F := []) (S := [(97, eL.K)]) (by simp) (by simpa using eL.jspec.con) dJ.loops) dJ.at dJ.nm dJ.bd ?_ ?_
  · intro vs S pb pv b v news e
    unfold dJ.J at e
    split at e
    rotate_left
    · cases e
    cases e
    rfl
  intro vs S pb pv b v news e hS
  unfold dJ.J at e
  split at e
  rotate_left
  · cases e
  cases e
  rw [dJ.eq]
  unfold dJ.H
  simp (maxSteps := 4000000) only [go_sem, reduceEqDiff, Nat.reduceLT, reduceAdd, reduceSub, reduceLeDiff, reduceReplicate, reduceToNat, eL.K, eL.J]
  rename_i _ w a b c d _ l
  refine ⟨fun h => ?_, fun h => ⟨hS, fun hp => ?_, fun hp => ?_⟩⟩
  · have : lowO w ⟨a, b, c, d, l⟩ = some [] := by unfold lowO; rw [if_pos h]
    rw [this]; exact pL (aH rfl rfl)
  · have : lowO w ⟨a, b, c, d, l⟩ = none := by
      unfold lowO; rw [if_neg h]
      rw [Option.isNone_iff_eq_none] at hp
      simp only [hp]; rfl
    rw [this]; exact nR
  · obtain ⟨x, hx⟩ : ∃ x, recO w d = some x := by cases hr : recO w d with
      | none => rw [hr] at hp; cases hp
      | some x => exact ⟨x, rfl⟩
    have : lowO w ⟨a, b, c, d, l⟩ = some x.key := by
      unfold lowO; rw [if_neg h]
      simp only [hx]; rfl
    rw [this, hx]; exact pL (aH rfl rfl)
def dI.J : JCon
  | [.sl _ (.ints .i64 w)] => some (iH w, (lG (eV w) w).isNone, uU, true, .sref false 0 0 0 ((lG (eV w) w).getD []).length, [.row .own 0 (.ints .i64 ((lG (eV w) w).getD []))])
  | _ => none
abbrev dI.K : Con := Jcon dI.J
set_option maxHeartbeats 1000000 in
theorem dI.jspec : nE Tryz.prog 50 dI.J := by
  refine nE.of (bQ (F := [(38, eE.C), (83, cC.C)]) (S := [(77, cG.K), (75, cQ.K)]) (by simpa using ⟨eE.spec, cC.spec⟩) (by simpa using ⟨cG.jspec.con, cQ.jspec.con⟩) dI.loops) dI.at dI.nm dI.bd ?_ ?_
  · intro vs S pb pv b v news e
    unfold dI.J at e
    split at e
    rotate_left
    · cases e
    cases e
    rfl
  intro vs S pb pv b v news e hS
  unfold dI.J at e
  split at e
  rotate_left
  · cases e
  cases e
  rw [dI.eq]
  unfold dI.H
  simp (maxSteps := 4000000) only [go_sem, reduceEqDiff, Nat.reduceLT, reduceAdd, reduceSub, reduceLeDiff, reduceReplicate, reduceToNat, eE.C, cC.C, cG.K, cG.J, cQ.K, cQ.J]
  rename_i _ w
  refine ⟨hS.roomy, ?_⟩
  cases hb : eV w with
  | false =>
    have hr : kU w = .tup [.int .i64 0, .int .i64 0, .int .i64 80] := by unfold kU; rw [hb]; rfl
    simp only [hr, cG.J, aA, gq, reduceEq, reduceLT, reduceLE, implies_true, reduceCtorEq, if_true, if_false, go_sem, reduceEqDiff, Nat.reduceLT, reduceAdd, reduceSub, reduceLeDiff, reduceReplicate, reduceToNat]
    exact nR
  | true =>
    have hr : kU w = .tup [.int .i64 (w.getD 1 0), .int .i64 (w.getD 3 0), .int .i64 0] := by unfold kU; rw [hb]; rfl
    simp only [hr, cG.J, aA, gq, reduceEq, reduceLT, reduceLE, implies_true, reduceCtorEq, if_true, if_false, go_sem, reduceEqDiff, Nat.reduceLT, reduceAdd, reduceSub, reduceLeDiff, reduceReplicate, reduceToNat]
    unfold dI.L1
    have h16 : w.length ≤ 65536 := hS.1
    refine pU (σ := List Int × Int) (fun s => .sref false 0 s.1.length 0 s.1.length) (fun s => .int .i64 s.2) (fun s => [.row .own s.1.length (.ints .i64 s.1)]) (fun s => w.length / 16 + 1 - s.1.length)
      (fun s => s.1.Nodup ∧ (∀ x ∈ s.1, 0 ≤ x ∧ x < ((w.length / 16 : Nat) : Int)) ∧ tS w (w.length / 16 + 1 - s.1.length) s.2 s.1 = lG true w) ([], 1) rfl rfl ⟨List.nodup_nil, by simp, rfl⟩ ?_
    rintro I back ⟨out, at_⟩ ⟨hnd, hrg, hch⟩
    simp only at hnd hrg hch ⊢
    have hpg := aGu hnd hrg
    have hro : roomy out.length := by unfold roomy; omega
    obtain ⟨m, hm⟩ : ∃ m, w.length / 16 + 1 - out.length = m + 1 := ⟨w.length / 16 - out.length, by omega⟩
    rw [hm] at hch
    simp only [tS] at hch
    simp only [cQ.J, cG.J, cC.C, go_sem, reduceEqDiff, Nat.reduceLT, reduceAdd, reduceSub, reduceLeDiff, reduceReplicate, reduceToNat]
    refine ⟨fun h0 => ⟨hS, fun hp => ?_, fun hp => ?_⟩, fun h0 => ?_⟩
    · rw [if_neg h0] at hch
      rw [Option.isNone_iff_eq_none] at hp
      rw [hp] at hch
      rw [← hch]; exact nR
    · obtain ⟨n, hn⟩ : ∃ n, dL w at_ = some n := by
        cases hr : dL w at_ with
        | none => rw [hr] at hp; cases hp
        | some x => exact ⟨x, rfl⟩
      rw [if_neg h0, hn] at hch
      simp only [hn, Option.getD_some] at hch ⊢
      obtain ⟨_, hn0, hn1, _⟩ := lW hn
      refine ⟨fun _ => hro, fun hc => ?_, fun hc => ?_⟩
      · rw [if_neg] at hch
        · rw [← hch]; exact nR
        · rintro ⟨h1, h2⟩
          rw [decide_eq_true h1, decide_eq_false h2] at hc
          cases hc
      · simp only [Bool.and_eq_true, decide_eq_true_eq, Bool.not_eq_true', decide_eq_false_iff_not] at hc
        rw [if_pos hc] at hch
        have hl1 : (out ++ [at_]).length = out.length + 1 := by simp
        have em : w.length / 16 + 1 - (out.length + 1) = m := by omega
        refine ⟨by unfold roomy; omega, rfl, back (out ++ [at_], n.next) (by simp only [hl1]; omega) (by simp only [hl1]) (by simp only [hl1]) ⟨?_, ?_, ?_⟩⟩
        · rw [List.nodup_append]
          refine ⟨hnd, by simp, fun a ha b hb' => ?_⟩
          simp only [List.mem_singleton] at hb'
          subst hb'
          rintro rfl
          exact hc.2 ha
        · intro x hx
          simp only [List.mem_append, List.mem_singleton] at hx
          rcases hx with hx | rfl
          · exact hrg x hx
          · exact ⟨hn0, hn1⟩
        · simp only [hl1, em]; exact hch
    · rw [if_pos h0] at hch
      rw [← hch]
      exact pL (yV rfl (by decide))
def eC.J : JCon
  | [.sl _ (.ints .i64 w)] => some (iH w, (jD (eV w) w).isNone, uU, true, .sref false 0 0 0 ((jD (eV w) w).getD []).length, [.row .own 0 (.ints .i64 ((jD (eV w) w).getD []))])
  | _ => none
abbrev eC.K : Con := Jcon eC.J
set_option maxHeartbeats 1000000 in
theorem eC.jspec : nE Tryz.prog 45 eC.J := by
  refine nE.of (bQ (F := [(79, dZ.C), (78, eK.C)]) (S := [(77, cG.K), (75, cQ.K), (76, dJ.K), (50, dI.K)]) (by simpa using ⟨dZ.spec, eK.spec⟩) (by simpa using ⟨cG.jspec.con, cQ.jspec.con, dJ.jspec.con, dI.jspec.con⟩) eC.loops) eC.at eC.nm eC.bd ?_ ?_
  · intro vs S pb pv b v news e
    unfold eC.J at e
    split at e
    rotate_left
    · cases e
    cases e
    rfl
  intro vs S pb pv b v news e hS
  unfold eC.J at e
  split at e
  rotate_left
  · cases e
  cases e
  rw [eC.eq]
  unfold eC.H
  simp (maxSteps := 4000000) only [go_sem, reduceEqDiff, Nat.reduceLT, reduceAdd, reduceSub, reduceLeDiff, reduceReplicate, reduceToNat, dZ.C, eK.C, cG.K, cG.J, cQ.K, cQ.J, dJ.K, dJ.J, dI.K, dI.J]
  rename_i _ w
  refine ⟨hS, fun hp => ?_, fun hp => ?_⟩
  · rw [Option.isNone_iff_eq_none] at hp
    have : jD (eV w) w = none := by unfold jD; rw [hp]
    rw [this]; exact nR
  obtain ⟨l, hl⟩ : ∃ l, lG (eV w) w = some l := by
    cases hr : lG (eV w) w with
    | none => rw [hr] at hp; cases hp
    | some x => exact ⟨x, rfl⟩
  have hlook : jD (eV w) w = if lL w l 0 [] = true then some l else none := by unfold jD; rw [hl]
  have bad : lL w l 0 [] = false → jD (eV w) w = none := fun h => by rw [hlook, h]; rfl
  have hll : l.length ≤ 65536 := by have := (oL hl).2.2.2.1; have := hS.1; omega
  simp only [hl, Option.getD_some, aA]
  unfold eC.L1
  refine pU (σ := bE × Nat) (fun s => .str s.1) (fun s => .int .i64 s.2) (fun s => [.row .own 0 (.ints .i64 l)]) (fun s => l.length - s.2) (fun s => s.2 ≤ l.length ∧ lL w (l.drop s.2) s.2 s.1 = lL w l 0 []) ([], 0) rfl rfl ⟨Nat.zero_le _, by simp⟩ ?_
  rintro I back ⟨last, k⟩ ⟨hk, hlv⟩
  simp only at hk hlv ⊢
  have hout : ¬ (k : Int) < (l.length : Int) → aDi (jD (eV w) w).isNone uU true (.sref false 0 0 0 ((jD (eV w) w).getD []).length) [.row .own 0 (.ints .i64 ((jD (eV w) w).getD []))] (.ret (.sref false 0 0 0 l.length)) [.row .own 0 (.ints .i64 l)] := by
    intro h
    obtain rfl : k = l.length := by omega
    rw [List.drop_length] at hlv
    have : jD (eV w) w = some l := by rw [hlook, ← hlv]; rfl
    rw [this]
    exact pL (yV rfl (by decide))
  have hlf : k < l.length → lL w l 0 [] = match nG w k last (l.getD k 0) with
      | none => false
      | some low => lL w (l.drop (k + 1)) (k + 1) low := by
    intro h
    rw [← hlv, wL l k 0 h]; rfl
  have hpan : k < l.length → nG w k last (l.getD k 0) = none → ∀ h', aDi (jD (eV w) w).isNone uU true (.sref false 0 0 0 ((jD (eV w) w).getD []).length) [.row .own 0 (.ints .i64 ((jD (eV w) w).getD []))] (.pan uU) h' := by
    intro h h2 h'
    rw [bad (by rw [hlf h, h2])]; exact nR
  have hk0 : decide ((k : Int) = 0) = decide (k = 0) := decide_eq_decide.2 (by omega)
  have hk1 : decide (0 < (k : Int)) = decide (0 < k) := decide_eq_decide.2 (by omega)
  cases hn : dL w (l.getD k 0) with
  | none =>
    simp only [cQ.J, cG.J, dJ.J, eK.C, hn, Option.isNone_none, go_sem, reduceEqDiff, Nat.reduceLT, reduceAdd, reduceSub, reduceLeDiff, reduceReplicate, reduceToNat]
    refine ⟨fun h => ?_, hout⟩
    rw [aA]
    exact ⟨by omega, by omega, hS, hpan (by omega) (by unfold nG; rw [hn]) _⟩
  | some n =>
    obtain ⟨n1, n2, n3, n4, n5⟩ := n
    have hok := (lW hn).1
    have hsl : n5.length ≤ 13 := hok.2.2.2.2.2.2.1
    have hrs : roomy n5.length := by unfold roomy; omega
    cases hw : lowO w ⟨n1, n2, n3, n4, n5⟩ with
    | none =>
      simp only [cQ.J, cG.J, dJ.J, eK.C, hn, hw, Option.isNone_none, Option.isNone_some, Option.getD_some, go_sem, reduceEqDiff, Nat.reduceLT, reduceAdd, reduceSub, reduceLeDiff, reduceReplicate, reduceToNat]
      refine ⟨fun h => ?_, hout⟩
      rw [aA]
      exact ⟨by omega, by omega, hS, hS, hpan (by omega) (by unfold nG; simp only [hn, hw]) _⟩
    | some low =>
      simp only [cQ.J, cG.J, dJ.J, eK.C, hn, hw, hk0, hk1, Option.isNone_some, Option.getD_some, go_sem, reduceEqDiff, Nat.reduceLT, reduceAdd, reduceSub, reduceLeDiff, reduceReplicate, reduceToNat]
      refine ⟨fun h => ?_, hout⟩
      rw [aA]
      refine ⟨by omega, by omega, hS, hS, fun hc => hpan (by omega) (by unfold nG; simp only [hn, hw, hc]; rfl) _, fun hc => ⟨hrs, ?_⟩⟩
      rw [aA]
      unfold eC.L2
      have hpl : (plain n5).length ≤ 13 := Nat.le_trans (wM n5) hsl
      refine pU (σ := bE × Nat) (fun s => .str s.1) (fun s => .int .i64 s.2) (fun s => [.row .own 0 (.ints .i64 l), .box (.agg [.int .i64 n1, .int .i64 n2, .int .i64 n3, .int .i64 n4, .sl false (.ints .i64 n5)])]) (fun s => (plain n5).length - s.2)
        (fun s => s.2 ≤ (plain n5).length ∧ lQ w low ((plain n5).drop s.2) s.2 s.1 = lQ w low (plain n5) 0 low) (low, 0) rfl rfl ⟨Nat.zero_le _, by simp⟩ ?_
      rintro I2 back2 ⟨last2, j⟩ ⟨hj, hsb⟩
      simp only at hj hsb ⊢
      have hlo : lQ w low (plain n5) 0 low = false → nG w k last (l.getD k 0) = none := fun hs => by
        unfold nG; simp only [hn, hw, hc, hs]; rfl
      have hso : j < (plain n5).length → lQ w low (plain n5) 0 low = match recO w ((plain n5).getD j 0) with
          | none => false
          | some x => decide (x.kind = 1) && !ltB x.key low && (decide (j = 0) || ltB last2 x.key) && lQ w low ((plain n5).drop (j + 1)) (j + 1) (if ltB last2 x.key then x.key else last2) := by
        intro h
        rw [← hsb, wL _ j 0 h]; rfl
      have hj0 : decide ((j : Int) = 0) = decide (j = 0) := decide_eq_decide.2 (by omega)
      have hout2 : ¬ (j : Int) < ((plain n5).length : Int) → ∃ m, m < l.length - k ∧ I m [.str low, .int .i64 (IntKind.i64.wrap ((k : Int) + 1))] [.row .own 0 (.ints .i64 l)] := by
        intro hge
        obtain rfl : j = (plain n5).length := by omega
        rw [List.drop_length] at hsb
        have hs1 : lQ w low (plain n5) 0 low = true := by rw [← hsb]; rfl
        have hlf' : nG w k last (l.getD k 0) = some low := by unfold nG; simp only [hn, hw, hc, hs1]; rfl
        refine back (low, k + 1) (by simp only; omega) (by simp only; rw [eQ (by omega)]) rfl ⟨by simp only; omega, ?_⟩
        simp only
        rw [hlf (by omega), hlf']
      cases hx : recO w ((plain n5).getD j 0) with
      | none =>
        obtain ⟨e, he, hr⟩ := tD hx
        have hd : decide (e = 0) = false := decide_eq_false he
        simp only [cG.J, dZ.C, hr, kI, hd, aA, gq, reduceEq, reduceLT, reduceLE, implies_true, reduceCtorEq, if_true, if_false, go_sem, reduceEqDiff, Nat.reduceLT, reduceAdd, reduceSub, reduceLeDiff, reduceReplicate, reduceToNat]
        exact ⟨fun h2 => ⟨⟨by omega, by omega⟩, hS.roomy, hpan (by omega) (hlo (by rw [hso (by omega), hx])) _⟩, hout2⟩
      | some x =>
        obtain ⟨x1, x2, x3, x4⟩ := x
        simp only [cG.J, dZ.C, tC hx, hj0, go_sem, reduceEqDiff, Nat.reduceLT, reduceAdd, reduceSub, reduceLeDiff, reduceReplicate, reduceToNat]
        refine ⟨fun h2 => ⟨⟨by omega, by omega⟩, hS.roomy, ?_⟩, hout2⟩
        refine ⟨fun h3 => hpan (by omega) (hlo ?_) _, fun h3 => ?_⟩
        · rw [hso (by omega), hx]
          simp only [h3, Bool.false_and]
        · refine back2 (if ltB last2 x2 = true then x2 else last2, j + 1) (by simp only; omega) (by simp only; rw [eQ (by omega)]) rfl ⟨by simp only; omega, ?_⟩
          simp only
          rw [hso (by omega), hx]
          simp only [h3, Bool.true_and]
theorem aBm {α : Type} {x : Option α} (h : x.isNone = false) : ∃ a, x = some a := by
  cases x with
  | none => cases h
  | some a => exact ⟨a, rfl⟩
def nL (w : List Int) : AV := match lG (eV w) w with
  | some l => .tup [.sl false (.ints .i64 l), .int .i64 0]
  | none => .tup [.sl false (.ints .i64 []), .int .i64 110]
def dY.C : aE
  | [.sl _ (.ints .i64 w)] => some (false, pD (iH w) (nL w))
  | _ => none
set_option maxHeartbeats 1000000 in
theorem dY.spec : bO Tryz.prog 24 dY.C := by
  refine bO.ofD (bQ (F := []) (S := [(50, dI.K)]) (by simp) (by simpa using dI.jspec.con) dY.loops) kL.tspec dY.at dY.nm dY.bd ?_
  intro vs b S v news e hS
  unfold dY.C at e
  split at e
  rotate_left
  · cases e
  cases e
  rw [dY.eq]
  unfold dY.H
  simp (maxSteps := 4000000) only [go_sem, reduceEqDiff, Nat.reduceLT, reduceAdd, reduceSub, reduceLeDiff, reduceReplicate, reduceToNat, dI.K, dI.J]
  rename_i _ w
  refine ⟨hS, fun hp => ⟨rfl, ?_⟩, fun hp => ?_⟩
  · rw [Option.isNone_iff_eq_none] at hp
    have : nL w = .tup [.sl false (.ints .i64 []), .int .i64 110] := by unfold nL; rw [hp]
    rw [this]; exact aH rfl rfl
  · obtain ⟨l, hl⟩ := aBm hp
    have : nL w = .tup [.sl false (.ints .i64 l), .int .i64 0] := by unfold nL; rw [hl]
    rw [this, hl]
    refine aH ?_ rfl
    simp only [Option.getD_some, go_sem, reduceEqDiff, Nat.reduceLT, reduceAdd, reduceSub, reduceLeDiff, reduceReplicate, reduceToNat]
def lowV (w : List Int) (b : Int) : AV := match (dL w b).bind (lowO w) with
  | some s => .tup [.str s, .int .i64 0]
  | none => .tup [.str [], .int .i64 110]
def dH.C : aE
  | [.sl _ (.ints .i64 w), .int .i64 b] => some (false, pD (iH w) (lowV w b))
  | _ => none
set_option maxHeartbeats 1000000 in
theorem dH.spec : bO Tryz.prog 47 dH.C := by
  refine bO.ofD (bQ (F := []) (S := [(75, cQ.K), (76, dJ.K)]) (by simp) (by simpa using ⟨cQ.jspec.con, dJ.jspec.con⟩) dH.loops) kL.tspec dH.at dH.nm dH.bd ?_
  intro vs b S v news e hS
  unfold dH.C at e
  split at e
  rotate_left
  · cases e
  cases e
  rw [dH.eq]
  unfold dH.H
  simp (maxSteps := 4000000) only [go_sem, reduceEqDiff, Nat.reduceLT, reduceAdd, reduceSub, reduceLeDiff, reduceReplicate, reduceToNat, cQ.K, cQ.J, dJ.K, dJ.J]
  rename_i _ w b
  have e0 : ∀ n : Nd, (⟨n.level, n.turn, n.next, n.low, n.slots⟩ : Nd) = n := fun n => rfl
  refine ⟨hS, fun hp => ⟨rfl, ?_⟩, fun hp => ⟨hS, ?_⟩⟩
  · rw [Option.isNone_iff_eq_none] at hp
    have : lowV w b = .tup [.str [], .int .i64 110] := by unfold lowV; rw [hp]; rfl
    rw [this]; exact aH rfl rfl
  · obtain ⟨n, hn⟩ := aBm hp
    simp only [hn, Option.getD_some, e0]
    refine ⟨fun hq => ⟨rfl, ?_⟩, fun hq => ?_⟩
    · rw [Option.isNone_iff_eq_none] at hq
      have : lowV w b = .tup [.str [], .int .i64 110] := by unfold lowV; rw [hn]; simp only [Option.bind_some, hq]
      rw [this]; exact aH rfl rfl
    · obtain ⟨s, hs⟩ := aBm hq
      have : lowV w b = .tup [.str s, .int .i64 0] := by unfold lowV; rw [hn]; simp only [Option.bind_some, hs]
      rw [this, hs]; exact aH rfl rfl
def sC (w : List Int) : Int := if (jD (eV w) w).isSome = true then 0 else 110
def fV.C : aE
  | [.sl _ (.ints .i64 w)] => some (false, pD (iH w) (.int .i64 (sC w)))
  | _ => none
set_option maxHeartbeats 1000000 in
theorem fV.spec : bO Tryz.prog 22 fV.C := by
  refine bO.ofD (bQ (F := []) (S := [(45, eC.K)]) (by simp) (by simpa using eC.jspec.con) fV.loops) kL.tspec fV.at fV.nm fV.bd ?_
  intro vs b S v news e hS
  unfold fV.C at e
  split at e
  rotate_left
  · cases e
  cases e
  rw [fV.eq]
  unfold fV.H
  simp (maxSteps := 4000000) only [go_sem, reduceEqDiff, Nat.reduceLT, reduceAdd, reduceSub, reduceLeDiff, reduceReplicate, reduceToNat, eC.K, eC.J]
  rename_i _ w
  refine ⟨hS, fun hp => ⟨rfl, ?_⟩, fun hp => ?_⟩
  · rw [Option.isNone_iff_eq_none] at hp
    have : sC w = 110 := by unfold sC; rw [hp]; rfl
    rw [this]; exact aH rfl rfl
  · obtain ⟨l, hl⟩ := aBm hp
    have : sC w = 0 := by unfold sC; rw [hl]; rfl
    rw [this]; exact aH rfl rfl
end Lam
namespace Lam
open Go Go.Proofs
def eF.loops : Nat → bU
 | 3 => ⟨[], [], [], [(3, none), (4, some [28, 32])], [], []⟩
 | 6 => ⟨[], [], [], [(5, none), (2, some [49, 51]), (2, none), (4, some [53, 57])], [], []⟩
 | 12 => ⟨[], [], [], [(3, none), (2, some [81, 83]), (2, none), (5, some [85, 90]), (2, none), (3, some [92, 95])], [], []⟩
 | _ => ⟨[], [], [], [], [], []⟩
def eF.H (c : Ctx) (t0 : AV) (t1 : AV) (t2 : AV) (t3 : AV) (h : List AObj) (K : AOut → List AObj → Prop) : Prop :=
 aL (fun (J1 : List AObj → Prop) =>
 aO false c (.fn (.func 46) [] []) [t0, t1] h (fun t22 h =>
 runD (aW t22 0) h fun t23 h =>
 runD (aW t22 1) h fun t24 h =>
 cV bA h fun t10 h =>
 runH (aT bA h t10 t23) h fun _ h =>
 runD (binD cO .neq t24 (.int .i64 0)) h fun t27 h =>
 aL (fun (J2 : AV → AV → List AObj → Prop) =>
 bF t27 false
 (runD (aC bA t10 0) h fun t29 h =>
 runD (fitD aB (aD h t29)) h fun t30 h =>
 runD (binD aB .lss t30 t3) h fun t32 h =>
 J2 (.bool false) t32 h)
 (J2 (.bool true) .und h))
 (fun t28 t32 h => runD (bV t28 (.bool true) t32) h fun t33 h =>
 bC t33
 (J1 h)
 (runD (aC bA t10 2) h fun t34 h =>
 runD (fitD aB (aD h t34)) h fun t35 h =>
 runD (binD aB .neq t35 (.int .i64 0)) h fun t36 h =>
 aL (fun (J3 : List AObj → Prop) =>
 bC t36
 (runD (aC bA t10 2) h fun t39 h =>
 runD (fitD aB (aD h t39)) h fun t40 h =>
 aO false c (.fn (.func 81) [] []) [t0, t40] h (fun t41 h =>
 runD (aW t41 0) h fun t42 h =>
 runD (aW t41 1) h fun t43 h =>
 runD (aW t41 2) h fun t44 h =>
 runD (aC bA t10 2) h fun t45 h =>
 runD (fitD aB (aD h t45)) h fun t46 h =>
 runD (binD aB .eql t46 t1) h fun t48 h =>
 aL (fun (J4 : AV → AV → List AObj → Prop) =>
 bF t48 false
 (runD (unD .not t44) h fun t51 h =>
 J4 (.bool false) t51 h)
 (J4 (.bool true) .und h))
 (fun t49 t51 h => runD (bV t49 (.bool true) t51) h fun t52 h =>
 aL (fun (J5 : AV → AV → List AObj → Prop) =>
 bF t52 false
 (runD (aC bA t10 0) h fun t55 h =>
 runD (fitD aB (aD h t55)) h fun t56 h =>
 runD (binD aB .neq t42 t56) h fun t57 h =>
 J5 (.bool false) t57 h)
 (J5 (.bool true) .und h))
 (fun t53 t57 h => runD (bV t53 (.bool true) t57) h fun t58 h =>
 bC t58
 (J1 h)
 (runD (binD cB .leq t43 t2) h fun t61 h =>
 bC t61
 (runD (aC bA t10 2) h fun t62 h =>
 runD (fitD aB (aD h t62)) h fun t63 h =>
 K (.ret (.tup [t63, (.int .i64 0)])) h)
 (J3 h)))))
 (fun v h => K (.pan v) h))
 (J3 h))
 (fun h => runD (aC bA t10 0) h fun t64 h =>
 runD (fitD aB (aD h t64)) h fun t65 h =>
 runD (binD aB .gtr t65 t3) h fun t67 h =>
 aL (fun (J6 : AV → List AObj → Prop) =>
 bC t67
 (runD (fitD bA (aD h t10)) h fun t69 h =>
 aO false c (.fn (.func 82) [] []) [t0, t69, t2] h (fun t71 h =>
 aO false c (.fn (.func 81) [] []) [t0, t71] h (fun t75 h =>
 runD (aW t75 0) h fun t76 h =>
 runD (aW t75 1) h fun t77 h =>
 runD (aW t75 2) h fun t78 h =>
 runD (binD aB .eql t71 (.int .i64 0)) h fun t80 h =>
 aL (fun (J7 : AV → AV → List AObj → Prop) =>
 bF t80 false
 (runD (unD .not t78) h fun t83 h =>
 J7 (.bool false) t83 h)
 (J7 (.bool true) .und h))
 (fun t81 t83 h => runD (bV t81 (.bool true) t83) h fun t84 h =>
 aL (fun (J8 : AV → AV → List AObj → Prop) =>
 bF t84 false
 (runD (aC bA t10 0) h fun t87 h =>
 runD (fitD aB (aD h t87)) h fun t88 h =>
 runD (binD aB .sub t88 (.int .i64 1)) h fun t89 h =>
 runD (binD aB .neq t76 t89) h fun t90 h =>
 J8 (.bool false) t90 h)
 (J8 (.bool true) .und h))
 (fun t85 t90 h => runD (bV t85 (.bool true) t90) h fun t91 h =>
 aL (fun (J9 : AV → AV → List AObj → Prop) =>
 bF t91 false
 (runD (binD cB .gtr t77 t2) h fun t95 h =>
 J9 (.bool false) t95 h)
 (J9 (.bool true) .und h))
 (fun t92 t95 h => runD (bV t92 (.bool true) t95) h fun t96 h =>
 bC t96
 (J1 h)
 (J6 t71 h)))))
 (fun v h => K (.pan v) h))
 (fun v h => K (.pan v) h))
 (J6 t1 h))
 (fun t12 h => K (.ret (.tup [t12, (.int .i64 0)])) h)))))
 (fun v h => K (.pan v) h))
 (fun h => K (.ret (.tup [(.int .i64 0), (.int .i64 90)])) h)
def dV.loops : Nat → bU
 | _ => ⟨[], [], [], [], [], []⟩
def dV.H (c : Ctx) (t0 : AV) (t1 : AV) (h : List AObj) (K : AOut → List AObj → Prop) : Prop :=
 aO false c (.fn (.func 46) [] []) [t0, t1] h (fun t12 h =>
 runD (aW t12 0) h fun t13 h =>
 runD (aW t12 1) h fun t14 h =>
 cV bA h fun t7 h =>
 runH (aT bA h t7 t13) h fun _ h =>
 runD (binD cO .neq t14 (.int .i64 0)) h fun t16 h =>
 bC t16
 (K (.ret (.tup [(.int .i64 0), (.str []), (.bool false)])) h)
 (aO false c (.fn (.func 47) [] []) [t0, t1] h (fun t20 h =>
 runD (aW t20 0) h fun t21 h =>
 runD (aW t20 1) h fun t22 h =>
 runD (aC bA t7 0) h fun t23 h =>
 runD (fitD aB (aD h t23)) h fun t24 h =>
 runD (binD cO .eql t22 (.int .i64 0)) h fun t26 h =>
 K (.ret (.tup [t24, t21, t26])) h)
 (fun v h => K (.pan v) h)))
 (fun v h => K (.pan v) h)
def eM.loops : Nat → bU
 | 2 => ⟨[6, 14], [false, false], [0, 2, 12, 13], [], [], []⟩
 | 5 => ⟨[], [], [], [(3, none), (3, some [26, 29]), (2, none), (4, some [31, 35])], [], []⟩
 | _ => ⟨[], [], [], [], [], []⟩
def eM.L1 (c : Ctx) (J1 : AV → List AObj → Prop) (K : AOut → List AObj → Prop) (lv : List AV) (h0 : List AObj) (n0 : Nat) (c0 : AV) (c2 : AV) (c12 : AV) (c13 : AV) : Prop :=
 ∃ I : Nat → List AV → List AObj → Prop, (∃ n, I n lv h0) ∧ ∀ n h, ∀ t6, ∀ t14, I n [t6, t14] h →
 runD (binD aB .lss t14 c13) h fun t15 h =>
 bC t15
 (runD (aG aI h c12 t14) h fun t16 h =>
 runD (fitD aB (aD h t16)) h fun t17 h =>
 aO false c (.fn (.func 79) [] []) [c0, t17] h (fun t21 h =>
 runD (aW t21 0) h fun t22 h =>
 runD (aW t21 1) h fun t23 h =>
 cV aK h fun t9 h =>
 runH (aT aK h t9 t22) h fun _ h =>
 runD (binD cO .eql t23 (.int .i64 0)) h fun t25 h =>
 aL (fun (J2 : AV → AV → List AObj → Prop) =>
 bF t25 true
 (runD (aC aK t9 0) h fun t27 h =>
 runD (fitD aB (aD h t27)) h fun t28 h =>
 runD (binD aB .eql t28 (.int .i64 2)) h fun t29 h =>
 J2 (.bool true) t29 h)
 (J2 (.bool false) .und h))
 (fun t26 t29 h => runD (bV t26 t29 (.bool false)) h fun t30 h =>
 aL (fun (J3 : AV → AV → List AObj → Prop) =>
 bF t30 true
 (runD (aC aK t9 1) h fun t32 h =>
 runD (fitD cB (aD h t32)) h fun t33 h =>
 runD (binD cB .leq t33 c2) h fun t35 h =>
 J3 (.bool true) t35 h)
 (J3 (.bool false) .und h))
 (fun t31 t35 h => runD (bV t31 t35 (.bool false)) h fun t36 h =>
 aL (fun (J4 : AV → List AObj → Prop) =>
 bC t36
 (runD (aC aK t9 3) h fun t37 h =>
 runD (fitD aB (aD h t37)) h fun t38 h =>
 J4 t38 h)
 (J4 t6 h))
 (fun t6 h => runD (binD aB .add t14 (.int .i64 1)) h fun t39 h =>
 (∃ m, m < n ∧ I m (AV.norms n0 h [t6, t39]) (cI n0 h)) ∧ AV.norms n0 h [c0, c2, c12, c13] = [c0, c2, c12, c13]))))
 (fun v h => K (.pan v) h))
 (J1 t6 h)
def eM.H (c : Ctx) (t0 : AV) (t1 : AV) (t2 : AV) (h : List AObj) (K : AOut → List AObj → Prop) : Prop :=
 boxW bA t1 h fun t4 h =>
 runD (aC bA t4 4) h fun t11 h =>
 runD (fitD aI (aD h t11)) h fun t12 h =>
 runD (lenD aI h t12) h fun t13 h =>
 aL (fun (J1 : AV → List AObj → Prop) =>
 dK [false, false] [(.int .i64 0), (.int .i64 0)] h fun lv h => eM.L1 c J1 K (AV.norms h.length h lv) (cI h.length h) h.length (AV.norm h.length h t0) (AV.norm h.length h t2) (AV.norm h.length h t12) (AV.norm h.length h t13))
 (fun t6 h => K (.ret t6) h)
theorem eF.eq (F : List (FuncId × aE)) (S : List (FuncId × Con)) (t0 t1 t2 t3 : AV) (h : List AObj) (K : AOut → List AObj → Prop) : funW (ctx F S eF.loops) Tryz.f49 [t0, t1, t2, t3] h K = eF.H (ctx F S eF.loops) t0 t1 t2 t3 h K := by kernel_rfl
theorem dV.eq (F : List (FuncId × aE)) (S : List (FuncId × Con)) (t0 t1 : AV) (h : List AObj) (K : AOut → List AObj → Prop) : funW (ctx F S dV.loops) Tryz.f81 [t0, t1] h K = dV.H (ctx F S dV.loops) t0 t1 h K := by kernel_rfl
theorem eM.eq (F : List (FuncId × aE)) (S : List (FuncId × Con)) (t0 t1 t2 : AV) (h : List AObj) (K : AOut → List AObj → Prop) : funW (ctx F S eM.loops) Tryz.f82 [t0, t1, t2] h K = eM.H (ctx F S eM.loops) t0 t1 t2 h K := by kernel_rfl
theorem eF.at : Tryz.prog.funcs[49]? = some Tryz.f49 := by kernel_rfl
theorem eF.nm : (Tryz.f49.name == "runtime.NumGoroutine") = false := by kernel_rfl
theorem eF.bd : Tryz.f49.body.isNone = false := by kernel_rfl
theorem dV.at : Tryz.prog.funcs[81]? = some Tryz.f81 := by kernel_rfl
theorem dV.nm : (Tryz.f81.name == "runtime.NumGoroutine") = false := by kernel_rfl
theorem dV.bd : Tryz.f81.body.isNone = false := by kernel_rfl
theorem eM.at : Tryz.prog.funcs[82]? = some Tryz.f82 := by kernel_rfl
theorem eM.nm : (Tryz.f82.name == "runtime.NumGoroutine") = false := by kernel_rfl
theorem eM.bd : Tryz.f82.body.isNone = false := by kernel_rfl
end Lam
namespace Lam
open Go Go.Proofs
def aDu (w : List Int) (b : Int) : AV := match dL w b with
  | none => .tup [.int .i64 0, .str [], .bool false]
  | some n => match lowO w n with
    | none => .tup [.int .i64 n.level, .str [], .bool false]
    | some l => .tup [.int .i64 n.level, .str l, .bool true]
def dV.C : aE
  | [.sl _ (.ints .i64 w), .int .i64 b] => some (false, pD (iH w) (aDu w b))
  | _ => none
theorem dV.spec : bO Tryz.prog 81 dV.C := by
  refine bO.of (bQ (F := [(46, cL.C), (47, dH.C)]) (S := []) (by simpa using ⟨cL.spec, dH.spec⟩) (by simp) dV.loops) dV.at dV.nm dV.bd ?_
  intro vs b S v news e hS
  unfold dV.C at e
  split at e
  rotate_left
  · cases e
  cases e
  rw [dV.eq]
  unfold dV.H
  simp (maxSteps := 4000000) only [go_sem, reduceEqDiff, Nat.reduceLT, reduceAdd, reduceSub, reduceLeDiff, reduceReplicate, reduceToNat, cL.C, dH.C]
  rename_i w b
  have hr := iH.roomy hS
  unfold aDu
  cases hn : dL w b with
  | none =>
    obtain ⟨e, he, h⟩ := nZ hn
    simp only [h, jO, he, decide_false, aA, aA, gq, reduceEq, reduceLT, reduceLE, implies_true, reduceCtorEq, if_true, if_false, go_sem, reduceEqDiff, Nat.reduceLT, reduceAdd, reduceSub, reduceLeDiff, reduceReplicate, reduceToNat]
    exact ⟨hr, aH rfl rfl⟩
  | some n =>
    obtain ⟨n1, n2, n3, n4, n5⟩ := n
    cases hl : lowO w ⟨n1, n2, n3, n4, n5⟩ with
    | none =>
      have hlv : lowV w b = .tup [.str [], .int .i64 110] := by unfold lowV; rw [hn]; simp only [Option.bind_some, hl]
      simp only [iV hn, hlv, hl, decide_false, aA, aA, gq, reduceEq, reduceLT, reduceLE, implies_true, reduceCtorEq, if_true, if_false, go_sem, reduceEqDiff, Nat.reduceLT, reduceAdd, reduceSub, reduceLeDiff, reduceReplicate, reduceToNat]
      exact ⟨hr, hS, aH rfl rfl⟩
    | some l =>
      have hlv : lowV w b = .tup [.str l, .int .i64 0] := by unfold lowV; rw [hn]; simp only [Option.bind_some, hl]
      simp only [iV hn, hlv, hl, decide_true, aA, aA, gq, reduceEq, reduceLT, reduceLE, implies_true, reduceCtorEq, if_true, if_false, go_sem, reduceEqDiff, Nat.reduceLT, reduceAdd, reduceSub, reduceLeDiff, reduceReplicate, reduceToNat]
      exact ⟨hr, hS, aH rfl rfl⟩
def eM.C : aE
  | [.sl _ (.ints .i64 w), .agg [.int .i64 a, .int .i64 b, .int .i64 c, .int .i64 d, .sl _ (.ints .i64 l)], .str key] => some (false, pD (roomy w.length ∧ l.length ≤ 1000) (.int .i64 (aAI w key ⟨a, b, c, d, l⟩)))
  | _ => none
theorem eM.spec : bO Tryz.prog 82 eM.C := by
  refine bO.of (bQ (F := [(79, dZ.C)]) (S := []) (by simpa using dZ.spec) (by simp) eM.loops) eM.at eM.nm eM.bd ?_
  intro vs b S v news e hS
  unfold eM.C at e
  split at e
  rotate_left
  · cases e
  cases e
  rw [eM.eq]
  unfold eM.H
  simp (maxSteps := 4000000) only [go_sem, reduceEqDiff, Nat.reduceLT, reduceAdd, reduceSub, reduceLeDiff, reduceReplicate, reduceToNat, dZ.C]
  rename_i w a b c d _ l key
  obtain ⟨hw, hl⟩ := hS
  rw [aA]
  unfold eM.L1
  refine pU (σ := Nat) (fun k => .int .i64 ((l.take k).foldl (xX w key) 0)) (fun k => .int .i64 k) (fun k => [.box (.agg [.int .i64 a, .int .i64 b, .int .i64 c, .int .i64 d, .sl false (.ints .i64 l)])]) (fun k => l.length - k) (fun k => k ≤ l.length) 0 rfl rfl (Nat.zero_le _) ?_
  intro I back k hk
  by_cases hlt : k < l.length
  · have hb := @back (l.length - k) [.int .i64 (xX w key ((l.take k).foldl (xX w key) 0) (l.getD k 0)), .int .i64 ((k + 1 : Nat) : Int)] [.box (.agg [.int .i64 a, .int .i64 b, .int .i64 c, .int .i64 d, .sl false (.ints .i64 l)])] (k + 1) (by omega) (by rw [iK l k 0 hlt, List.foldl_append]; rfl) rfl (by omega)
    clear back
    generalize (l.take k).foldl (xX w key) 0 = out at *
    have d1 : decide ((k : Int) < (l.length : Int)) = true := decide_eq_true (by omega)
    unfold xX at hb
    cases hx : recO w (l.getD k 0) with
    | none =>
      obtain ⟨e, he, hr⟩ := tD hx
      rw [hx] at hb
      simp only [dZ.C, hr, kI, he, d1, decide_false, aA, eQ (show k < 4611686018427387904 by omega), aA, gq, reduceEq, reduceLT, reduceLE, implies_true, reduceCtorEq, if_true, if_false, go_sem, reduceEqDiff, Nat.reduceLT, reduceAdd, reduceSub, reduceLeDiff, reduceReplicate, reduceToNat]
      exact ⟨⟨by omega, by omega⟩, hw, hb⟩
    | some y =>
      obtain ⟨y1, y2, y3, y4⟩ := y
      rw [hx] at hb
      simp only at hb
      simp only [dZ.C, tC hx, d1, decide_true, aA, eQ (show k < 4611686018427387904 by omega), aA, gq, reduceEq, reduceLT, reduceLE, implies_true, reduceCtorEq, if_true, if_false, go_sem, reduceEqDiff, Nat.reduceLT, reduceAdd, reduceSub, reduceLeDiff, reduceReplicate, reduceToNat]
      refine ⟨⟨by omega, by omega⟩, hw, ?_⟩
      by_cases hy : y1 = 2
      · simp only [hy, decide_true, aA, gq, reduceEq, reduceLT, reduceLE, implies_true, reduceCtorEq, if_true, if_false, go_sem, reduceEqDiff, Nat.reduceLT, reduceAdd, reduceSub, reduceLeDiff, reduceReplicate, reduceToNat]
        refine ⟨fun h => ?_, fun h => ?_⟩
        · rw [if_pos ⟨hy, h⟩] at hb; exact hb
        · rw [if_neg (fun h' => by rw [h] at h'; cases h'.2)] at hb; exact hb
      · rw [if_neg (fun h' => hy h'.1)] at hb
        simp only [hy, decide_false, aA, gq, reduceEq, reduceLT, reduceLE, implies_true, reduceCtorEq, if_true, if_false, go_sem, reduceEqDiff, Nat.reduceLT, reduceAdd, reduceSub, reduceLeDiff, reduceReplicate, reduceToNat]
        exact hb
  · obtain rfl : k = l.length := by omega
    have d1 : decide ((l.length : Int) < (l.length : Int)) = false := decide_eq_false (by omega)
    clear back
    rw [List.take_length]
    simp only [d1, aA, aA, gq, reduceEq, reduceLT, reduceLE, implies_true, reduceCtorEq, if_true, if_false, go_sem, reduceEqDiff, Nat.reduceLT, reduceAdd, reduceSub, reduceLeDiff, reduceReplicate, reduceToNat]
    exact aH rfl rfl
def oA (w : List Int) (b : Int) (key : bE) (level : Int) : AV := match lX w b key level with
  | none => .tup [.int .i64 0, .int .i64 90]
  | some t => .tup [.int .i64 t, .int .i64 0]
theorem aDv (w : List Int) (b : Int) : (∃ lv lo, aBj w b = none ∧ aDu w b = .tup [.int .i64 lv, .str lo, .bool false]) ∨ ∃ lv lo, aBj w b = some (lv, lo) ∧ aDu w b = .tup [.int .i64 lv, .str lo, .bool true] := by
  unfold aBj aDu
  cases dL w b with
  | none => exact .inl ⟨_, _, rfl, rfl⟩
  | some n =>
    simp only
    cases lowO w n with
    | none => exact .inl ⟨_, _, rfl, rfl⟩
    | some l => exact .inr ⟨_, _, rfl, rfl⟩
def eF.C : aE
  | [.sl _ (.ints .i64 w), .int .i64 b, .str key, .int .i64 level] => some (false, pD (iH w) (oA w b key level))
  | _ => none
theorem eF.spec : bO Tryz.prog 49 eF.C := by
  refine bO.of (bQ (F := [(46, cL.C), (81, dV.C), (82, eM.C)]) (S := []) (by simpa using ⟨cL.spec, dV.spec, eM.spec⟩) (by simp) eF.loops) eF.at eF.nm eF.bd ?_
  intro vs b S v news e hS
  unfold eF.C at e
  split at e
  rotate_left
  · cases e
  cases e
  rw [eF.eq]
  unfold eF.H
  simp (maxSteps := 4000000) only [go_sem, reduceEqDiff, Nat.reduceLT, reduceAdd, reduceSub, reduceLeDiff, reduceReplicate, reduceToNat, cL.C, dV.C, eM.C]
  rename_i w b key level
  have hr := iH.roomy hS
  have hno : ∀ ao h, lX w b key level = none → ao = .ret (.tup [.int .i64 0, .int .i64 90]) → Post false (oA w b key level) [] ao h := fun ao h e1 e2 => by
    rw [e2]; unfold oA; rw [e1]; exact aH rfl rfl
  have hyes : ∀ ao h t, lX w b key level = some t → ao = .ret (.tup [.int .i64 t, .int .i64 0]) → Post false (oA w b key level) [] ao h := fun ao h t e1 e2 => by
    rw [e2]; unfold oA; rw [e1]; exact aH rfl rfl
  rw [aA]
  cases hn : dL w b with
  | none =>
    obtain ⟨e, he, h⟩ := nZ hn
    simp only [h, jO, he, decide_false, aA, aA, gq, reduceEq, reduceLT, reduceLE, implies_true, reduceCtorEq, if_true, if_false, go_sem, reduceEqDiff, Nat.reduceLT, reduceAdd, reduceSub, reduceLeDiff, reduceReplicate, reduceToNat]
    exact ⟨hr, hno _ _ (by unfold lX; rw [hn]) rfl⟩
  | some n =>
    have hok := (lW hn).1
    obtain ⟨n1, n2, n3, n4, n5⟩ := n
    have h13 : n5.length ≤ 13 := hok.2.2.2.2.2.2.1
    have hlv : 0 ≤ n1 ∧ n1 ≤ 9 := ⟨hok.1, hok.2.1⟩
    simp only [iV hn, decide_true, gq, reduceEq, reduceLT, reduceLE, implies_true, reduceCtorEq, if_true, if_false, go_sem, reduceEqDiff, Nat.reduceLT, reduceAdd, reduceSub, reduceLeDiff, reduceReplicate, reduceToNat]
    refine ⟨hr, ?_⟩
    by_cases hlt : n1 < level
    · have hd : lX w b key level = none := by unfold lX; rw [hn]; exact if_pos hlt
      simp only [hlt, decide_true, aA, aA, gq, reduceEq, reduceLT, reduceLE, implies_true, reduceCtorEq, if_true, if_false, go_sem, reduceEqDiff, Nat.reduceLT, reduceAdd, reduceSub, reduceLeDiff, reduceReplicate, reduceToNat]
      exact hno _ _ hd rfl
    have hd : lX w b key level = if n3 = 0 then aBk w b key level ⟨n1, n2, n3, n4, n5⟩ else match aBj w n3 with
      | none => none
      | some (lv, lo) => if n3 = b ∨ lv ≠ n1 then none else if ltB key lo = false then some n3 else aBk w b key level ⟨n1, n2, n3, n4, n5⟩ := by
      unfold lX; rw [hn]; exact if_neg hlt
    rw [aA]
    simp only [hlt, decide_false, gq, reduceEq, reduceLT, reduceLE, implies_true, reduceCtorEq, if_true, if_false, go_sem, reduceEqDiff, Nat.reduceLT, reduceAdd, reduceSub, reduceLeDiff, reduceReplicate, reduceToNat]
    refine pB fun k3 hk3 => ?_
    have rest3 : lX w b key level = aBk w b key level ⟨n1, n2, n3, n4, n5⟩ → k3 [.box (.agg [.int .i64 n1, .int .i64 n2, .int .i64 n3, .int .i64 n4, .sl false (.ints .i64 n5)])] := fun hd2 => by
      unfold aBk at hd2
      rw [hk3]
      simp only [eM.C, gq, reduceEq, reduceLT, reduceLE, implies_true, reduceCtorEq, if_true, if_false, go_sem, reduceEqDiff, Nat.reduceLT, reduceAdd, reduceSub, reduceLeDiff, reduceReplicate, reduceToNat]
      rw [aA]
      refine ⟨fun hl => ⟨⟨hr, by omega⟩, ?_⟩, fun hl => hyes _ _ _ (by rw [hd2, if_neg hl]) rfl⟩
      rw [if_pos hl] at hd2
      unfold aKD at hd2
      have e1 : IntKind.i64.wrap (n1 - 1) = n1 - 1 := w64 (by omega) (by omega)
      obtain ⟨ch, hch⟩ : ∃ ch, aAI w key ⟨n1, n2, n3, n4, n5⟩ = ch := ⟨_, rfl⟩
      rw [hch] at hd2
      rcases aDv w ch with ⟨lv, lo, hf, hv⟩ | ⟨lv, lo, hf, hv⟩
      · rw [hf] at hd2
        by_cases h0 : ch = 0
        · simp only [hch, dV.C, hv, h0, decide_true, aA, aA, gq, reduceEq, reduceLT, reduceLE, implies_true, reduceCtorEq, if_true, if_false, go_sem, reduceEqDiff, Nat.reduceLT, reduceAdd, reduceSub, reduceLeDiff, reduceReplicate, reduceToNat]
          rw [h0] at hv
          simp only [hv, aA, aA, gq, reduceEq, reduceLT, reduceLE, implies_true, reduceCtorEq, if_true, if_false, go_sem, reduceEqDiff, Nat.reduceLT, reduceAdd, reduceSub, reduceLeDiff, reduceReplicate, reduceToNat]
          exact ⟨hS, hno _ _ hd2 rfl⟩
        · simp only [hch, dV.C, hv, h0, decide_false, aA, aA, gq, reduceEq, reduceLT, reduceLE, implies_true, reduceCtorEq, if_true, if_false, go_sem, reduceEqDiff, Nat.reduceLT, reduceAdd, reduceSub, reduceLeDiff, reduceReplicate, reduceToNat]
          exact ⟨hS, hno _ _ hd2 rfl⟩
      · rw [hf] at hd2
        simp only at hd2
        by_cases h0 : ch = 0
        · rw [if_pos (.inl h0)] at hd2
          rw [h0] at hv
          simp only [hch, dV.C, h0, decide_true, aA, aA, gq, reduceEq, reduceLT, reduceLE, implies_true, reduceCtorEq, if_true, if_false, go_sem, reduceEqDiff, Nat.reduceLT, reduceAdd, reduceSub, reduceLeDiff, reduceReplicate, reduceToNat]
          simp only [hv, aA, aA, gq, reduceEq, reduceLT, reduceLE, implies_true, reduceCtorEq, if_true, if_false, go_sem, reduceEqDiff, Nat.reduceLT, reduceAdd, reduceSub, reduceLeDiff, reduceReplicate, reduceToNat]
          exact ⟨hS, hno _ _ hd2 rfl⟩
        · by_cases h1 : lv = n1 - 1
          · cases h2 : ltB key lo with
            | true =>
              rw [if_pos (.inr (.inr h2))] at hd2
              simp only [hch, dV.C, hv, h0, e1, h1, h2, decide_false, decide_true, aA, aA, gq, reduceEq, reduceLT, reduceLE, implies_true, reduceCtorEq, if_true, if_false, go_sem, reduceEqDiff, Nat.reduceLT, reduceAdd, reduceSub, reduceLeDiff, reduceReplicate, reduceToNat]
              exact ⟨hS, hno _ _ hd2 rfl⟩
            | false =>
              rw [if_neg (by
                rintro (h | h | h)
                · exact h0 h
                · exact h h1
                · rw [h2] at h; cases h)] at hd2
              simp only [hch, dV.C, hv, h0, e1, h1, h2, decide_false, decide_true, aA, aA, gq, reduceEq, reduceLT, reduceLE, implies_true, reduceCtorEq, if_true, if_false, go_sem, reduceEqDiff, Nat.reduceLT, reduceAdd, reduceSub, reduceLeDiff, reduceReplicate, reduceToNat]
              exact ⟨hS, hyes _ _ _ hd2 rfl⟩
          · rw [if_pos (.inr (.inl h1))] at hd2
            simp only [hch, dV.C, hv, h0, e1, h1, decide_false, decide_true, aA, aA, gq, reduceEq, reduceLT, reduceLE, implies_true, reduceCtorEq, if_true, if_false, go_sem, reduceEqDiff, Nat.reduceLT, reduceAdd, reduceSub, reduceLeDiff, reduceReplicate, reduceToNat]
            exact ⟨hS, hno _ _ hd2 rfl⟩
    clear hk3
    rw [aA]
    refine ⟨fun hn3 => ?_, fun hn3 => rest3 (by rw [hd, if_pos hn3])⟩
    rw [if_neg hn3] at hd
    rcases aDv w n3 with ⟨lv, lo, hf, hv⟩ | ⟨lv, lo, hf, hv⟩
    · rw [hf] at hd
      by_cases h0 : n3 = b
      · simp only [dV.C, hv, h0, decide_true, aA, aA, gq, reduceEq, reduceLT, reduceLE, implies_true, reduceCtorEq, if_true, if_false, go_sem, reduceEqDiff, Nat.reduceLT, reduceAdd, reduceSub, reduceLeDiff, reduceReplicate, reduceToNat]
        rw [h0] at hv
        simp only [hv, aA, aA, gq, reduceEq, reduceLT, reduceLE, implies_true, reduceCtorEq, if_true, if_false, go_sem, reduceEqDiff, Nat.reduceLT, reduceAdd, reduceSub, reduceLeDiff, reduceReplicate, reduceToNat]
        exact ⟨hS, hno _ _ hd rfl⟩
      · simp only [dV.C, hv, h0, decide_false, aA, aA, gq, reduceEq, reduceLT, reduceLE, implies_true, reduceCtorEq, if_true, if_false, go_sem, reduceEqDiff, Nat.reduceLT, reduceAdd, reduceSub, reduceLeDiff, reduceReplicate, reduceToNat]
        exact ⟨hS, hno _ _ hd rfl⟩
    · rw [hf] at hd
      simp only at hd
      by_cases h0 : n3 = b
      · rw [if_pos (.inl h0)] at hd
        rw [h0] at hv
        simp only [dV.C, h0, decide_true, aA, aA, gq, reduceEq, reduceLT, reduceLE, implies_true, reduceCtorEq, if_true, if_false, go_sem, reduceEqDiff, Nat.reduceLT, reduceAdd, reduceSub, reduceLeDiff, reduceReplicate, reduceToNat]
        simp only [hv, aA, aA, gq, reduceEq, reduceLT, reduceLE, implies_true, reduceCtorEq, if_true, if_false, go_sem, reduceEqDiff, Nat.reduceLT, reduceAdd, reduceSub, reduceLeDiff, reduceReplicate, reduceToNat]
        exact ⟨hS, hno _ _ hd rfl⟩
      · by_cases h1 : lv = n1
        · rw [if_neg (by
            rintro (h | h)
            · exact h0 h
            · exact h h1)] at hd
          cases h2 : ltB key lo with
          | true =>
            rw [h2] at hd
            simp only [dV.C, hv, h0, h1, h2, decide_false, decide_true, aA, aA, gq, reduceEq, reduceLT, reduceLE, implies_true, reduceCtorEq, if_true, if_false, go_sem, reduceEqDiff, Nat.reduceLT, reduceAdd, reduceSub, reduceLeDiff, reduceReplicate, reduceToNat]
            exact ⟨hS, rest3 (by rw [hd]; rfl)⟩
          | false =>
            rw [if_pos h2] at hd
            simp only [dV.C, hv, h0, h1, h2, decide_false, decide_true, aA, aA, gq, reduceEq, reduceLT, reduceLE, implies_true, reduceCtorEq, if_true, if_false, go_sem, reduceEqDiff, Nat.reduceLT, reduceAdd, reduceSub, reduceLeDiff, reduceReplicate, reduceToNat]
            exact ⟨hS, hyes _ _ _ hd rfl⟩
        · rw [if_pos (.inr h1)] at hd
          simp only [dV.C, hv, h0, h1, decide_false, decide_true, aA, aA, gq, reduceEq, reduceLT, reduceLE, implies_true, reduceCtorEq, if_true, if_false, go_sem, reduceEqDiff, Nat.reduceLT, reduceAdd, reduceSub, reduceLeDiff, reduceReplicate, reduceToNat]
          exact ⟨hS, hno _ _ hd rfl⟩
end Lam
namespace Lam
open Go
def qQ (a lo hi : Nat) (l : List RecT) : Prop := ∀ i c, lo ≤ i → (c = 2 * i + 1 ∨ c = 2 * i + 2) → c < hi → leB (kyL l (a + c)) (kyL l (a + i))
def uV (a lo r hi : Nat) (l : List RecT) : Prop :=
  (∀ i c, lo ≤ i → i ≠ r → (c = 2 * i + 1 ∨ c = 2 * i + 2) → c < hi → leB (kyL l (a + c)) (kyL l (a + i))) ∧
  ∀ i c, lo ≤ i → (r = 2 * i + 1 ∨ r = 2 * i + 2) → (c = 2 * r + 1 ∨ c = 2 * r + 2) → c < hi → leB (kyL l (a + c)) (kyL l (a + i))
theorem uV.begin {a lo hi : Nat} {l : List RecT} (h : qQ a (lo + 1) hi l) : uV a lo lo hi l :=
  ⟨fun i c h1 h2 h3 h4 => h i c (by omega) h3 h4, fun i c h1 h2 h3 h4 => by omega⟩
theorem uV.done {a lo r hi : Nat} {l : List RecT} (h : uV a lo r hi l) (hc : ∀ c, (c = 2 * r + 1 ∨ c = 2 * r + 2) → c < hi → leB (kyL l (a + c)) (kyL l (a + r))) : qQ a lo hi l := fun i c h1 h2 h3 => by
  by_cases e : i = r
  · subst e; exact hc c h2 h3
  · exact h.1 i c h1 e h2 h3
theorem uV.step {a lo r hi c : Nat} {l : List RecT} (h : uV a lo r hi l) (hr : lo ≤ r) (hc : c = 2 * r + 1 ∨ c = 2 * r + 2) (hch : c < hi) (hl : a + hi ≤ l.length) (hlt : leB (kyL l (a + r)) (kyL l (a + c))) (ho : ∀ d, (d = 2 * r + 1 ∨ d = 2 * r + 2) → d < hi → leB (kyL l (a + d)) (kyL l (a + c))) : uV a lo c hi (gZ l (a + r) (a + c)) := by
  obtain ⟨h1, h2⟩ := h
  have hrl : a + r < l.length := by omega
  have hcl : a + c < l.length := by omega
  have e : ∀ k, kyL (gZ l (a + r) (a + c)) (a + k) = if k = c then kyL l (a + r) else if k = r then kyL l (a + c) else kyL l (a + k) := fun k => by
    rw [jQ hrl hcl]
    by_cases e1 : k = c
    · rw [if_pos (by omega), if_pos e1]
    · rw [if_neg (by omega), if_neg e1]
      by_cases e2 : k = r
      · rw [if_pos (by omega), if_pos e2]
      · rw [if_neg (by omega), if_neg e2]
  refine ⟨fun i d q1 q2 q3 q4 => ?_, fun i d q1 q2 q3 q4 => ?_⟩
  · rw [e, e, if_neg q2]
    by_cases hir : i = r
    · subst hir
      rw [if_pos rfl]
      by_cases hd : d = c
      · rw [if_pos hd]; exact hlt
      · rw [if_neg hd, if_neg (by omega)]; exact ho d q3 q4
    · rw [if_neg hir]
      by_cases hd : d = r
      · subst hd
        rw [if_neg (by omega), if_pos rfl]; exact h2 i c q1 q3 hc hch
      · rw [if_neg (show ¬ d = c by omega), if_neg hd]; exact h1 i d q1 hir q3 q4
  · obtain rfl : i = r := by omega
    rw [e, e, if_neg (show ¬ d = c by omega), if_neg (show ¬ d = i by omega), if_neg (show ¬ i = c by omega), if_pos rfl]
    exact h1 c d (by omega) (by omega) q3 q4
theorem qQ.top {a hi : Nat} {l : List RecT} (h : qQ a 0 hi l) (k : Nat) : k < hi → leB (kyL l (a + k)) (kyL l a) := by
  induction k using Nat.strongRecOn with
  | _ k ih =>
    intro hk
    cases k with
    | zero => exact zC _
    | succ k => exact tT (h (k / 2) (k + 1) (Nat.zero_le _) (by omega) hk) (ih (k / 2) (by omega) (by omega))
def qR (a n b : Nat) (l : List RecT) : Prop := qQ a 0 n l ∧ SegS (a + n) b l ∧ ∀ p q, p < n → a + n ≤ q → q < b → leB (kyL l (a + p)) (kyL l q)
theorem qR.begin {a b : Nat} {l : List RecT} (hab : a ≤ b) (h : qQ a 0 (b - a) l) : qR a (b - a) b l :=
  ⟨h, SegS.one (by omega), fun p q h1 h2 h3 => by omega⟩
theorem qR.heap {a n b : Nat} {l : List RecT} (h : qR a (n + 1) b l) (hb : a + n < b) (hl : b ≤ l.length) : qQ a 1 n (gZ l a (a + n)) := fun i c h1 h2 h3 => by
  rw [jQ (by omega) (by omega), jQ (by omega) (by omega), if_neg (by omega), if_neg (by omega), if_neg (by omega), if_neg (by omega)]
  exact h.1 i c (Nat.zero_le _) h2 (by omega)
theorem qR.next {a n b : Nat} {l l2 : List RecT} (h : qR a (n + 1) b l) (hb : a + n < b) (hl : b ≤ l.length) (hs : SegP a (a + n) (gZ l a (a + n)) l2) (hh : qQ a 0 n l2) : qR a n b l2 := by
  obtain ⟨h1, h2, h3⟩ := h
  have hal : a < l.length := by omega
  have hnl : a + n < l.length := by omega
  have e1 : kyL l2 (a + n) = kyL l a := by rw [hs.same (by omega), jQ hal hnl, if_pos rfl]
  have e2 : ∀ q, a + n < q → kyL l2 q = kyL l q := fun q hq => by rw [hs.same (by omega), jQ hal hnl, if_neg (by omega), if_neg (by omega)]
  have e3 : ∀ p, p < n → ∃ p', p' < n + 1 ∧ kyL l2 (a + p) = kyL l (a + p') := fun p hp => by
    obtain ⟨k', q1, q2, e⟩ := hs.from (k := a + p) (by omega) (by omega)
    rw [e, jQ hal hnl, if_neg (by omega)]
    by_cases hk : k' = a
    · rw [if_pos hk]; exact ⟨n, by omega, rfl⟩
    · rw [if_neg hk]; exact ⟨k' - a, by omega, by rw [show a + (k' - a) = k' by omega]⟩
  have htop : ∀ p', p' < n + 1 → leB (kyL l (a + p')) (kyL l a) := fun p' hp => h1.top p' hp
  refine ⟨hh, fun p q p1 p2 p3 => ?_, fun p q p1 p2 p3 => ?_⟩
  · rw [e2 q (by omega)]
    by_cases hp : p = a + n
    · subst hp; rw [e1]; exact h3 0 q (by omega) (by omega) p3
    · rw [e2 p (by omega)]; exact h2 p q (by omega) p2 p3
  · obtain ⟨p', g1, g2⟩ := e3 p p1
    rw [g2]
    by_cases hq : q = a + n
    · subst hq; rw [e1]; exact htop p' g1
    · rw [e2 q (by omega)]; exact h3 p' q g1 (by omega) p3
theorem qR.fin {a b : Nat} {l : List RecT} (h : qR a 0 b l) : SegS a b l := h.2.1
theorem SegP.le {a b : Nat} {l l' : List RecT} (h : SegP a b l l') {x : bE} (hx : ∀ k, a ≤ k → k < b → leB x (kyL l k)) : ∀ k, a ≤ k → k < b → leB x (kyL l' k) := fun k h1 h2 => by
  obtain ⟨k', q1, q2, e⟩ := h.from h1 h2
  rw [e]; exact hx k' q1 q2
end Lam
namespace Lam
open Go Go.Proofs
def bG.loops : Nat → bU
 | _ => ⟨[], [], [], [], [], []⟩
def bG.H (c : Ctx) (t0 : AV) (t1 : AV) (h : List AObj) (K : AOut → List AObj → Prop) : Prop :=
 runD (lenD aS h t0) h fun t6 h =>
 runD (jR h aB rZ t6) h fun t10 h =>
 aO false c (.fn (.func 120) [] []) [t10] h (fun t11 h =>
 aO false c (.fn (.func 119) [] []) [t0, (.int .i64 0), t6, t11, t1] h (fun t13 h =>
 K (.ret (.tup [])) h)
 (fun v h => K (.pan v) h))
 (fun v h => K (.pan v) h)
def bT.loops : Nat → bU
 | 2 => ⟨[1, 2, 3, 10, 11], [false, false, false, false, false], [0, 4], [], [], []⟩
 | 15 => ⟨[], [], [], [(2, none), (1, some [69, 70]), (2, none), (2, some [72, 74])], [], []⟩
 | _ => ⟨[], [], [], [], [], []⟩
def bT.L1 (c : Ctx) (K : AOut → List AObj → Prop) (lv : List AV) (h0 : List AObj) (n0 : Nat) (c0 : AV) (c4 : AV) : Prop :=
 ∃ I : Nat → List AV → List AObj → Prop, (∃ n, I n lv h0) ∧ ∀ n h, ∀ t1, ∀ t2, ∀ t3, ∀ t10, ∀ t11, I n [t1, t2, t3, t10, t11] h →
 aL (fun (J2 : AV → AV → AV → AV → AV → List AObj → Prop) =>
 runD (binD aB .sub t2 t1) h fun t23 h =>
 runD (binD aB .leq t23 (.int .i64 12)) h fun t25 h =>
 bC t25
 (aO false c (.fn (.func 126) [] []) [c0, t1, t2, c4] h (fun t30 h =>
 K (.ret (.tup [])) h)
 (fun v h => K (.pan v) h))
 (runD (binD aB .eql t3 (.int .i64 0)) h fun t32 h =>
 bC t32
 (aO false c (.fn (.func 127) [] []) [c0, t1, t2, c4] h (fun t37 h =>
 K (.ret (.tup [])) h)
 (fun v h => K (.pan v) h))
 (runD (unD .not t10) h fun t39 h =>
 aL (fun (J3 : AV → List AObj → Prop) =>
 bC t39
 (aO false c (.fn (.func 128) [] []) [c0, t1, t2, c4] h (fun t44 h =>
 runD (binD aB .sub t3 (.int .i64 1)) h fun t46 h =>
 J3 t46 h)
 (fun v h => K (.pan v) h))
 (J3 t3 h))
 (fun t3 h => aO false c (.fn (.func 129) [] []) [c0, t1, t2, c4] h (fun t52 h =>
 runD (aW t52 0) h fun t53 h =>
 runD (aW t52 1) h fun t54 h =>
 runD (binD mH .eql t54 (.int .i64 2)) h fun t56 h =>
 aL (fun (J4 : AV → AV → List AObj → Prop) =>
 bC t56
 (aO false c (.fn (.func 130) [] []) [c0, t1, t2, c4] h (fun t61 h =>
 runD (binD aB .sub t2 (.int .i64 1)) h fun t63 h =>
 runD (binD aB .sub t53 t1) h fun t66 h =>
 runD (binD aB .sub t63 t66) h fun t67 h =>
 J4 t67 (.int .i64 1) h)
 (fun v h => K (.pan v) h))
 (J4 t53 t54 h))
 (fun t13 t14 h => aL (fun (J5 : AV → AV → List AObj → Prop) =>
 bF t10 true
 (J5 (.bool true) t11 h)
 (J5 (.bool false) .und h))
 (fun t69 t70 h => runD (bV t69 t70 (.bool false)) h fun t71 h =>
 aL (fun (J6 : AV → AV → List AObj → Prop) =>
 bF t71 true
 (runD (binD mH .eql t14 (.int .i64 1)) h fun t74 h =>
 J6 (.bool true) t74 h)
 (J6 (.bool false) .und h))
 (fun t72 t74 h => runD (bV t72 t74 (.bool false)) h fun t75 h =>
 aL (fun (J7 : List AObj → Prop) =>
 bC t75
 (aO false c (.fn (.func 131) [] []) [c0, t1, t2, c4] h (fun t80 h =>
 bC t80
 (K (.ret (.tup [])) h)
 (J7 h))
 (fun v h => K (.pan v) h))
 (J7 h))
 (fun h => runD (binD aB .gtr t1 (.int .i64 0)) h fun t82 h =>
 aL (fun (J8 : AV → AV → List AObj → Prop) =>
 bF t82 true
 (runD (binD aB .sub t1 (.int .i64 1)) h fun t87 h =>
 runD (aG aS h c0 t87) h fun t88 h =>
 runD (fitD aK (aD h t88)) h fun t89 h =>
 runD (aG aS h c0 t13) h fun t92 h =>
 runD (fitD aK (aD h t92)) h fun t93 h =>
 aO false c.noS c4 [t89, t93] h (fun t94 h =>
 runD (binD aB .lss t94 (.int .i64 0)) h fun t95 h =>
 runD (unD .not t95) h fun t96 h =>
 J8 (.bool true) t96 h)
 (fun _ _ => False))
 (J8 (.bool false) .und h))
 (fun t83 t96 h => runD (bV t83 t96 (.bool false)) h fun t97 h =>
 bC t97
 (aO false c (.fn (.func 132) [] []) [c0, t1, t2, t13, c4] h (fun t103 h =>
 J2 t103 t2 t3 t10 t11 h)
 (fun v h => K (.pan v) h))
 (aO false c (.fn (.func 133) [] []) [c0, t1, t2, t13, c4] h (fun t111 h =>
 runD (aW t111 0) h fun t112 h =>
 runD (aW t111 1) h fun t113 h =>
 runD (binD aB .sub t112 t1) h fun t117 h =>
 runD (binD aB .sub t2 t112) h fun t120 h =>
 runD (binD aB .quo t23 (.int .i64 8)) h fun t122 h =>
 runD (binD aB .lss t117 t120) h fun t125 h =>
 aL (fun (J9 : AV → AV → AV → List AObj → Prop) =>
 bC t125
 (runD (binD aB .geq t117 t122) h fun t128 h =>
 aO false c (.fn (.func 119) [] []) [c0, t1, t112, t3, c4] h (fun t134 h =>
 runD (binD aB .add t112 (.int .i64 1)) h fun t136 h =>
 J9 t136 t2 t128 h)
 (fun v h => K (.pan v) h))
 (runD (binD aB .geq t120 t122) h fun t139 h =>
 runD (binD aB .add t112 (.int .i64 1)) h fun t142 h =>
 aO false c (.fn (.func 119) [] []) [c0, t142, t2, t3, c4] h (fun t146 h =>
 J9 t1 t112 t139 h)
 (fun v h => K (.pan v) h)))
 (fun t1 t2 t10 h => J2 t1 t2 t3 t10 t113 h))
 (fun v h => K (.pan v) h))))))))
 (fun v h => K (.pan v) h)))))
 (fun t1 t2 t3 t10 t11 h => (∃ m, m < n ∧ I m (AV.norms n0 h [t1, t2, t3, t10, t11]) (cI n0 h)) ∧ AV.norms n0 h [c0, c4] = [c0, c4])
def bT.H (c : Ctx) (t0 : AV) (t1 : AV) (t2 : AV) (t3 : AV) (t4 : AV) (h : List AObj) (K : AOut → List AObj → Prop) : Prop :=
 aL (fun (J1 : List AObj → Prop) =>
 dK [false, false, false, false, false] [t1, t2, t3, (.bool true), (.bool true)] h fun lv h => bT.L1 c K (AV.norms h.length h lv) (cI h.length h) h.length (AV.norm h.length h t0) (AV.norm h.length h t4))
 (fun h => K (.ret (.tup [])) h)
def bL.loops : Nat → bU
 | _ => ⟨[], [], [], [], [], []⟩
def bL.H (c : Ctx) (t0 : AV) (t1 : AV) (t2 : AV) (t3 : AV) (h : List AObj) (K : AOut → List AObj → Prop) : Prop :=
 runD (binD aB .sub t2 t1) h fun t17 h =>
 cV aB h fun t11 h =>
 runD (binD aB .quo t17 (.int .i64 4)) h fun t20 h =>
 runD (binD aB .mul t20 (.int .i64 1)) h fun t21 h =>
 runD (binD aB .add t1 t21) h fun t22 h =>
 runD (binD aB .quo t17 (.int .i64 4)) h fun t25 h =>
 runD (binD aB .mul t25 (.int .i64 2)) h fun t26 h =>
 runD (binD aB .add t1 t26) h fun t27 h =>
 runD (binD aB .quo t17 (.int .i64 4)) h fun t30 h =>
 runD (binD aB .mul t30 (.int .i64 3)) h fun t31 h =>
 runD (binD aB .add t1 t31) h fun t32 h =>
 runD (binD aB .geq t17 (.int .i64 8)) h fun t34 h =>
 aL (fun (J1 : AV → List AObj → Prop) =>
 bC t34
 (runD (binD aB .geq t17 (.int .i64 50)) h fun t36 h =>
 aL (fun (J2 : AV → AV → AV → List AObj → Prop) =>
 bC t36
 (aO false c (.fn (.func 145) [] []) [t0, t22, t11, t3] h (fun t40 h =>
 aO false c (.fn (.func 145) [] []) [t0, t27, t11, t3] h (fun t44 h =>
 aO false c (.fn (.func 145) [] []) [t0, t32, t11, t3] h (fun t48 h =>
 J2 t40 t44 t48 h)
 (fun v h => K (.pan v) h))
 (fun v h => K (.pan v) h))
 (fun v h => K (.pan v) h))
 (J2 t22 t27 t32 h))
 (fun t12 t13 t14 h => aO false c (.fn (.func 146) [] []) [t0, t12, t13, t14, t11, t3] h (fun t54 h =>
 J1 t54 h)
 (fun v h => K (.pan v) h)))
 (J1 t27 h))
 (fun t13 h => runD (fitD aB (aD h t11)) h fun t55 h =>
 runD (binD aB .eql t55 (.int .i64 0)) h fun t58 h =>
 bC t58
 (K (.ret (.tup [t13, (.int .i64 1)])) h)
 (runD (binD aB .eql t55 (.int .i64 12)) h fun t61 h =>
 bC t61
 (K (.ret (.tup [t13, (.int .i64 2)])) h)
 (K (.ret (.tup [t13, (.int .i64 0)])) h)))
def aF.loops : Nat → bU
 | 3 => ⟨[9, 10], [false, false], [0, 1, 2, 3], [], [], []⟩
 | 5 => ⟨[9], [false], [0, 1, 2, 3, 10], [], [], []⟩
 | 14 => ⟨[11], [false], [0, 1, 2, 3, 9, 10], [], [], []⟩
 | 20 => ⟨[12], [false], [0, 1, 2, 3, 9, 10], [], [], []⟩
 | _ => ⟨[], [], [], [], [], []⟩
def aF.L2 (c : Ctx) (J3 : AV → AV → AV → AV → AV → AV → List AObj → Prop) (K : AOut → List AObj → Prop) (lv : List AV) (h0 : List AObj) (n0 : Nat) (c0 : AV) (c1 : AV) (c2 : AV) (c3 : AV) (c10 : AV) : Prop :=
 ∃ I : Nat → List AV → List AObj → Prop, (∃ n, I n lv h0) ∧ ∀ n h, ∀ t9, I n [t9] h →
 runD (binD aB .lss t9 c2) h fun t21 h =>
 aL (fun (J4 : AV → AV → List AObj → Prop) =>
 bF t21 true
 (runD (aG aS h c0 t9) h fun t26 h =>
 runD (fitD aK (aD h t26)) h fun t27 h =>
 runD (binD aB .sub t9 (.int .i64 1)) h fun t30 h =>
 runD (aG aS h c0 t30) h fun t31 h =>
 runD (fitD aK (aD h t31)) h fun t32 h =>
 aO false c.noS c3 [t27, t32] h (fun t33 h =>
 runD (binD aB .lss t33 (.int .i64 0)) h fun t34 h =>
 runD (unD .not t34) h fun t35 h =>
 J4 (.bool true) t35 h)
 (fun _ _ => False))
 (J4 (.bool false) .und h))
 (fun t22 t35 h => runD (bV t22 t35 (.bool false)) h fun t36 h =>
 bC t36
 (runD (binD aB .add t9 (.int .i64 1)) h fun t38 h =>
 (∃ m, m < n ∧ I m (AV.norms n0 h [t38]) (cI n0 h)) ∧ AV.norms n0 h [c0, c1, c2, c3, c10] = [c0, c1, c2, c3, c10])
 (J3 c0 c1 c2 c3 t9 c10 h))
def aF.L3 (c : Ctx) (J6 : AV → AV → AV → AV → AV → AV → List AObj → Prop) (K : AOut → List AObj → Prop) (lv : List AV) (h0 : List AObj) (n0 : Nat) (c0 : AV) (c1 : AV) (c2 : AV) (c3 : AV) (c9 : AV) (c10 : AV) : Prop :=
 ∃ I : Nat → List AV → List AObj → Prop, (∃ n, I n lv h0) ∧ ∀ n h, ∀ t11, I n [t11] h →
 runD (binD aB .geq t11 (.int .i64 1)) h fun t69 h =>
 bC t69
 (runD (aG aS h c0 t11) h fun t75 h =>
 runD (fitD aK (aD h t75)) h fun t76 h =>
 runD (binD aB .sub t11 (.int .i64 1)) h fun t79 h =>
 runD (aG aS h c0 t79) h fun t80 h =>
 runD (fitD aK (aD h t80)) h fun t81 h =>
 aO false c.noS c3 [t76, t81] h (fun t82 h =>
 runD (binD aB .lss t82 (.int .i64 0)) h fun t83 h =>
 runD (unD .not t83) h fun t84 h =>
 bC t84
 (J6 c0 c1 c2 c3 c9 c10 h)
 (runD (binD aB .sub t11 (.int .i64 1)) h fun t89 h =>
 runD (binD aB .sub t11 (.int .i64 1)) h fun t92 h =>
 runD (aG aS h c0 t92) h fun t93 h =>
 runD (fitD aK (aD h t93)) h fun t94 h =>
 runD (aG aS h c0 t11) h fun t97 h =>
 runD (fitD aK (aD h t97)) h fun t98 h =>
 runD (aG aS h c0 t11) h fun t99 h =>
 runH (aT aK h t99 t94) h fun _ h =>
 runD (aG aS h c0 t89) h fun t100 h =>
 runH (aT aK h t100 t98) h fun _ h =>
 runD (binD aB .sub t11 (.int .i64 1)) h fun t71 h =>
 (∃ m, m < n ∧ I m (AV.norms n0 h [t71]) (cI n0 h)) ∧ AV.norms n0 h [c0, c1, c2, c3, c9, c10] = [c0, c1, c2, c3, c9, c10]))
 (fun _ _ => False))
 (J6 c0 c1 c2 c3 c9 c10 h)
def aF.L4 (c : Ctx) (J8 : AV → AV → AV → AV → AV → AV → List AObj → Prop) (K : AOut → List AObj → Prop) (lv : List AV) (h0 : List AObj) (n0 : Nat) (c0 : AV) (c1 : AV) (c2 : AV) (c3 : AV) (c9 : AV) (c10 : AV) : Prop :=
 ∃ I : Nat → List AV → List AObj → Prop, (∃ n, I n lv h0) ∧ ∀ n h, ∀ t12, I n [t12] h →
 runD (binD aB .lss t12 c2) h fun t109 h =>
 bC t109
 (runD (aG aS h c0 t12) h fun t115 h =>
 runD (fitD aK (aD h t115)) h fun t116 h =>
 runD (binD aB .sub t12 (.int .i64 1)) h fun t119 h =>
 runD (aG aS h c0 t119) h fun t120 h =>
 runD (fitD aK (aD h t120)) h fun t121 h =>
 aO false c.noS c3 [t116, t121] h (fun t122 h =>
 runD (binD aB .lss t122 (.int .i64 0)) h fun t123 h =>
 runD (unD .not t123) h fun t124 h =>
 bC t124
 (J8 c0 c1 c2 c3 c9 c10 h)
 (runD (binD aB .sub t12 (.int .i64 1)) h fun t129 h =>
 runD (binD aB .sub t12 (.int .i64 1)) h fun t132 h =>
 runD (aG aS h c0 t132) h fun t133 h =>
 runD (fitD aK (aD h t133)) h fun t134 h =>
 runD (aG aS h c0 t12) h fun t137 h =>
 runD (fitD aK (aD h t137)) h fun t138 h =>
 runD (aG aS h c0 t12) h fun t139 h =>
 runH (aT aK h t139 t134) h fun _ h =>
 runD (aG aS h c0 t129) h fun t140 h =>
 runH (aT aK h t140 t138) h fun _ h =>
 runD (binD aB .add t12 (.int .i64 1)) h fun t111 h =>
 (∃ m, m < n ∧ I m (AV.norms n0 h [t111]) (cI n0 h)) ∧ AV.norms n0 h [c0, c1, c2, c3, c9, c10] = [c0, c1, c2, c3, c9, c10]))
 (fun _ _ => False))
 (J8 c0 c1 c2 c3 c9 c10 h)
def aF.L1 (c : Ctx) (J1 : List AObj → Prop) (K : AOut → List AObj → Prop) (lv : List AV) (h0 : List AObj) (n0 : Nat) (c0 : AV) (c1 : AV) (c2 : AV) (c3 : AV) : Prop :=
 ∃ I : Nat → List AV → List AObj → Prop, (∃ n, I n lv h0) ∧ ∀ n h, ∀ t9, ∀ t10, I n [t9, t10] h →
 runD (binD aB .lss t10 (.int .i64 5)) h fun t16 h =>
 bC t16
 (aL (fun (J2 : AV → AV → AV → AV → AV → AV → List AObj → Prop) =>
 aL (fun (J3 : AV → AV → AV → AV → AV → AV → List AObj → Prop) =>
 dK [false] [t9] h fun lv h => aF.L2 c J3 K (AV.norms h.length h lv) (cI h.length h) h.length (AV.norm h.length h c0) (AV.norm h.length h c1) (AV.norm h.length h c2) (AV.norm h.length h c3) (AV.norm h.length h t10))
 (fun t0 t1 t2 t3 t9 t10 h => runD (binD aB .eql t9 t2) h fun t41 h =>
 bC t41
 (K (.ret (.bool true)) h)
 (runD (binD aB .sub t2 t1) h fun t44 h =>
 runD (binD aB .lss t44 (.int .i64 50)) h fun t45 h =>
 bC t45
 (K (.ret (.bool false)) h)
 (runD (binD aB .sub t9 (.int .i64 1)) h fun t50 h =>
 runD (binD aB .sub t9 (.int .i64 1)) h fun t53 h =>
 runD (aG aS h t0 t53) h fun t54 h =>
 runD (fitD aK (aD h t54)) h fun t55 h =>
 runD (aG aS h t0 t9) h fun t58 h =>
 runD (fitD aK (aD h t58)) h fun t59 h =>
 runD (aG aS h t0 t9) h fun t60 h =>
 runH (aT aK h t60 t55) h fun _ h =>
 runD (aG aS h t0 t50) h fun t61 h =>
 runH (aT aK h t61 t59) h fun _ h =>
 runD (binD aB .sub t9 t1) h fun t64 h =>
 runD (binD aB .geq t64 (.int .i64 2)) h fun t65 h =>
 aL (fun (J5 : AV → AV → AV → AV → AV → AV → List AObj → Prop) =>
 bC t65
 (runD (binD aB .sub t9 (.int .i64 1)) h fun t67 h =>
 aL (fun (J6 : AV → AV → AV → AV → AV → AV → List AObj → Prop) =>
 dK [false] [t67] h fun lv h => aF.L3 c J6 K (AV.norms h.length h lv) (cI h.length h) h.length (AV.norm h.length h t0) (AV.norm h.length h t1) (AV.norm h.length h t2) (AV.norm h.length h t3) (AV.norm h.length h t9) (AV.norm h.length h t10))
 (fun t0 t1 t2 t3 t9 t10 h => J5 t0 t1 t2 t3 t9 t10 h))
 (J5 t0 t1 t2 t3 t9 t10 h))
 (fun t0 t1 t2 t3 t9 t10 h => runD (binD aB .sub t2 t9) h fun t103 h =>
 runD (binD aB .geq t103 (.int .i64 2)) h fun t104 h =>
 aL (fun (J7 : AV → AV → AV → AV → AV → AV → List AObj → Prop) =>
 bC t104
 (runD (binD aB .add t9 (.int .i64 1)) h fun t106 h =>
 aL (fun (J8 : AV → AV → AV → AV → AV → AV → List AObj → Prop) =>
 dK [false] [t106] h fun lv h => aF.L4 c J8 K (AV.norms h.length h lv) (cI h.length h) h.length (AV.norm h.length h t0) (AV.norm h.length h t1) (AV.norm h.length h t2) (AV.norm h.length h t3) (AV.norm h.length h t9) (AV.norm h.length h t10))
 (fun t0 t1 t2 t3 t9 t10 h => J7 t0 t1 t2 t3 t9 t10 h))
 (J7 t0 t1 t2 t3 t9 t10 h))
 (fun t0 t1 t2 t3 t9 t10 h => J2 t0 t1 t2 t3 t9 t10 h))))))
 (fun t0 t1 t2 t3 t9 t10 h => runD (binD aB .add t10 (.int .i64 1)) h fun t18 h =>
 (∃ m, m < n ∧ I m (AV.norms n0 h [t9, t18]) (cI n0 h)) ∧ AV.norms n0 h [t0, t1, t2, t3] = [c0, c1, c2, c3]))
 (J1 h)
def aF.H (c : Ctx) (t0 : AV) (t1 : AV) (t2 : AV) (t3 : AV) (h : List AObj) (K : AOut → List AObj → Prop) : Prop :=
 runD (binD aB .add t1 (.int .i64 1)) h fun t14 h =>
 aL (fun (J1 : List AObj → Prop) =>
 dK [false, false] [t14, (.int .i64 0)] h fun lv h => aF.L1 c J1 K (AV.norms h.length h lv) (cI h.length h) h.length (AV.norm h.length h t0) (AV.norm h.length h t1) (AV.norm h.length h t2) (AV.norm h.length h t3))
 (fun h => K (.ret (.bool false)) h)
def aJ.loops : Nat → bU
 | 3 => ⟨[12], [false], [0, 1, 4, 13], [], [], []⟩
 | 5 => ⟨[13], [false], [0, 1, 4, 12], [], [], []⟩
 | 13 => ⟨[12], [false], [0, 1, 4, 13], [], [], []⟩
 | 15 => ⟨[13], [false], [0, 1, 4, 12], [], [], []⟩
 | 1013 => ⟨[12, 13], [false, false], [0, 1, 4], [], [], []⟩
 | _ => ⟨[], [], [], [], [], []⟩
def aJ.L1 (c : Ctx) (J1 : AV → AV → AV → AV → AV → List AObj → Prop) (K : AOut → List AObj → Prop) (lv : List AV) (h0 : List AObj) (n0 : Nat) (c0 : AV) (c1 : AV) (c4 : AV) (c13 : AV) : Prop :=
 ∃ I : Nat → List AV → List AObj → Prop, (∃ n, I n lv h0) ∧ ∀ n h, ∀ t12, I n [t12] h →
 runD (binD aB .leq t12 c13) h fun t34 h =>
 aL (fun (J2 : AV → AV → List AObj → Prop) =>
 bF t34 true
 (runD (aG aS h c0 t12) h fun t39 h =>
 runD (fitD aK (aD h t39)) h fun t40 h =>
 runD (aG aS h c0 c1) h fun t43 h =>
 runD (fitD aK (aD h t43)) h fun t44 h =>
 aO false c.noS c4 [t40, t44] h (fun t45 h =>
 runD (binD aB .lss t45 (.int .i64 0)) h fun t46 h =>
 J2 (.bool true) t46 h)
 (fun _ _ => False))
 (J2 (.bool false) .und h))
 (fun t35 t46 h => runD (bV t35 t46 (.bool false)) h fun t47 h =>
 bC t47
 (runD (binD aB .add t12 (.int .i64 1)) h fun t49 h =>
 (∃ m, m < n ∧ I m (AV.norms n0 h [t49]) (cI n0 h)) ∧ AV.norms n0 h [c0, c1, c4, c13] = [c0, c1, c4, c13])
 (J1 c0 c1 c4 t12 c13 h))
def aJ.L2 (c : Ctx) (J3 : AV → AV → AV → AV → AV → List AObj → Prop) (K : AOut → List AObj → Prop) (lv : List AV) (h0 : List AObj) (n0 : Nat) (c0 : AV) (c1 : AV) (c4 : AV) (c12 : AV) : Prop :=
 ∃ I : Nat → List AV → List AObj → Prop, (∃ n, I n lv h0) ∧ ∀ n h, ∀ t13, I n [t13] h →
 runD (binD aB .leq c12 t13) h fun t52 h =>
 aL (fun (J4 : AV → AV → List AObj → Prop) =>
 bF t52 true
 (runD (aG aS h c0 t13) h fun t57 h =>
 runD (fitD aK (aD h t57)) h fun t58 h =>
 runD (aG aS h c0 c1) h fun t61 h =>
 runD (fitD aK (aD h t61)) h fun t62 h =>
 aO false c.noS c4 [t58, t62] h (fun t63 h =>
 runD (binD aB .lss t63 (.int .i64 0)) h fun t64 h =>
 runD (unD .not t64) h fun t65 h =>
 J4 (.bool true) t65 h)
 (fun _ _ => False))
 (J4 (.bool false) .und h))
 (fun t53 t65 h => runD (bV t53 t65 (.bool false)) h fun t66 h =>
 bC t66
 (runD (binD aB .sub t13 (.int .i64 1)) h fun t68 h =>
 (∃ m, m < n ∧ I m (AV.norms n0 h [t68]) (cI n0 h)) ∧ AV.norms n0 h [c0, c1, c4, c12] = [c0, c1, c4, c12])
 (J3 c0 c1 c4 c12 t13 h))
def aJ.L4 (c : Ctx) (J7 : AV → AV → AV → AV → AV → List AObj → Prop) (K : AOut → List AObj → Prop) (lv : List AV) (h0 : List AObj) (n0 : Nat) (c0 : AV) (c1 : AV) (c4 : AV) (c13 : AV) : Prop :=
 ∃ I : Nat → List AV → List AObj → Prop, (∃ n, I n lv h0) ∧ ∀ n h, ∀ t12, I n [t12] h →
 runD (binD aB .leq t12 c13) h fun t107 h =>
 aL (fun (J8 : AV → AV → List AObj → Prop) =>
 bF t107 true
 (runD (aG aS h c0 t12) h fun t112 h =>
 runD (fitD aK (aD h t112)) h fun t113 h =>
 runD (aG aS h c0 c1) h fun t116 h =>
 runD (fitD aK (aD h t116)) h fun t117 h =>
 aO false c.noS c4 [t113, t117] h (fun t118 h =>
 runD (binD aB .lss t118 (.int .i64 0)) h fun t119 h =>
 J8 (.bool true) t119 h)
 (fun _ _ => False))
 (J8 (.bool false) .und h))
 (fun t108 t119 h => runD (bV t108 t119 (.bool false)) h fun t120 h =>
 bC t120
 (runD (binD aB .add t12 (.int .i64 1)) h fun t122 h =>
 (∃ m, m < n ∧ I m (AV.norms n0 h [t122]) (cI n0 h)) ∧ AV.norms n0 h [c0, c1, c4, c13] = [c0, c1, c4, c13])
 (J7 c0 c1 c4 t12 c13 h))
def aJ.L5 (c : Ctx) (J9 : AV → AV → AV → AV → AV → List AObj → Prop) (K : AOut → List AObj → Prop) (lv : List AV) (h0 : List AObj) (n0 : Nat) (c0 : AV) (c1 : AV) (c4 : AV) (c12 : AV) : Prop :=
 ∃ I : Nat → List AV → List AObj → Prop, (∃ n, I n lv h0) ∧ ∀ n h, ∀ t13, I n [t13] h →
 runD (binD aB .leq c12 t13) h fun t125 h =>
 aL (fun (J10 : AV → AV → List AObj → Prop) =>
 bF t125 true
 (runD (aG aS h c0 t13) h fun t130 h =>
 runD (fitD aK (aD h t130)) h fun t131 h =>
 runD (aG aS h c0 c1) h fun t134 h =>
 runD (fitD aK (aD h t134)) h fun t135 h =>
 aO false c.noS c4 [t131, t135] h (fun t136 h =>
 runD (binD aB .lss t136 (.int .i64 0)) h fun t137 h =>
 runD (unD .not t137) h fun t138 h =>
 J10 (.bool true) t138 h)
 (fun _ _ => False))
 (J10 (.bool false) .und h))
 (fun t126 t138 h => runD (bV t126 t138 (.bool false)) h fun t139 h =>
 bC t139
 (runD (binD aB .sub t13 (.int .i64 1)) h fun t141 h =>
 (∃ m, m < n ∧ I m (AV.norms n0 h [t141]) (cI n0 h)) ∧ AV.norms n0 h [c0, c1, c4, c12] = [c0, c1, c4, c12])
 (J9 c0 c1 c4 c12 t13 h))
def aJ.L3 (c : Ctx) (J5 : AV → AV → AV → List AObj → Prop) (K : AOut → List AObj → Prop) (lv : List AV) (h0 : List AObj) (n0 : Nat) (c0 : AV) (c1 : AV) (c4 : AV) : Prop :=
 ∃ I : Nat → List AV → List AObj → Prop, (∃ n, I n lv h0) ∧ ∀ n h, ∀ t12, ∀ t13, I n [t12, t13] h →
 aL (fun (J6 : AV → AV → AV → AV → AV → List AObj → Prop) =>
 aL (fun (J7 : AV → AV → AV → AV → AV → List AObj → Prop) =>
 dK [false] [t12] h fun lv h => aJ.L4 c J7 K (AV.norms h.length h lv) (cI h.length h) h.length (AV.norm h.length h c0) (AV.norm h.length h c1) (AV.norm h.length h c4) (AV.norm h.length h t13))
 (fun t0 t1 t4 t12 t13 h => aL (fun (J9 : AV → AV → AV → AV → AV → List AObj → Prop) =>
 dK [false] [t13] h fun lv h => aJ.L5 c J9 K (AV.norms h.length h lv) (cI h.length h) h.length (AV.norm h.length h t0) (AV.norm h.length h t1) (AV.norm h.length h t4) (AV.norm h.length h t12))
 (fun t0 t1 t4 t12 t13 h => runD (binD aB .gtr t12 t13) h fun t144 h =>
 bC t144
 (J5 t0 t1 t13 h)
 (runD (aG aS h t0 t13) h fun t151 h =>
 runD (fitD aK (aD h t151)) h fun t152 h =>
 runD (aG aS h t0 t12) h fun t155 h =>
 runD (fitD aK (aD h t155)) h fun t156 h =>
 runD (aG aS h t0 t12) h fun t157 h =>
 runH (aT aK h t157 t152) h fun _ h =>
 runD (aG aS h t0 t13) h fun t158 h =>
 runH (aT aK h t158 t156) h fun _ h =>
 runD (binD aB .add t12 (.int .i64 1)) h fun t160 h =>
 runD (binD aB .sub t13 (.int .i64 1)) h fun t162 h =>
 J6 t0 t1 t4 t160 t162 h))))
 (fun t0 t1 t4 t12 t13 h => (∃ m, m < n ∧ I m (AV.norms n0 h [t12, t13]) (cI n0 h)) ∧ AV.norms n0 h [t0, t1, t4] = [c0, c1, c4])
def aJ.H (c : Ctx) (t0 : AV) (t1 : AV) (t2 : AV) (t3 : AV) (t4 : AV) (h : List AObj) (K : AOut → List AObj → Prop) : Prop :=
 runD (aG aS h t0 t3) h fun t20 h =>
 runD (fitD aK (aD h t20)) h fun t21 h =>
 runD (aG aS h t0 t1) h fun t24 h =>
 runD (fitD aK (aD h t24)) h fun t25 h =>
 runD (aG aS h t0 t1) h fun t26 h =>
 runH (aT aK h t26 t21) h fun _ h =>
 runD (aG aS h t0 t3) h fun t27 h =>
 runH (aT aK h t27 t25) h fun _ h =>
 runD (binD aB .add t1 (.int .i64 1)) h fun t29 h =>
 runD (binD aB .sub t2 (.int .i64 1)) h fun t31 h =>
 aL (fun (J1 : AV → AV → AV → AV → AV → List AObj → Prop) =>
 dK [false] [t29] h fun lv h => aJ.L1 c J1 K (AV.norms h.length h lv) (cI h.length h) h.length (AV.norm h.length h t0) (AV.norm h.length h t1) (AV.norm h.length h t4) (AV.norm h.length h t31))
 (fun t0 t1 t4 t12 t13 h => aL (fun (J3 : AV → AV → AV → AV → AV → List AObj → Prop) =>
 dK [false] [t13] h fun lv h => aJ.L2 c J3 K (AV.norms h.length h lv) (cI h.length h) h.length (AV.norm h.length h t0) (AV.norm h.length h t1) (AV.norm h.length h t4) (AV.norm h.length h t12))
 (fun t0 t1 t4 t12 t13 h => runD (binD aB .gtr t12 t13) h fun t71 h =>
 bC t71
 (runD (aG aS h t0 t1) h fun t78 h =>
 runD (fitD aK (aD h t78)) h fun t79 h =>
 runD (aG aS h t0 t13) h fun t82 h =>
 runD (fitD aK (aD h t82)) h fun t83 h =>
 runD (aG aS h t0 t13) h fun t84 h =>
 runH (aT aK h t84 t79) h fun _ h =>
 runD (aG aS h t0 t1) h fun t85 h =>
 runH (aT aK h t85 t83) h fun _ h =>
 K (.ret (.tup [t13, (.bool true)])) h)
 (runD (aG aS h t0 t13) h fun t93 h =>
 runD (fitD aK (aD h t93)) h fun t94 h =>
 runD (aG aS h t0 t12) h fun t97 h =>
 runD (fitD aK (aD h t97)) h fun t98 h =>
 runD (aG aS h t0 t12) h fun t99 h =>
 runH (aT aK h t99 t94) h fun _ h =>
 runD (aG aS h t0 t13) h fun t100 h =>
 runH (aT aK h t100 t98) h fun _ h =>
 runD (binD aB .add t12 (.int .i64 1)) h fun t102 h =>
 runD (binD aB .sub t13 (.int .i64 1)) h fun t104 h =>
 aL (fun (J5 : AV → AV → AV → List AObj → Prop) =>
 dK [false, false] [t102, t104] h fun lv h => aJ.L3 c J5 K (AV.norms h.length h lv) (cI h.length h) h.length (AV.norm h.length h t0) (AV.norm h.length h t1) (AV.norm h.length h t4))
 (fun t0 t1 t13 h => runD (aG aS h t0 t1) h fun t169 h =>
 runD (fitD aK (aD h t169)) h fun t170 h =>
 runD (aG aS h t0 t13) h fun t173 h =>
 runD (fitD aK (aD h t173)) h fun t174 h =>
 runD (aG aS h t0 t13) h fun t175 h =>
 runH (aT aK h t175 t170) h fun _ h =>
 runD (aG aS h t0 t1) h fun t176 h =>
 runH (aT aK h t176 t174) h fun _ h =>
 K (.ret (.tup [t13, (.bool false)])) h))))
def bN.loops : Nat → bU
 | _ => ⟨[], [], [], [], [], []⟩
def bN.H (c : Ctx) (t0 : AV) (t1 : AV) (t2 : AV) (t3 : AV) (t4 : AV) (t5 : AV) (h : List AObj) (K : AOut → List AObj → Prop) : Prop :=
 aO false c (.fn (.func 151) [] []) [t0, t1, t2, t4, t5] h (fun t19 h =>
 runD (aW t19 0) h fun t20 h =>
 runD (aW t19 1) h fun t21 h =>
 aO false c (.fn (.func 151) [] []) [t0, t21, t3, t4, t5] h (fun t28 h =>
 runD (aW t28 0) h fun t29 h =>
 runD (aW t28 1) h fun t30 h =>
 aO false c (.fn (.func 151) [] []) [t0, t20, t29, t4, t5] h (fun t37 h =>
 runD (aW t37 0) h fun t38 h =>
 runD (aW t37 1) h fun t39 h =>
 K (.ret t39) h)
 (fun v h => K (.pan v) h))
 (fun v h => K (.pan v) h))
 (fun v h => K (.pan v) h)
def bS.loops : Nat → bU
 | _ => ⟨[], [], [], [], [], []⟩
def bS.H (c : Ctx) (t0 : AV) (t1 : AV) (t2 : AV) (t3 : AV) (t4 : AV) (h : List AObj) (K : AOut → List AObj → Prop) : Prop :=
 runD (aG aS h t0 t2) h fun t15 h =>
 runD (fitD aK (aD h t15)) h fun t16 h =>
 runD (aG aS h t0 t1) h fun t19 h =>
 runD (fitD aK (aD h t19)) h fun t20 h =>
 aO false c.noS t4 [t16, t20] h (fun t21 h =>
 runD (binD aB .lss t21 (.int .i64 0)) h fun t22 h =>
 bC t22
 (runD (bM t3) h fun t24 h =>
 runD (fitD aB (aD h t24)) h fun t25 h =>
 runD (binD aB .add t25 (.int .i64 1)) h fun t26 h =>
 runD (bM t3) h fun t27 h =>
 runH (aT aB h t27 t26) h fun _ h =>
 K (.ret (.tup [t2, t1])) h)
 (K (.ret (.tup [t1, t2])) h))
 (fun _ _ => False)
theorem bG.eq (F : List (FuncId × aE)) (S : List (FuncId × Con)) (t0 t1 : AV) (h : List AObj) (K : AOut → List AObj → Prop) : funW (ctx F S bG.loops) Tryz.f108 [t0, t1] h K = bG.H (ctx F S bG.loops) t0 t1 h K := by kernel_rfl
theorem bT.eq (F : List (FuncId × aE)) (S : List (FuncId × Con)) (t0 t1 t2 t3 t4 : AV) (h : List AObj) (K : AOut → List AObj → Prop) : funW (ctx F S bT.loops) Tryz.f119 [t0, t1, t2, t3, t4] h K = bT.H (ctx F S bT.loops) t0 t1 t2 t3 t4 h K := by kernel_rfl
theorem bL.eq (F : List (FuncId × aE)) (S : List (FuncId × Con)) (t0 t1 t2 t3 : AV) (h : List AObj) (K : AOut → List AObj → Prop) : funW (ctx F S bL.loops) Tryz.f129 [t0, t1, t2, t3] h K = bL.H (ctx F S bL.loops) t0 t1 t2 t3 h K := by kernel_rfl
theorem aF.eq (F : List (FuncId × aE)) (S : List (FuncId × Con)) (t0 t1 t2 t3 : AV) (h : List AObj) (K : AOut → List AObj → Prop) : funW (ctx F S aF.loops) Tryz.f131 [t0, t1, t2, t3] h K = aF.H (ctx F S aF.loops) t0 t1 t2 t3 h K := by kernel_rfl
theorem aJ.eq (F : List (FuncId × aE)) (S : List (FuncId × Con)) (t0 t1 t2 t3 t4 : AV) (h : List AObj) (K : AOut → List AObj → Prop) : funW (ctx F S aJ.loops) Tryz.f133 [t0, t1, t2, t3, t4] h K = aJ.H (ctx F S aJ.loops) t0 t1 t2 t3 t4 h K := by kernel_rfl
theorem bN.eq (F : List (FuncId × aE)) (S : List (FuncId × Con)) (t0 t1 t2 t3 t4 t5 : AV) (h : List AObj) (K : AOut → List AObj → Prop) : funW (ctx F S bN.loops) Tryz.f146 [t0, t1, t2, t3, t4, t5] h K = bN.H (ctx F S bN.loops) t0 t1 t2 t3 t4 t5 h K := by kernel_rfl
theorem bS.eq (F : List (FuncId × aE)) (S : List (FuncId × Con)) (t0 t1 t2 t3 t4 : AV) (h : List AObj) (K : AOut → List AObj → Prop) : funW (ctx F S bS.loops) Tryz.f151 [t0, t1, t2, t3, t4] h K = bS.H (ctx F S bS.loops) t0 t1 t2 t3 t4 h K := by kernel_rfl
theorem bG.at : Tryz.prog.funcs[108]? = some Tryz.f108 := by kernel_rfl
theorem bG.nm : (Tryz.f108.name == "runtime.NumGoroutine") = false := by kernel_rfl
theorem bG.bd : Tryz.f108.body.isNone = false := by kernel_rfl
theorem bT.at : Tryz.prog.funcs[119]? = some Tryz.f119 := by kernel_rfl
theorem bT.nm : (Tryz.f119.name == "runtime.NumGoroutine") = false := by kernel_rfl
theorem bT.bd : Tryz.f119.body.isNone = false := by kernel_rfl
theorem bL.at : Tryz.prog.funcs[129]? = some Tryz.f129 := by kernel_rfl
theorem bL.nm : (Tryz.f129.name == "runtime.NumGoroutine") = false := by kernel_rfl
theorem bL.bd : Tryz.f129.body.isNone = false := by kernel_rfl
theorem aF.at : Tryz.prog.funcs[131]? = some Tryz.f131 := by kernel_rfl
theorem aF.nm : (Tryz.f131.name == "runtime.NumGoroutine") = false := by kernel_rfl
theorem aF.bd : Tryz.f131.body.isNone = false := by kernel_rfl
theorem aJ.at : Tryz.prog.funcs[133]? = some Tryz.f133 := by kernel_rfl
theorem aJ.nm : (Tryz.f133.name == "runtime.NumGoroutine") = false := by kernel_rfl
theorem aJ.bd : Tryz.f133.body.isNone = false := by kernel_rfl
theorem bN.at : Tryz.prog.funcs[146]? = some Tryz.f146 := by kernel_rfl
theorem bN.nm : (Tryz.f146.name == "runtime.NumGoroutine") = false := by kernel_rfl
theorem bN.bd : Tryz.f146.body.isNone = false := by kernel_rfl
theorem bS.at : Tryz.prog.funcs[151]? = some Tryz.f151 := by kernel_rfl
theorem bS.nm : (Tryz.f151.name == "runtime.NumGoroutine") = false := by kernel_rfl
theorem bS.bd : Tryz.f151.body.isNone = false := by kernel_rfl
end Lam
namespace Lam
open Go Go.Proofs
def aP.loops : Nat → bU
 | 1 => ⟨[8], [false], [0, 1, 2, 3], [], [], []⟩
 | 4 => ⟨[9], [false], [0, 1, 2, 3, 8], [], [], []⟩
 | _ => ⟨[], [], [], [], [], []⟩
def aP.L2 (c : Ctx) (J3 : AV → AV → AV → AV → AV → List AObj → Prop) (K : AOut → List AObj → Prop) (lv : List AV) (h0 : List AObj) (n0 : Nat) (c0 : AV) (c1 : AV) (c2 : AV) (c3 : AV) (c8 : AV) : Prop :=
 ∃ I : Nat → List AV → List AObj → Prop, (∃ n, I n lv h0) ∧ ∀ n h, ∀ t9, I n [t9] h →
 runD (binD aB .gtr t9 c1) h fun t20 h =>
 aL (fun (J4 : AV → AV → List AObj → Prop) =>
 bF t20 true
 (runD (aG aS h c0 t9) h fun t25 h =>
 runD (fitD aK (aD h t25)) h fun t26 h =>
 runD (binD aB .sub t9 (.int .i64 1)) h fun t29 h =>
 runD (aG aS h c0 t29) h fun t30 h =>
 runD (fitD aK (aD h t30)) h fun t31 h =>
 aO false c.noS c3 [t26, t31] h (fun t32 h =>
 runD (binD aB .lss t32 (.int .i64 0)) h fun t33 h =>
 J4 (.bool true) t33 h)
 (fun _ _ => False))
 (J4 (.bool false) .und h))
 (fun t21 t33 h => runD (bV t21 t33 (.bool false)) h fun t34 h =>
 bC t34
 (runD (binD aB .sub t9 (.int .i64 1)) h fun t41 h =>
 runD (binD aB .sub t9 (.int .i64 1)) h fun t44 h =>
 runD (aG aS h c0 t44) h fun t45 h =>
 runD (fitD aK (aD h t45)) h fun t46 h =>
 runD (aG aS h c0 t9) h fun t49 h =>
 runD (fitD aK (aD h t49)) h fun t50 h =>
 runD (aG aS h c0 t9) h fun t51 h =>
 runH (aT aK h t51 t46) h fun _ h =>
 runD (aG aS h c0 t41) h fun t52 h =>
 runH (aT aK h t52 t50) h fun _ h =>
 runD (binD aB .sub t9 (.int .i64 1)) h fun t36 h =>
 (∃ m, m < n ∧ I m (AV.norms n0 h [t36]) (cI n0 h)) ∧ AV.norms n0 h [c0, c1, c2, c3, c8] = [c0, c1, c2, c3, c8])
 (J3 c0 c1 c2 c3 c8 h))
def aP.L1 (c : Ctx) (J1 : List AObj → Prop) (K : AOut → List AObj → Prop) (lv : List AV) (h0 : List AObj) (n0 : Nat) (c0 : AV) (c1 : AV) (c2 : AV) (c3 : AV) : Prop :=
 ∃ I : Nat → List AV → List AObj → Prop, (∃ n, I n lv h0) ∧ ∀ n h, ∀ t8, I n [t8] h →
 runD (binD aB .lss t8 c2) h fun t14 h =>
 bC t14
 (aL (fun (J2 : AV → AV → AV → AV → AV → List AObj → Prop) =>
 aL (fun (J3 : AV → AV → AV → AV → AV → List AObj → Prop) =>
 dK [false] [t8] h fun lv h => aP.L2 c J3 K (AV.norms h.length h lv) (cI h.length h) h.length (AV.norm h.length h c0) (AV.norm h.length h c1) (AV.norm h.length h c2) (AV.norm h.length h c3) (AV.norm h.length h t8))
 (fun t0 t1 t2 t3 t8 h => J2 t0 t1 t2 t3 t8 h))
 (fun t0 t1 t2 t3 t8 h => runD (binD aB .add t8 (.int .i64 1)) h fun t16 h =>
 (∃ m, m < n ∧ I m (AV.norms n0 h [t16]) (cI n0 h)) ∧ AV.norms n0 h [t0, t1, t2, t3] = [c0, c1, c2, c3]))
 (J1 h)
def aP.H (c : Ctx) (t0 : AV) (t1 : AV) (t2 : AV) (t3 : AV) (h : List AObj) (K : AOut → List AObj → Prop) : Prop :=
 runD (binD aB .add t1 (.int .i64 1)) h fun t11 h =>
 aL (fun (J1 : List AObj → Prop) =>
 dK [false] [t11] h fun lv h => aP.L1 c J1 K (AV.norms h.length h lv) (cI h.length h) h.length (AV.norm h.length h t0) (AV.norm h.length h t1) (AV.norm h.length h t2) (AV.norm h.length h t3))
 (fun h => K (.ret (.tup [])) h)
theorem aP.eq (F : List (FuncId × aE)) (S : List (FuncId × Con)) (t0 t1 t2 t3 : AV) (h : List AObj) (K : AOut → List AObj → Prop) : funW (ctx F S aP.loops) Tryz.f126 [t0, t1, t2, t3] h K = aP.H (ctx F S aP.loops) t0 t1 t2 t3 h K := by kernel_rfl
theorem aP.at : Tryz.prog.funcs[126]? = some Tryz.f126 := by kernel_rfl
theorem aP.nm : (Tryz.f126.name == "runtime.NumGoroutine") = false := by kernel_rfl
theorem aP.bd : Tryz.f126.body.isNone = false := by kernel_rfl
end Lam
namespace Lam
open Go Go.Proofs
def bB.loops : Nat → bU
 | 4 => ⟨[11], [false], [0, 3, 8, 9, 10], [], [], []⟩
 | 8 => ⟨[12], [false], [0, 3, 8, 9], [], [], []⟩
 | _ => ⟨[], [], [], [], [], []⟩
def bB.L1 (c : Ctx) (J1 : AV → AV → AV → AV → AV → List AObj → Prop) (K : AOut → List AObj → Prop) (lv : List AV) (h0 : List AObj) (n0 : Nat) (c0 : AV) (c3 : AV) (c8 : AV) (c9 : AV) (c10 : AV) : Prop :=
 ∃ I : Nat → List AV → List AObj → Prop, (∃ n, I n lv h0) ∧ ∀ n h, ∀ t11, I n [t11] h →
 runD (binD aB .geq t11 (.int .i64 0)) h fun t21 h =>
 bC t21
 (aO false c (.fn (.func 142) [] []) [c0, t11, c10, c8, c3] h (fun t29 h =>
 runD (binD aB .sub t11 (.int .i64 1)) h fun t23 h =>
 (∃ m, m < n ∧ I m (AV.norms n0 h [t23]) (cI n0 h)) ∧ AV.norms n0 h [c0, c3, c8, c9, c10] = [c0, c3, c8, c9, c10])
 (fun v h => K (.pan v) h))
 (J1 c0 c3 c8 c9 c10 h)
def bB.L2 (c : Ctx) (J2 : List AObj → Prop) (K : AOut → List AObj → Prop) (lv : List AV) (h0 : List AObj) (n0 : Nat) (c0 : AV) (c3 : AV) (c8 : AV) (c9 : AV) : Prop :=
 ∃ I : Nat → List AV → List AObj → Prop, (∃ n, I n lv h0) ∧ ∀ n h, ∀ t12, I n [t12] h →
 runD (binD aB .geq t12 (.int .i64 0)) h fun t33 h =>
 bC t33
 (runD (binD aB .add c8 t12) h fun t41 h =>
 runD (binD aB .add c8 t12) h fun t45 h =>
 runD (aG aS h c0 t45) h fun t46 h =>
 runD (fitD aK (aD h t46)) h fun t47 h =>
 runD (aG aS h c0 c8) h fun t50 h =>
 runD (fitD aK (aD h t50)) h fun t51 h =>
 runD (aG aS h c0 c8) h fun t52 h =>
 runH (aT aK h t52 t47) h fun _ h =>
 runD (aG aS h c0 t41) h fun t53 h =>
 runH (aT aK h t53 t51) h fun _ h =>
 aO false c (.fn (.func 142) [] []) [c0, c9, t12, c8, c3] h (fun t59 h =>
 runD (binD aB .sub t12 (.int .i64 1)) h fun t35 h =>
 (∃ m, m < n ∧ I m (AV.norms n0 h [t35]) (cI n0 h)) ∧ AV.norms n0 h [c0, c3, c8, c9] = [c0, c3, c8, c9])
 (fun v h => K (.pan v) h))
 (J2 h)
def bB.H (c : Ctx) (t0 : AV) (t1 : AV) (t2 : AV) (t3 : AV) (h : List AObj) (K : AOut → List AObj → Prop) : Prop :=
 runD (binD aB .sub t2 t1) h fun t16 h =>
 runD (binD aB .sub t16 (.int .i64 1)) h fun t18 h =>
 runD (binD aB .quo t18 (.int .i64 2)) h fun t19 h =>
 aL (fun (J1 : AV → AV → AV → AV → AV → List AObj → Prop) =>
 dK [false] [t19] h fun lv h => bB.L1 c J1 K (AV.norms h.length h lv) (cI h.length h) h.length (AV.norm h.length h t0) (AV.norm h.length h t3) (AV.norm h.length h t1) (AV.norm h.length h (.int .i64 0)) (AV.norm h.length h t16))
 (fun t0 t3 t8 t9 t10 h => runD (binD aB .sub t10 (.int .i64 1)) h fun t31 h =>
 aL (fun (J2 : List AObj → Prop) =>
 dK [false] [t31] h fun lv h => bB.L2 c J2 K (AV.norms h.length h lv) (cI h.length h) h.length (AV.norm h.length h t0) (AV.norm h.length h t3) (AV.norm h.length h t8) (AV.norm h.length h t9))
 (fun h => K (.ret (.tup [])) h))
def aV.loops : Nat → bU
 | 5 => ⟨[11], [false], [0, 1, 8, 9, 10], [], [], []⟩
 | _ => ⟨[], [], [], [], [], []⟩
def aV.L1 (c : Ctx) (J2 : List AObj → Prop) (K : AOut → List AObj → Prop) (lv : List AV) (h0 : List AObj) (n0 : Nat) (c0 : AV) (c1 : AV) (c8 : AV) (c9 : AV) (c10 : AV) : Prop :=
 ∃ I : Nat → List AV → List AObj → Prop, (∃ n, I n lv h0) ∧ ∀ n h, ∀ t11, I n [t11] h →
 runD (binD aB .quo c8 (.int .i64 4)) h fun t31 h =>
 runD (binD aB .mul t31 (.int .i64 2)) h fun t32 h =>
 runD (binD aB .add c1 t32) h fun t33 h =>
 runD (binD aB .add t33 (.int .i64 1)) h fun t34 h =>
 runD (binD aB .leq t11 t34) h fun t35 h =>
 bC t35
 (aO false c (.fn (.func 144) [] []) [c9] h (fun t38 h =>
 runD (binD rZ .sub c10 (.int .u64 1)) h fun t40 h =>
 runD (binD rZ .and t38 t40) h fun t41 h =>
 runD (jR h rZ aB t41) h fun t42 h =>
 runD (binD aB .geq t42 c8) h fun t45 h =>
 aL (fun (J3 : AV → List AObj → Prop) =>
 bC t45
 (runD (binD aB .sub t42 c8) h fun t48 h =>
 J3 t48 h)
 (J3 t42 h))
 (fun t12 h => runD (binD aB .add c1 t12) h fun t54 h =>
 runD (binD aB .add c1 t12) h fun t58 h =>
 runD (aG aS h c0 t58) h fun t59 h =>
 runD (fitD aK (aD h t59)) h fun t60 h =>
 runD (aG aS h c0 t11) h fun t63 h =>
 runD (fitD aK (aD h t63)) h fun t64 h =>
 runD (aG aS h c0 t11) h fun t65 h =>
 runH (aT aK h t65 t60) h fun _ h =>
 runD (aG aS h c0 t54) h fun t66 h =>
 runH (aT aK h t66 t64) h fun _ h =>
 runD (binD aB .add t11 (.int .i64 1)) h fun t37 h =>
 (∃ m, m < n ∧ I m (AV.norms n0 h [t37]) (cI n0 h)) ∧ AV.norms n0 h [c0, c1, c8, c9, c10] = [c0, c1, c8, c9, c10]))
 (fun v h => K (.pan v) h))
 (J2 h)
def aV.H (c : Ctx) (t0 : AV) (t1 : AV) (t2 : AV) (t3 : AV) (h : List AObj) (K : AOut → List AObj → Prop) : Prop :=
 runD (binD aB .sub t2 t1) h fun t15 h =>
 runD (binD aB .geq t15 (.int .i64 8)) h fun t17 h =>
 aL (fun (J1 : List AObj → Prop) =>
 bC t17
 (runD (jR h aB dE t15) h fun t19 h =>
 cV dE h fun t9 h =>
 runH (aT dE h t9 t19) h fun _ h =>
 aO false c (.fn (.func 143) [] []) [t15] h (fun t21 h =>
 runD (binD aB .quo t15 (.int .i64 4)) h fun t24 h =>
 runD (binD aB .mul t24 (.int .i64 2)) h fun t25 h =>
 runD (binD aB .add t1 t25) h fun t26 h =>
 runD (binD aB .sub t26 (.int .i64 1)) h fun t27 h =>
 aL (fun (J2 : List AObj → Prop) =>
 dK [false] [t27] h fun lv h => aV.L1 c J2 K (AV.norms h.length h lv) (cI h.length h) h.length (AV.norm h.length h t0) (AV.norm h.length h t1) (AV.norm h.length h t15) (AV.norm h.length h t9) (AV.norm h.length h t21))
 (fun h => J1 h))
 (fun v h => K (.pan v) h))
 (J1 h))
 (fun h => K (.ret (.tup [])) h)
def aX.loops : Nat → bU
 | 2 => ⟨[8, 9], [false, false], [0], [], [], []⟩
 | _ => ⟨[], [], [], [], [], []⟩
def aX.L1 (c : Ctx) (J1 : List AObj → Prop) (K : AOut → List AObj → Prop) (lv : List AV) (h0 : List AObj) (n0 : Nat) (c0 : AV) : Prop :=
 ∃ I : Nat → List AV → List AObj → Prop, (∃ n, I n lv h0) ∧ ∀ n h, ∀ t8, ∀ t9, I n [t8, t9] h →
 runD (binD aB .lss t8 t9) h fun t15 h =>
 bC t15
 (runD (aG aS h c0 t9) h fun t22 h =>
 runD (fitD aK (aD h t22)) h fun t23 h =>
 runD (aG aS h c0 t8) h fun t26 h =>
 runD (fitD aK (aD h t26)) h fun t27 h =>
 runD (aG aS h c0 t8) h fun t28 h =>
 runH (aT aK h t28 t23) h fun _ h =>
 runD (aG aS h c0 t9) h fun t29 h =>
 runH (aT aK h t29 t27) h fun _ h =>
 runD (binD aB .add t8 (.int .i64 1)) h fun t31 h =>
 runD (binD aB .sub t9 (.int .i64 1)) h fun t33 h =>
 (∃ m, m < n ∧ I m (AV.norms n0 h [t31, t33]) (cI n0 h)) ∧ AV.norms n0 h [c0] = [c0])
 (J1 h)
def aX.H (c : Ctx) (t0 : AV) (t1 : AV) (t2 : AV) (t3 : AV) (h : List AObj) (K : AOut → List AObj → Prop) : Prop :=
 runD (binD aB .sub t2 (.int .i64 1)) h fun t12 h =>
 aL (fun (J1 : List AObj → Prop) =>
 dK [false, false] [t1, t12] h fun lv h => aX.L1 c J1 K (AV.norms h.length h lv) (cI h.length h) h.length (AV.norm h.length h t0))
 (fun h => K (.ret (.tup [])) h)
def bI.loops : Nat → bU
 | 1 => ⟨[10], [false], [0, 2, 3, 4], [], [], []⟩
 | _ => ⟨[], [], [], [], [], []⟩
def bI.L1 (c : Ctx) (J1 : List AObj → Prop) (K : AOut → List AObj → Prop) (lv : List AV) (h0 : List AObj) (n0 : Nat) (c0 : AV) (c2 : AV) (c3 : AV) (c4 : AV) : Prop :=
 ∃ I : Nat → List AV → List AObj → Prop, (∃ n, I n lv h0) ∧ ∀ n h, ∀ t10, I n [t10] h →
 runD (binD aB .mul (.int .i64 2) t10) h fun t14 h =>
 runD (binD aB .add t14 (.int .i64 1)) h fun t15 h =>
 runD (binD aB .geq t15 c2) h fun t18 h =>
 bC t18
 (J1 h)
 (runD (binD aB .add t15 (.int .i64 1)) h fun t20 h =>
 runD (binD aB .lss t20 c2) h fun t22 h =>
 aL (fun (J2 : AV → AV → List AObj → Prop) =>
 bF t22 true
 (runD (binD aB .add c3 t15) h fun t28 h =>
 runD (aG aS h c0 t28) h fun t29 h =>
 runD (fitD aK (aD h t29)) h fun t30 h =>
 runD (binD aB .add c3 t15) h fun t34 h =>
 runD (binD aB .add t34 (.int .i64 1)) h fun t35 h =>
 runD (aG aS h c0 t35) h fun t36 h =>
 runD (fitD aK (aD h t36)) h fun t37 h =>
 aO false c.noS c4 [t30, t37] h (fun t38 h =>
 runD (binD aB .lss t38 (.int .i64 0)) h fun t39 h =>
 J2 (.bool true) t39 h)
 (fun _ _ => False))
 (J2 (.bool false) .und h))
 (fun t23 t39 h => runD (bV t23 t39 (.bool false)) h fun t40 h =>
 aL (fun (J3 : AV → List AObj → Prop) =>
 bC t40
 (runD (binD aB .add t15 (.int .i64 1)) h fun t42 h =>
 J3 t42 h)
 (J3 t15 h))
 (fun t11 h => runD (binD aB .add c3 t10) h fun t47 h =>
 runD (aG aS h c0 t47) h fun t48 h =>
 runD (fitD aK (aD h t48)) h fun t49 h =>
 runD (binD aB .add c3 t11) h fun t53 h =>
 runD (aG aS h c0 t53) h fun t54 h =>
 runD (fitD aK (aD h t54)) h fun t55 h =>
 aO false c.noS c4 [t49, t55] h (fun t56 h =>
 runD (binD aB .lss t56 (.int .i64 0)) h fun t57 h =>
 runD (unD .not t57) h fun t58 h =>
 bC t58
 (K (.ret (.tup [])) h)
 (runD (binD aB .add c3 t10) h fun t62 h =>
 runD (binD aB .add c3 t11) h fun t66 h =>
 runD (binD aB .add c3 t11) h fun t70 h =>
 runD (aG aS h c0 t70) h fun t71 h =>
 runD (fitD aK (aD h t71)) h fun t72 h =>
 runD (binD aB .add c3 t10) h fun t76 h =>
 runD (aG aS h c0 t76) h fun t77 h =>
 runD (fitD aK (aD h t77)) h fun t78 h =>
 runD (aG aS h c0 t62) h fun t79 h =>
 runH (aT aK h t79 t72) h fun _ h =>
 runD (aG aS h c0 t66) h fun t80 h =>
 runH (aT aK h t80 t78) h fun _ h =>
 (∃ m, m < n ∧ I m (AV.norms n0 h [t11]) (cI n0 h)) ∧ AV.norms n0 h [c0, c2, c3, c4] = [c0, c2, c3, c4]))
 (fun _ _ => False))))
def bI.H (c : Ctx) (t0 : AV) (t1 : AV) (t2 : AV) (t3 : AV) (t4 : AV) (h : List AObj) (K : AOut → List AObj → Prop) : Prop :=
 aL (fun (J1 : List AObj → Prop) =>
 dK [false] [t1] h fun lv h => bI.L1 c J1 K (AV.norms h.length h lv) (cI h.length h) h.length (AV.norm h.length h t0) (AV.norm h.length h t2) (AV.norm h.length h t3) (AV.norm h.length h t4))
 (fun h => K (.ret (.tup [])) h)
def cP.loops : Nat → bU
 | _ => ⟨[], [], [], [], [], []⟩
def cP.H (c : Ctx) (t0 : AV) (h : List AObj) (K : AOut → List AObj → Prop) : Prop :=
 runD (jR h aB rZ t0) h fun t4 h =>
 aO false c (.fn (.func 120) [] []) [t4] h (fun t5 h =>
 runD (binD rZ .shl (.int .u64 1) t5) h fun t6 h =>
 K (.ret t6) h)
 (fun v h => K (.pan v) h)
def cM.loops : Nat → bU
 | _ => ⟨[], [], [], [], [], []⟩
def cM.H (c : Ctx) (t0 : AV) (h : List AObj) (K : AOut → List AObj → Prop) : Prop :=
 runD (bM t0) h fun t4 h =>
 runD (fitD dE (aD h t4)) h fun t5 h =>
 runD (bM t0) h fun t7 h =>
 runD (fitD dE (aD h t7)) h fun t8 h =>
 runD (binD dE .shl t8 (.int .u64 13)) h fun t9 h =>
 runD (binD dE .xor t5 t9) h fun t10 h =>
 runD (bM t0) h fun t11 h =>
 runH (aT dE h t11 t10) h fun _ h =>
 runD (bM t0) h fun t13 h =>
 runD (fitD dE (aD h t13)) h fun t14 h =>
 runD (bM t0) h fun t16 h =>
 runD (fitD dE (aD h t16)) h fun t17 h =>
 runD (binD dE .shr t17 (.int .u64 7)) h fun t18 h =>
 runD (binD dE .xor t14 t18) h fun t19 h =>
 runD (bM t0) h fun t20 h =>
 runH (aT dE h t20 t19) h fun _ h =>
 runD (bM t0) h fun t22 h =>
 runD (fitD dE (aD h t22)) h fun t23 h =>
 runD (bM t0) h fun t25 h =>
 runD (fitD dE (aD h t25)) h fun t26 h =>
 runD (binD dE .shl t26 (.int .u64 17)) h fun t27 h =>
 runD (binD dE .xor t23 t27) h fun t28 h =>
 runD (bM t0) h fun t29 h =>
 runH (aT dE h t29 t28) h fun _ h =>
 runD (bM t0) h fun t31 h =>
 runD (fitD dE (aD h t31)) h fun t32 h =>
 K (.ret t32) h
def aZ.loops : Nat → bU
 | _ => ⟨[], [], [], [], [], []⟩
def aZ.H (c : Ctx) (t0 : AV) (t1 : AV) (t2 : AV) (t3 : AV) (h : List AObj) (K : AOut → List AObj → Prop) : Prop :=
 runD (binD aB .sub t1 (.int .i64 1)) h fun t11 h =>
 runD (binD aB .add t1 (.int .i64 1)) h fun t14 h =>
 aO false c (.fn (.func 146) [] []) [t0, t11, t1, t14, t2, t3] h (fun t17 h =>
 K (.ret t17) h)
 (fun v h => K (.pan v) h)
theorem bB.eq (F : List (FuncId × aE)) (S : List (FuncId × Con)) (t0 t1 t2 t3 : AV) (h : List AObj) (K : AOut → List AObj → Prop) : funW (ctx F S bB.loops) Tryz.f127 [t0, t1, t2, t3] h K = bB.H (ctx F S bB.loops) t0 t1 t2 t3 h K := by kernel_rfl
theorem aV.eq (F : List (FuncId × aE)) (S : List (FuncId × Con)) (t0 t1 t2 t3 : AV) (h : List AObj) (K : AOut → List AObj → Prop) : funW (ctx F S aV.loops) Tryz.f128 [t0, t1, t2, t3] h K = aV.H (ctx F S aV.loops) t0 t1 t2 t3 h K := by kernel_rfl
theorem aX.eq (F : List (FuncId × aE)) (S : List (FuncId × Con)) (t0 t1 t2 t3 : AV) (h : List AObj) (K : AOut → List AObj → Prop) : funW (ctx F S aX.loops) Tryz.f130 [t0, t1, t2, t3] h K = aX.H (ctx F S aX.loops) t0 t1 t2 t3 h K := by kernel_rfl
theorem bI.eq (F : List (FuncId × aE)) (S : List (FuncId × Con)) (t0 t1 t2 t3 t4 : AV) (h : List AObj) (K : AOut → List AObj → Prop) : funW (ctx F S bI.loops) Tryz.f142 [t0, t1, t2, t3, t4] h K = bI.H (ctx F S bI.loops) t0 t1 t2 t3 t4 h K := by kernel_rfl
theorem cP.eq (F : List (FuncId × aE)) (S : List (FuncId × Con)) (t0 : AV) (h : List AObj) (K : AOut → List AObj → Prop) : funW (ctx F S cP.loops) Tryz.f143 [t0] h K = cP.H (ctx F S cP.loops) t0 h K := by kernel_rfl
theorem cM.eq (F : List (FuncId × aE)) (S : List (FuncId × Con)) (t0 : AV) (h : List AObj) (K : AOut → List AObj → Prop) : funW (ctx F S cM.loops) Tryz.f144 [t0] h K = cM.H (ctx F S cM.loops) t0 h K := by kernel_rfl
theorem aZ.eq (F : List (FuncId × aE)) (S : List (FuncId × Con)) (t0 t1 t2 t3 : AV) (h : List AObj) (K : AOut → List AObj → Prop) : funW (ctx F S aZ.loops) Tryz.f145 [t0, t1, t2, t3] h K = aZ.H (ctx F S aZ.loops) t0 t1 t2 t3 h K := by kernel_rfl
theorem bB.at : Tryz.prog.funcs[127]? = some Tryz.f127 := by kernel_rfl
theorem bB.nm : (Tryz.f127.name == "runtime.NumGoroutine") = false := by kernel_rfl
theorem bB.bd : Tryz.f127.body.isNone = false := by kernel_rfl
theorem aV.at : Tryz.prog.funcs[128]? = some Tryz.f128 := by kernel_rfl
theorem aV.nm : (Tryz.f128.name == "runtime.NumGoroutine") = false := by kernel_rfl
theorem aV.bd : Tryz.f128.body.isNone = false := by kernel_rfl
theorem aX.at : Tryz.prog.funcs[130]? = some Tryz.f130 := by kernel_rfl
theorem aX.nm : (Tryz.f130.name == "runtime.NumGoroutine") = false := by kernel_rfl
theorem aX.bd : Tryz.f130.body.isNone = false := by kernel_rfl
theorem bI.at : Tryz.prog.funcs[142]? = some Tryz.f142 := by kernel_rfl
theorem bI.nm : (Tryz.f142.name == "runtime.NumGoroutine") = false := by kernel_rfl
theorem bI.bd : Tryz.f142.body.isNone = false := by kernel_rfl
theorem cP.at : Tryz.prog.funcs[143]? = some Tryz.f143 := by kernel_rfl
theorem cP.nm : (Tryz.f143.name == "runtime.NumGoroutine") = false := by kernel_rfl
theorem cP.bd : Tryz.f143.body.isNone = false := by kernel_rfl
theorem cM.at : Tryz.prog.funcs[144]? = some Tryz.f144 := by kernel_rfl
theorem cM.nm : (Tryz.f144.name == "runtime.NumGoroutine") = false := by kernel_rfl
theorem cM.bd : Tryz.f144.body.isNone = false := by kernel_rfl
theorem aZ.at : Tryz.prog.funcs[145]? = some Tryz.f145 := by kernel_rfl
theorem aZ.nm : (Tryz.f145.name == "runtime.NumGoroutine") = false := by kernel_rfl
theorem aZ.bd : Tryz.f145.body.isNone = false := by kernel_rfl
end Lam
namespace Lam
open Go Go.Proofs
def cY.loops : Nat → bU
 | _ => ⟨[], [], [], [], [], []⟩
def cY.H (c : Ctx) (t0 : AV) (t1 : AV) (h : List AObj) (K : AOut → List AObj → Prop) : Prop :=
 aO false c (.fn (.func 121) [] []) [t0] h (fun t8 h =>
 aO false c (.fn (.func 121) [] []) [t1] h (fun t10 h =>
 bC t8
 (bC t10
 (K (.ret (.int .i64 0)) h)
 (K (.ret (.int .i64 (-1))) h))
 (bC t10
 (K (.ret (.int .i64 1)) h)
 (runD (binD cB .lss t0 t1) h fun t16 h =>
 bC t16
 (K (.ret (.int .i64 (-1))) h)
 (runD (binD cB .gtr t0 t1) h fun t19 h =>
 bC t19
 (K (.ret (.int .i64 1)) h)
 (K (.ret (.int .i64 0)) h)))))
 (fun v h => K (.pan v) h))
 (fun v h => K (.pan v) h)
def dO.loops : Nat → bU
 | _ => ⟨[], [], [], [], [], []⟩
def dO.H (c : Ctx) (t0 : AV) (h : List AObj) (K : AOut → List AObj → Prop) : Prop :=
 runD (binD cB .neq t0 t0) h fun t5 h =>
 K (.ret t5) h
theorem cY.eq (F : List (FuncId × aE)) (S : List (FuncId × Con)) (t0 t1 : AV) (h : List AObj) (K : AOut → List AObj → Prop) : funW (ctx F S cY.loops) Tryz.f110 [t0, t1] h K = cY.H (ctx F S cY.loops) t0 t1 h K := by kernel_rfl
theorem dO.eq (F : List (FuncId × aE)) (S : List (FuncId × Con)) (t0 : AV) (h : List AObj) (K : AOut → List AObj → Prop) : funW (ctx F S dO.loops) Tryz.f121 [t0] h K = dO.H (ctx F S dO.loops) t0 h K := by kernel_rfl
theorem cY.at : Tryz.prog.funcs[110]? = some Tryz.f110 := by kernel_rfl
theorem cY.nm : (Tryz.f110.name == "runtime.NumGoroutine") = false := by kernel_rfl
theorem cY.bd : Tryz.f110.body.isNone = false := by kernel_rfl
theorem dO.at : Tryz.prog.funcs[121]? = some Tryz.f121 := by kernel_rfl
theorem dO.nm : (Tryz.f121.name == "runtime.NumGoroutine") = false := by kernel_rfl
theorem dO.bd : Tryz.f121.body.isNone = false := by kernel_rfl
end Lam
namespace Lam
open Go Go.Proofs
def dP.loops : Nat → bU
 | _ => ⟨[], [], [], [], [], []⟩
def dP.H (c : Ctx) (t0 : AV) (h : List AObj) (K : AOut → List AObj → Prop) : Prop :=
 bC (.bool false)
 (runD (jR h rZ kK t0) h fun t4 h =>
 aO false c (.fn (.func 134) [] []) [t4] h (fun t5 h =>
 K (.ret t5) h)
 (fun v h => K (.pan v) h))
 (aO false c (.fn (.func 135) [] []) [t0] h (fun t7 h =>
 K (.ret t7) h)
 (fun v h => K (.pan v) h))
def eA.loops : Nat → bU
 | _ => ⟨[], [], [], [], [], []⟩
def eA.H (c : Ctx) (t0 : AV) (h : List AObj) (K : AOut → List AObj → Prop) : Prop :=
 runD (binD lO .geq t0 (.int .u64 4294967296)) h fun t4 h =>
 aL (fun (J1 : AV → AV → List AObj → Prop) =>
 bC t4
 (runD (binD lO .shr t0 (.int .u64 32)) h fun t6 h =>
 J1 t6 (.int .i64 32) h)
 (J1 t0 (.int .i64 0) h))
 (fun t0 t2 h => runD (binD lO .geq t0 (.int .u64 65536)) h fun t8 h =>
 aL (fun (J2 : AV → AV → List AObj → Prop) =>
 bC t8
 (runD (binD lO .shr t0 (.int .u64 16)) h fun t10 h =>
 runD (binD aB .add t2 (.int .i64 16)) h fun t12 h =>
 J2 t10 t12 h)
 (J2 t0 t2 h))
 (fun t0 t2 h => runD (binD lO .geq t0 (.int .u64 256)) h fun t14 h =>
 aL (fun (J3 : AV → AV → List AObj → Prop) =>
 bC t14
 (runD (binD lO .shr t0 (.int .u64 8)) h fun t16 h =>
 runD (binD aB .add t2 (.int .i64 8)) h fun t18 h =>
 J3 t16 t18 h)
 (J3 t0 t2 h))
 (fun t0 t2 h => runD (jR h lO nK t0) h fun t21 h =>
 runD (tE cB (.str [0, 1, 2, 2, 3, 3, 3, 3, 4, 4, 4, 4, 4, 4, 4, 4, 5, 5, 5, 5, 5, 5, 5, 5, 5, 5, 5, 5, 5, 5, 5, 5, 6, 6, 6, 6, 6, 6, 6, 6, 6, 6, 6, 6, 6, 6, 6, 6, 6, 6, 6, 6, 6, 6, 6, 6, 6, 6, 6, 6, 6, 6, 6, 6, 7, 7, 7, 7, 7, 7, 7, 7, 7, 7, 7, 7, 7, 7, 7, 7, 7, 7, 7, 7, 7, 7, 7, 7, 7, 7, 7, 7, 7, 7, 7, 7, 7, 7, 7, 7, 7, 7, 7, 7, 7, 7, 7, 7, 7, 7, 7, 7, 7, 7, 7, 7, 7, 7, 7, 7, 7, 7, 7, 7, 7, 7, 7, 7, 8, 8, 8, 8, 8, 8, 8, 8, 8, 8, 8, 8, 8, 8, 8, 8, 8, 8, 8, 8, 8, 8, 8, 8, 8, 8, 8, 8, 8, 8, 8, 8, 8, 8, 8, 8, 8, 8, 8, 8, 8, 8, 8, 8, 8, 8, 8, 8, 8, 8, 8, 8, 8, 8, 8, 8, 8, 8, 8, 8, 8, 8, 8, 8, 8, 8, 8, 8, 8, 8, 8, 8, 8, 8, 8, 8, 8, 8, 8, 8, 8, 8, 8, 8, 8, 8, 8, 8, 8, 8, 8, 8, 8, 8, 8, 8, 8, 8, 8, 8, 8, 8, 8, 8, 8, 8, 8, 8, 8, 8, 8, 8, 8, 8, 8, 8, 8, 8, 8, 8, 8, 8, 8, 8, 8, 8, 8, 8]) t21) h fun t22 h =>
 runD (jR h nK aB t22) h fun t23 h =>
 runD (binD aB .add t2 t23) h fun t24 h =>
 K (.ret t24) h)))
theorem dP.eq (F : List (FuncId × aE)) (S : List (FuncId × Con)) (t0 : AV) (h : List AObj) (K : AOut → List AObj → Prop) : funW (ctx F S dP.loops) Tryz.f120 [t0] h K = dP.H (ctx F S dP.loops) t0 h K := by kernel_rfl
theorem eA.eq (F : List (FuncId × aE)) (S : List (FuncId × Con)) (t0 : AV) (h : List AObj) (K : AOut → List AObj → Prop) : funW (ctx F S eA.loops) Tryz.f135 [t0] h K = eA.H (ctx F S eA.loops) t0 h K := by kernel_rfl
theorem dP.at : Tryz.prog.funcs[120]? = some Tryz.f120 := by kernel_rfl
theorem dP.nm : (Tryz.f120.name == "runtime.NumGoroutine") = false := by kernel_rfl
theorem dP.bd : Tryz.f120.body.isNone = false := by kernel_rfl
theorem eA.at : Tryz.prog.funcs[135]? = some Tryz.f135 := by kernel_rfl
theorem eA.nm : (Tryz.f135.name == "runtime.NumGoroutine") = false := by kernel_rfl
theorem eA.bd : Tryz.f135.body.isNone = false := by kernel_rfl
end Lam
