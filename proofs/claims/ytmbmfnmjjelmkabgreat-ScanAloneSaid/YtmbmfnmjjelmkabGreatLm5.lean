/- What functions of the program come to, each proved from its code. -/
import Derived.Test.YtmbmfnmjjelmkabGreatLm4
set_option linter.unusedVariables false
set_option linter.unusedSimpArgs false
set_option linter.unnecessarySimpa false
set_option linter.unusedSectionVars false
open Nat (reduceEqDiff reduceAdd reduceSub reduceLeDiff)
open Int (reduceToNat reduceEq reduceLE reduceLT)
open List (reduceReplicate)
set_option maxRecDepth 20000
namespace Lam
open Go Go.Proofs
def iD.loops : Nat → bW
 | _ => ⟨[], [], [], [], [], []⟩
def iD.H (c : Ctx) (t0 : AV) (t1 : AV) (h : List AObj) (K : AOut → List AObj → Prop) : Prop :=
 boxW aN t0 h fun t2 h =>
 boxW fK t1 h fun t3 h =>
 cQ aN h fun t4 h =>
 runD (fitD aN (aD h t2)) h fun t6 h =>
 runD (fitD fK (aD h t3)) h fun t7 h =>
 runD (eO jY 1 [(0, t7)] h.length) h fun t8 h =>
 aR false c (.fn (.func 96) [] []) [t6, t8] h (fun t9 h =>
 runD (aW t9 0) h fun t10 h =>
 runD (aW t9 1) h fun t11 h =>
 runH (aP aN h t4 t10) h fun _ h =>
 cT (fitD aN (aD h t4)) fun r0 => K (.ret (.tup [r0, t11])) h)
 (fun v h => K (.pan v) h)
def gY.loops : Nat → bW
 | _ => ⟨[], [], [], [], [], []⟩
def gY.H (c : Ctx) (t0 : AV) (t1 : AV) (h : List AObj) (K : AOut → List AObj → Prop) : Prop :=
 boxW aN t0 h fun t2 h =>
 cQ aN h fun t4 h =>
 runD (fitD aN (aD h t2)) h fun t6 h =>
 aR false c (.fn (.func 113) [] []) [t6, t1] h (fun t8 h =>
 runD (unD .not t8) h fun t9 h =>
 aU t9
 (runD (fitD aN (aD h t2)) h fun t10 h =>
 runH (aP aN h t4 t10) h fun _ h =>
 cT (fitD aN (aD h t4)) fun r0 => K (.ret (.tup [r0, (.int .i64 40)])) h)
 (runD (fitD aN (aD h t2)) h fun t11 h =>
 runD (lenD jY h t1) h fun t14 h =>
 aR false c (.fn (.func 114) [] []) [t11, t1, t14] h (fun t15 h =>
 runH (aP aN h t4 t15) h fun _ h =>
 cT (fitD aN (aD h t4)) fun r0 => K (.ret (.tup [r0, (.int .i64 0)])) h)
 (fun v h => K (.pan v) h)))
 (fun v h => K (.pan v) h)
def fM.loops : Nat → bW
 | 1 => ⟨[], [], [], [(3, none), (5, some [7, 12])], [], []⟩
 | _ => ⟨[], [], [], [], [], []⟩
def fM.H (c : Ctx) (t0 : AV) (t1 : AV) (h : List AObj) (K : AOut → List AObj → Prop) : Prop :=
 boxW aN t0 h fun t2 h =>
 runD (fitD aN (aD h t2)) h fun t5 h =>
 aR false c (.fn (.func 13) [] []) [t5] h (fun t6 h =>
 aM (fun (J1 : AV → AV → List AObj → Prop) =>
 aX t6 true
 (runD (aC aN t2 0) h fun t9 h =>
 runD (fitD aK (aD h t9)) h fun t10 h =>
 runD (lenD aK h t10) h fun t11 h =>
 aR false c (.fn (.func 123) [] []) [t1, t11] h (fun t12 h =>
 J1 (.bool true) t12 h)
 (fun v h => K (.pan v) h))
 (J1 (.bool false) .und h))
 (fun t7 t12 h => runD (bO t7 t12 (.bool false)) h fun t13 h =>
 K (.ret t13) h))
 (fun v h => K (.pan v) h)
def eK.loops : Nat → bW
 | 4 => ⟨[15], [false], [1, 6, 7, 8, 14], [], [], []⟩
 | _ => ⟨[], [], [], [], [], []⟩
def eK.L1 (c : Ctx) (J1 : AV → AV → List AObj → Prop) (K : AOut → List AObj → Prop) (lv : List AV) (h0 : List AObj) (n0 : Nat) (c1 : AV) (c6 : AV) (c7 : AV) (c8 : AV) (c14 : AV) : Prop :=
 ∃ I : Nat → List AV → List AObj → Prop, (∃ n, I n lv h0) ∧ ∀ n h, ∀ t15, I n [t15] h →
 runD (binD aB .lss t15 c14) h fun t16 h =>
 aU t16
 (runD (aH jY h c1 t15) h fun t21 h =>
 runD (aC fK t21 0) h fun t22 h =>
 runD (fitD aB (aD h t22)) h fun t23 h =>
 runD (lS eV h c8 t23) h fun t24 h =>
 runD (aH jY h c1 t15) h fun t28 h =>
 runD (fitD fK (aD h t28)) h fun t29 h =>
 aR false c t24 [c7, t29] h (fun t30 h =>
 runD (binD aB .add t15 (.int .i64 1)) h fun t31 h =>
 (∃ m, m < n ∧ I m (AV.norms n0 h [t31]) (cH n0 h)) ∧ AV.norms n0 h [c1, c6, c7, c8, c14] = [c1, c6, c7, c8, c14])
 (fun v h => K (.pan v) h))
 (J1 c6 c7 h)
def eK.H (c : Ctx) (t0 : AV) (t1 : AV) (t2 : AV) (h : List AObj) (K : AOut → List AObj → Prop) : Prop :=
 boxW aN t0 h fun t3 h =>
 cQ aN h fun t6 h =>
 runD (fitD aN (aD h t3)) h fun t10 h =>
 runD (gS jD [(0, t10)]) h fun t11 h =>
 boxW jD t11 h fun t12 h =>
 aR false c (.fn (.func 124) [] []) [] h (fun t13 h =>
 aM (fun (J1 : AV → AV → List AObj → Prop) =>
 dC [false] [(.int .i64 0)] h fun lv h => eK.L1 c J1 K (AV.norms h.length h lv) (cH h.length h) h.length (AV.norm h.length h t1) (AV.norm h.length h t6) (AV.norm h.length h t12) (AV.norm h.length h t13) (AV.norm h.length h t2))
 (fun t6 t7 h => runD (cV t7) h fun t33 h =>
 runD (aC jD t33 0) h fun t34 h =>
 runD (fitD aN (aD h t34)) h fun t35 h =>
 runH (aP aN h t6 t35) h fun _ h =>
 cT (fitD aN (aD h t6)) fun r0 => K (.ret r0) h))
 (fun v h => K (.pan v) h)
def fN.loops : Nat → bW
 | 1 => ⟨[], [], [], [(3, none), (2, some [8, 10]), (2, none), (3, some [12, 15])], [], []⟩
 | 2 => ⟨[], [], [], [(2, none), (4, some [18, 22])], [], []⟩
 | _ => ⟨[], [], [], [], [], []⟩
def fN.H (c : Ctx) (t0 : AV) (t1 : AV) (h : List AObj) (K : AOut → List AObj → Prop) : Prop :=
 boxW aB t1 h fun t3 h =>
 runD (fitD aB (aD h t3)) h fun t6 h =>
 runD (binD aB .geq t6 (.int .i64 0)) h fun t7 h =>
 aM (fun (J1 : AV → AV → List AObj → Prop) =>
 aX t7 true
 (runD (fitD aB (aD h t3)) h fun t9 h =>
 runD (binD aB .leq t9 (.int .i64 4096)) h fun t10 h =>
 J1 (.bool true) t10 h)
 (J1 (.bool false) .und h))
 (fun t8 t10 h => runD (bO t8 t10 (.bool false)) h fun t11 h =>
 aM (fun (J2 : AV → AV → List AObj → Prop) =>
 aX t11 true
 (runD (fitD aB (aD h t3)) h fun t13 h =>
 runD (binD aB .rem t13 (.int .i64 8)) h fun t14 h =>
 runD (binD aB .eql t14 (.int .i64 0)) h fun t15 h =>
 J2 (.bool true) t15 h)
 (J2 (.bool false) .und h))
 (fun t12 t15 h => runD (bO t12 t15 (.bool false)) h fun t16 h =>
 aM (fun (J3 : AV → AV → List AObj → Prop) =>
 aX t16 true
 (aR false c (.fn (.func 136) [] []) [t0, (.fn (.func 137) [] [t3])] h (fun t21 h =>
 runD (unD .not t21) h fun t22 h =>
 J3 (.bool true) t22 h)
 (fun v h => K (.pan v) h))
 (J3 (.bool false) .und h))
 (fun t18 t22 h => runD (bO t18 t22 (.bool false)) h fun t23 h =>
 K (.ret t23) h)))
def eP.loops : Nat → bW
 | _ => ⟨[], [], [], [], [], []⟩
def eP.H (c : Ctx) (h : List AObj) (K : AOut → List AObj → Prop) : Prop :=
 runD (kO eV h.length) h fun t1 h =>
 runH (jO eV h t1 (.int .i64 1) (.fn (.func 139) [] [])) h fun _ h =>
 runH (jO eV h t1 (.int .i64 2) (.fn (.func 140) [] [])) h fun _ h =>
 K (.ret t1) h
def dN.loops : Nat → bW
 | _ => ⟨[], [], [], [], [], []⟩
def dN.H (c : Ctx) (t0 : AV) (t1 : AV) (h : List AObj) (K : AOut → List AObj → Prop) : Prop :=
 boxW fK t0 h fun t2 h =>
 runD (fitD fK (aD h t2)) h fun t4 h =>
 runD (fitD aB (aD h t1)) h fun t5 h =>
 aR false c (.fn (.func 138) [] []) [t4, t5] h (fun t6 h =>
 runD (unD .not t6) h fun t7 h =>
 K (.ret t7) h)
 (fun v h => K (.pan v) h)
def gQ.loops : Nat → bW
 | 2 => ⟨[], [], [], [(4, none), (7, some [14, 21]), (2, none), (8, some [23, 31])], [], []⟩
 | _ => ⟨[], [], [], [], [], []⟩
def gQ.H (c : Ctx) (t0 : AV) (t1 : AV) (h : List AObj) (K : AOut → List AObj → Prop) : Prop :=
 boxW fK t0 h fun t2 h =>
 runD (kO mG h.length) h fun t6 h =>
 runH (jO mG h t6 (.int .i64 1) t1) h fun _ h =>
 runD (binD aB .quo t1 (.int .i64 8)) h fun t9 h =>
 runH (jO mG h t6 (.int .i64 2) t9) h fun _ h =>
 runD (aC fK t2 1) h fun t11 h =>
 runD (fitD aB (aD h t11)) h fun t12 h =>
 runD (binD aB .geq t12 (.int .i64 0)) h fun t13 h =>
 aM (fun (J1 : AV → AV → List AObj → Prop) =>
 aX t13 true
 (runD (aC fK t2 1) h fun t15 h =>
 runD (fitD aB (aD h t15)) h fun t16 h =>
 runD (aC fK t2 0) h fun t18 h =>
 runD (fitD aB (aD h t18)) h fun t19 h =>
 runD (lS mG h t6 t19) h fun t20 h =>
 runD (binD aB .lss t16 t20) h fun t21 h =>
 J1 (.bool true) t21 h)
 (J1 (.bool false) .und h))
 (fun t14 t21 h => runD (bO t14 t21 (.bool false)) h fun t22 h =>
 aM (fun (J2 : AV → AV → List AObj → Prop) =>
 aX t22 true
 (runD (aC fK t2 0) h fun t24 h =>
 runD (fitD aB (aD h t24)) h fun t25 h =>
 runD (binD aB .eql t25 (.int .i64 1)) h fun t26 h =>
 aM (fun (J3 : AV → AV → List AObj → Prop) =>
 aX t26 false
 (runD (aC fK t2 2) h fun t28 h =>
 runD (fitD aB (aD h t28)) h fun t29 h =>
 runD (binD aB .eql t29 (.int .i64 0)) h fun t30 h =>
 J3 (.bool false) t30 h)
 (J3 (.bool true) .und h))
 (fun t27 t30 h => runD (bO t27 (.bool true) t30) h fun t31 h =>
 J2 (.bool true) t31 h))
 (J2 (.bool false) .und h))
 (fun t23 t31 h => runD (bO t23 t31 (.bool false)) h fun t32 h =>
 K (.ret t32) h))
def cY.loops : Nat → bW
 | _ => ⟨[], [], [], [], [], []⟩
def cY.H (c : Ctx) (t0 : AV) (t1 : AV) (h : List AObj) (K : AOut → List AObj → Prop) : Prop :=
 boxW fK t1 h fun t3 h =>
 runD (cV t0) h fun t7 h =>
 runD (aC jD t7 0) h fun t8 h =>
 runD (fitD aN (aD h t8)) h fun t9 h =>
 runD (aC fK t3 1) h fun t10 h =>
 runD (fitD aB (aD h t10)) h fun t11 h =>
 runD (aC fK t3 2) h fun t12 h =>
 runD (fitD aB (aD h t12)) h fun t13 h =>
 aR false c.noS (.fn (.func 148) [] []) [t9, t11, t13] h (fun t14 h =>
 runD (aW t14 0) h fun t15 h =>
 runD (aW t14 1) h fun t16 h =>
 runD (cV t0) h fun t17 h =>
 runD (aC jD t17 0) h fun t18 h =>
 runH (aP aN h t18 t15) h fun _ h =>
 K (.ret (.tup [])) h)
 (fun _ _ => False)
def cS.loops : Nat → bW
 | _ => ⟨[], [], [], [], [], []⟩
def cS.H (c : Ctx) (t0 : AV) (t1 : AV) (h : List AObj) (K : AOut → List AObj → Prop) : Prop :=
 boxW fK t1 h fun t3 h =>
 runD (cV t0) h fun t7 h =>
 runD (aC jD t7 0) h fun t8 h =>
 runD (fitD aN (aD h t8)) h fun t9 h =>
 runD (aC fK t3 1) h fun t10 h =>
 runD (fitD aB (aD h t10)) h fun t11 h =>
 aR false c.noS (.fn (.func 149) [] []) [t9, t11] h (fun t12 h =>
 runD (aW t12 0) h fun t13 h =>
 runD (aW t12 1) h fun t14 h =>
 runD (cV t0) h fun t15 h =>
 runD (aC jD t15 0) h fun t16 h =>
 runH (aP aN h t16 t13) h fun _ h =>
 runD (cV t0) h fun t20 h =>
 runD (aC jD t20 0) h fun t21 h =>
 runD (fitD aN (aD h t21)) h fun t22 h =>
 aR false c (.fn (.func 150) [] []) [t22] h (fun t23 h =>
 runD (aW t23 0) h fun t24 h =>
 runD (aW t23 1) h fun t25 h =>
 runD (cV t0) h fun t26 h =>
 runD (aC jD t26 0) h fun t27 h =>
 runH (aP aN h t27 t24) h fun _ h =>
 K (.ret (.tup [])) h)
 (fun v h => K (.pan v) h))
 (fun _ _ => False)
theorem iD.eq (F : List (FuncId × aE)) (S : List (FuncId × Con)) (t0 t1 : AV) (h : List AObj) (K : AOut → List AObj → Prop) : funW (ctx F S iD.loops) Tryz.f74 [t0, t1] h K = iD.H (ctx F S iD.loops) t0 t1 h K := by kernel_rfl
theorem gY.eq (F : List (FuncId × aE)) (S : List (FuncId × Con)) (t0 t1 : AV) (h : List AObj) (K : AOut → List AObj → Prop) : funW (ctx F S gY.loops) Tryz.f96 [t0, t1] h K = gY.H (ctx F S gY.loops) t0 t1 h K := by kernel_rfl
theorem fM.eq (F : List (FuncId × aE)) (S : List (FuncId × Con)) (t0 t1 : AV) (h : List AObj) (K : AOut → List AObj → Prop) : funW (ctx F S fM.loops) Tryz.f113 [t0, t1] h K = fM.H (ctx F S fM.loops) t0 t1 h K := by kernel_rfl
theorem eK.eq (F : List (FuncId × aE)) (S : List (FuncId × Con)) (t0 t1 t2 : AV) (h : List AObj) (K : AOut → List AObj → Prop) : funW (ctx F S eK.loops) Tryz.f114 [t0, t1, t2] h K = eK.H (ctx F S eK.loops) t0 t1 t2 h K := by kernel_rfl
theorem fN.eq (F : List (FuncId × aE)) (S : List (FuncId × Con)) (t0 t1 : AV) (h : List AObj) (K : AOut → List AObj → Prop) : funW (ctx F S fN.loops) Tryz.f123 [t0, t1] h K = fN.H (ctx F S fN.loops) t0 t1 h K := by kernel_rfl
theorem eP.eq (F : List (FuncId × aE)) (S : List (FuncId × Con)) (h : List AObj) (K : AOut → List AObj → Prop) : funW (ctx F S eP.loops) Tryz.f124 [] h K = eP.H (ctx F S eP.loops)  h K := by kernel_rfl
theorem dN.eq (F : List (FuncId × aE)) (S : List (FuncId × Con)) (t0 t1 : AV) (h : List AObj) (K : AOut → List AObj → Prop) : funW (ctx F S dN.loops) Tryz.f137 [t0, t1] h K = dN.H (ctx F S dN.loops) t0 t1 h K := by kernel_rfl
theorem gQ.eq (F : List (FuncId × aE)) (S : List (FuncId × Con)) (t0 t1 : AV) (h : List AObj) (K : AOut → List AObj → Prop) : funW (ctx F S gQ.loops) Tryz.f138 [t0, t1] h K = gQ.H (ctx F S gQ.loops) t0 t1 h K := by kernel_rfl
theorem cY.eq (F : List (FuncId × aE)) (S : List (FuncId × Con)) (t0 t1 : AV) (h : List AObj) (K : AOut → List AObj → Prop) : funW (ctx F S cY.loops) Tryz.f139 [t0, t1] h K = cY.H (ctx F S cY.loops) t0 t1 h K := by kernel_rfl
theorem cS.eq (F : List (FuncId × aE)) (S : List (FuncId × Con)) (t0 t1 : AV) (h : List AObj) (K : AOut → List AObj → Prop) : funW (ctx F S cS.loops) Tryz.f140 [t0, t1] h K = cS.H (ctx F S cS.loops) t0 t1 h K := by kernel_rfl
theorem iD.at : Tryz.prog.funcs[74]? = some Tryz.f74 := by kernel_rfl
theorem iD.nm : (Tryz.f74.name == "runtime.NumGoroutine") = false := by kernel_rfl
theorem iD.bd : Tryz.f74.body.isNone = false := by kernel_rfl
theorem gY.at : Tryz.prog.funcs[96]? = some Tryz.f96 := by kernel_rfl
theorem gY.nm : (Tryz.f96.name == "runtime.NumGoroutine") = false := by kernel_rfl
theorem gY.bd : Tryz.f96.body.isNone = false := by kernel_rfl
theorem fM.at : Tryz.prog.funcs[113]? = some Tryz.f113 := by kernel_rfl
theorem fM.nm : (Tryz.f113.name == "runtime.NumGoroutine") = false := by kernel_rfl
theorem fM.bd : Tryz.f113.body.isNone = false := by kernel_rfl
theorem eK.at : Tryz.prog.funcs[114]? = some Tryz.f114 := by kernel_rfl
theorem eK.nm : (Tryz.f114.name == "runtime.NumGoroutine") = false := by kernel_rfl
theorem eK.bd : Tryz.f114.body.isNone = false := by kernel_rfl
theorem fN.at : Tryz.prog.funcs[123]? = some Tryz.f123 := by kernel_rfl
theorem fN.nm : (Tryz.f123.name == "runtime.NumGoroutine") = false := by kernel_rfl
theorem fN.bd : Tryz.f123.body.isNone = false := by kernel_rfl
theorem eP.at : Tryz.prog.funcs[124]? = some Tryz.f124 := by kernel_rfl
theorem eP.nm : (Tryz.f124.name == "runtime.NumGoroutine") = false := by kernel_rfl
theorem eP.bd : Tryz.f124.body.isNone = false := by kernel_rfl
theorem dN.at : Tryz.prog.funcs[137]? = some Tryz.f137 := by kernel_rfl
theorem dN.nm : (Tryz.f137.name == "runtime.NumGoroutine") = false := by kernel_rfl
theorem dN.bd : Tryz.f137.body.isNone = false := by kernel_rfl
theorem gQ.at : Tryz.prog.funcs[138]? = some Tryz.f138 := by kernel_rfl
theorem gQ.nm : (Tryz.f138.name == "runtime.NumGoroutine") = false := by kernel_rfl
theorem gQ.bd : Tryz.f138.body.isNone = false := by kernel_rfl
theorem cY.at : Tryz.prog.funcs[139]? = some Tryz.f139 := by kernel_rfl
theorem cY.nm : (Tryz.f139.name == "runtime.NumGoroutine") = false := by kernel_rfl
theorem cY.bd : Tryz.f139.body.isNone = false := by kernel_rfl
theorem cS.at : Tryz.prog.funcs[140]? = some Tryz.f140 := by kernel_rfl
theorem cS.nm : (Tryz.f140.name == "runtime.NumGoroutine") = false := by kernel_rfl
theorem cS.bd : Tryz.f140.body.isNone = false := by kernel_rfl
end Lam
namespace Lam
open Go Go.Proofs
def gQ.C : aE
  | [.agg [.int .i64 k, .int .i64 a, .int .i64 w], .int .i64 n] => some (false, pD True (.bool (mmay ⟨k, a, w⟩ n)))
  | _ => none
theorem gQ.spec : bI Tryz.prog 138 gQ.C := by
  refine bI.of (bQ (F := []) (S := []) (by simp) (by simp) gQ.loops) gQ.at gQ.nm gQ.bd ?_
  intro vs b S v news e hS
  unfold gQ.C at e
  split at e
  rotate_left
  · cases e
  cases e
  rw [gQ.eq]
  unfold gQ.H
  simp (maxSteps := 4000000) only [go_sem, reduceEqDiff, Nat.reduceLT, reduceAdd, reduceSub, reduceLeDiff, reduceReplicate, reduceToNat]
  refine ⟨by decide, ?_⟩
  exact aG rfl rfl
def dN.K : Con := fun args h K => match args with
  | [a0, a1] => dN.H (ctx [(138, gQ.C)] [] dN.loops) a0 a1 h K
  | _ => False
theorem dN.spec : dH Tryz.prog 137 dN.K := by
  refine dH.of (bQ (F := [(138, gQ.C)]) (S := []) (by simpa using gQ.spec) (by simp) dN.loops) dN.at dN.nm dN.bd ?_
  intro args h K hC
  unfold dN.K at hC
  split at hC
  · rw [dN.eq]; exact hC
  · exact hC.elim
def aO.K : Con := fun args h K => match args with
  | [a0, a1] => aO.H (ctx [] [(137, dN.K)] aO.loops) a0 a1 h K
  | _ => False
theorem aO.spec : dH Tryz.prog 147 aO.K := by
  refine dH.of (bQ (F := []) (S := [(137, dN.K)]) (by simp) (by simpa using dN.spec) aO.loops) aO.at aO.nm aO.bd ?_
  intro args h K hC
  unfold aO.K at hC
  split at hC
  · rw [aO.eq]; exact hC
  · exact hC.elim
def aS.K : Con := fun args h K => match args with
  | [a0, a1] => aS.H (ctx [] [(147, aO.K)] aS.loops) a0 a1 h K
  | _ => False
theorem aS.spec : dH Tryz.prog 136 aS.K := by
  refine dH.of (bQ (F := []) (S := [(147, aO.K)]) (by simp) (by simpa using aO.spec) aS.loops) aS.at aS.nm aS.bd ?_
  intro args h K hC
  unfold aS.K at hC
  split at hC
  · rw [aS.eq]; exact hC
  · exact hC.elim

theorem aCf (x : Mic) (n : Int) (h : List AObj) (K : AOut → List AObj → Prop) (id : Nat) (hid : h[id]? = some (.box (.int .i64 n)))
    (hK : K (.ret (.bool (!mmay x n))) (h ++ [.box (aJB x)])) : dN.K [.agg [.int .i64 x.kind, .int .i64 x.at_, .int .i64 x.val], .ptr id []] h K := by
  have hlt : id < h.length := (List.getElem?_eq_some_iff.1 hid).1
  have hid' : ∀ r, (h ++ r)[id]? = some (.box (.int .i64 n)) := fun r => by rw [List.getElem?_append_left hlt]; exact hid
  have hlen : ∀ o r, (h ++ o :: r)[h.length]? = some o := fun o r => by simp
  unfold dN.K
  simp only
  unfold dN.H
  simp only [go_sem, reduceEqDiff, Nat.reduceLT, reduceAdd, reduceSub, reduceLeDiff, reduceReplicate, reduceToNat, hid', hlen, gQ.C]
  exact hK

theorem aLP (l : List Mic) (n : Int) (K : AOut → List AObj → Prop) (x : Bool) (hr : roomy l.length) (h : List AObj) (hh : h = [.box (.int .i64 n)])
    (hK : ∀ r h', (r = -1 ∧ (∀ y ∈ l, mmay y n = true)) ∨ (0 ≤ r ∧ ∃ y ∈ l, mmay y n = false) → K (.ret (.int .i64 r)) h') :
    aO.K [.sl x (.mics l), .fn (.func 137) [] [.ptr 0 []]] h K := by
  unfold roomy at hr
  unfold aO.K
  simp only
  unfold aO.H
  subst hh
  simp only [go_sem, reduceEqDiff, Nat.reduceLT, reduceAdd, reduceSub, reduceLeDiff, reduceReplicate, reduceToNat, aA]
  unfold aO.L1
  refine ⟨fun m lv h' => ∃ k : Nat, k + m = l.length ∧ lv = [.int .i64 k] ∧ h' = [.box (.int .i64 n)] ∧ ∀ y ∈ l.take k, mmay y n = true, ⟨l.length, 0, by omega, rfl, rfl, by simp⟩, ?_⟩
  rintro m h' t8 ⟨k, hk, hlv, rfl, hall⟩
  simp only [List.cons.injEq, and_true] at hlv
  subst hlv
  simp only [go_sem, reduceEqDiff, Nat.reduceLT, reduceAdd, reduceSub, reduceLeDiff, reduceReplicate, reduceToNat]
  refine ⟨fun hlt => ⟨by omega, ?_⟩, fun hge => ?_⟩
  · have hkl : k < l.length := by omega
    apply aCf _ n _ _ 0 rfl
    simp only [go_sem, reduceEqDiff, Nat.reduceLT, reduceAdd, reduceSub, reduceLeDiff, reduceReplicate, reduceToNat]
    refine ⟨fun h => hK _ _ (.inr ⟨by omega, _, lI l k _ hkl, by simpa using h⟩), fun h => ?_⟩
    refine ⟨m - 1, by omega, k + 1, by omega, by rw [w64 (by omega) (by omega)]; rfl, ?_⟩
    intro y hy
    rw [gP l k ⟨0, 0, 0⟩ hkl] at hy
    rcases List.mem_append.1 hy with hy | hy
    · exact hall y hy
    · rw [List.mem_singleton.1 hy]; simpa using h
  · have : k = l.length := by omega
    subst this
    rw [List.take_length] at hall
    exact hK _ _ (.inl ⟨rfl, hall⟩)

theorem aHC (l : List Mic) (n : Int) (K : AOut → List AObj → Prop) (x : Bool) (hr : roomy l.length) (h : List AObj) (hh : h = [.box (.int .i64 n)])
    (hK : ∀ h', K (.ret (.bool (!l.all (mmay · n)))) h') :
    aS.K [.sl x (.mics l), .fn (.func 137) [] [.ptr 0 []]] h K := by
  unfold aS.K
  simp only
  unfold aS.H
  subst hh
  simp only [go_sem, reduceEqDiff, Nat.reduceLT, reduceAdd, reduceSub, reduceLeDiff, reduceReplicate, reduceToNat]
  apply aLP l n _ x hr _ rfl
  intro r h' hcase
  simp only [go_sem, reduceEqDiff, Nat.reduceLT, reduceAdd, reduceSub, reduceLeDiff, reduceReplicate, reduceToNat]
  have : decide (0 ≤ r) = !l.all (mmay · n) := by
    rcases hcase with ⟨rfl, h⟩ | ⟨h0, y, hy, h⟩
    · have : l.all (mmay · n) = true := List.all_eq_true.2 h
      rw [this]; rfl
    · have : l.all (mmay · n) = false := by
        rw [List.all_eq_false]; exact ⟨y, hy, by simp [h]⟩
      rw [this]; simpa using h0
  rw [this]; exact hK h'

def fN.C : aE
  | [.sl _ (.mics l), .int .i64 n] => some (false, pD (roomy l.length) (.bool (aAu n && l.all (mmay · n))))
  | _ => none
theorem fN.spec : bI Tryz.prog 123 fN.C := by
  refine bI.of (bQ (F := []) (S := [(136, aS.K)]) (by simp) (by simpa using aS.spec) fN.loops) fN.at fN.nm fN.bd ?_
  intro vs b S v news e hS
  unfold fN.C at e
  split at e
  rotate_left
  · cases e
  cases e
  rw [fN.eq]
  unfold fN.H
  simp (maxSteps := 4000000) only [go_sem, reduceEqDiff, Nat.reduceLT, reduceAdd, reduceSub, reduceLeDiff, reduceReplicate, reduceToNat]
  refine ⟨by simp, ?_⟩
  rw [aA]
  simp only [oD]
  refine ⟨fun hs => ?_, fun hs => ?_⟩
  · apply aHC _ _ _ _ hS _ rfl
    intro h'
    simp only [go_sem, reduceEqDiff, Nat.reduceLT, reduceAdd, reduceSub, reduceLeDiff, reduceReplicate, reduceToNat, Bool.not_not]
    exact aG (by rw [show aAu _ = true from hs, Bool.true_and]; rfl) rfl
  · simp only [go_sem, reduceEqDiff, Nat.reduceLT, reduceAdd, reduceSub, reduceLeDiff, reduceReplicate, reduceToNat]
    exact aG (by rw [show aAu _ = false from hs, Bool.false_and]; rfl) rfl


def cY.K : Con := fun args h K => match args with
  | [a0, a1] => cY.H (ctx [(148, iC.C)] [] cY.loops) a0 a1 h K
  | _ => False
theorem cY.spec : dH Tryz.prog 139 cY.K := by
  refine dH.of (bQ (F := [(148, iC.C)]) (S := []) (by simpa using iC.spec) (by simp) cY.loops) cY.at cY.nm cY.bd ?_
  intro args h K hC
  unfold cY.K at hC
  split at hC
  · rw [cY.eq]; exact hC
  · exact hC.elim
def cS.K : Con := fun args h K => match args with
  | [a0, a1] => cS.H (ctx [(149, fU.C), (150, fV.C)] [] cS.loops) a0 a1 h K
  | _ => False
theorem cS.spec : dH Tryz.prog 140 cS.K := by
  refine dH.of (bQ (F := [(149, fU.C), (150, fV.C)]) (S := []) (by simpa using ⟨fU.spec, fV.spec⟩) (by simp) cS.loops) cS.at cS.nm cS.bd ?_
  intro args h K hC
  unfold cS.K at hC
  split at hC
  · rw [cS.eq]; exact hC
  · exact hC.elim
def eP.K : Con := fun args h K => match args with
  | [] => eP.H (ctx [] [] eP.loops)  h K
  | _ => False
theorem eP.spec : dH Tryz.prog 124 eP.K := by
  refine dH.of (bQ (F := []) (S := []) (by simp) (by simp) eP.loops) eP.at eP.nm eP.bd ?_
  intro args h K hC
  unfold eP.K at hC
  split at hC
  · rw [eP.eq]; exact hC
  · exact hC.elim
def eK.C : aE
  | [.agg [.sl false (.ints .i64 vol), .sl false (.ints .i64 per), .sl false (.pends pend)], .sl _ (.mics l), .int .i64 n] => some (false, pD (Mm.ok ⟨vol, per, pend⟩ ∧ (∀ x ∈ l, MayN x vol.length) ∧ pend.length + l.length ≤ 1000000 ∧ 0 ≤ n ∧ n ≤ (l.length : Int)) (runS ⟨vol, per, pend⟩ (l.take n.toNat)).V)
  | _ => none
theorem eK.spec : bI Tryz.prog 114 eK.C := by
  refine bI.of (bQ (F := []) (S := [(124, eP.K), (139, cY.K), (140, cS.K)]) (by simp) (by simpa using ⟨eP.spec, cY.spec, cS.spec⟩) eK.loops) eK.at eK.nm eK.bd ?_
  intro vs b S v news e hS
  unfold eK.C at e
  split at e
  rotate_left
  · cases e
  cases e
  rw [eK.eq]
  unfold eK.H
  simp (maxSteps := 4000000) only [go_sem, reduceEqDiff, Nat.reduceLT, reduceAdd, reduceSub, reduceLeDiff, reduceReplicate, reduceToNat, eP.K, eP.H]
  rename_i vol per pend _ l n
  obtain ⟨ok, hl, hsz, hn0, hn1⟩ := hS
  rw [aA]
  unfold eK.L1
  refine kT (σ := Nat) (fun k => .int .i64 k) (fun k => [.box (memV vol per pend), .box (memV [] [] []), .box (.agg [(runS ⟨vol, per, pend⟩ (l.take k)).V]), .map (.ifn fun j => if j = 2 then some 140 else if j = 1 then some 139 else none)]) (fun k => n.toNat - k) (fun k => k ≤ n.toNat) 0 rfl rfl (Nat.zero_le _) ?_
  intro I back k hk
  have okk := aHW (l.take k) ok fun x hx => hl x ((List.take_sublist _ _).subset hx)
  have lenk := aGk (l.take k) ⟨vol, per, pend⟩
  have pendk := aAw (l.take k) ⟨vol, per, pend⟩
  rw [List.length_take] at pendk
  simp only [] at lenk pendk
  simp only [go_sem, reduceEqDiff, Nat.reduceLT, reduceAdd, reduceSub, reduceLeDiff, reduceReplicate, reduceToNat]
  refine ⟨fun hlt => ?_, fun hge => ?_⟩
  · have hkl : k < l.length := by omega
    have hnx : runS ⟨vol, per, pend⟩ (l.take (k + 1)) = jN (runS ⟨vol, per, pend⟩ (l.take k)) (l.getD k ⟨0, 0, 0⟩) := by
      rw [gP l k ⟨0, 0, 0⟩ hkl, aHu]; rfl
    have hx := hl _ (lI l k ⟨0, 0, 0⟩ hkl)
    generalize l.getD k ⟨0, 0, 0⟩ = x at *
    generalize runS ⟨vol, per, pend⟩ (l.take k) = m at *
    have hsm : lW m.vol m.per m.pend := OkM.small okk (by omega)
    refine ⟨by omega, ?_⟩
    rcases hx with ⟨hkd, h0, h1⟩ | ⟨hkd, h0, h1, _⟩
    · have hp : mO m.vol m.per m.pend x.at_ = true := aEG.2 ⟨⟨h0, by omega⟩, okk⟩
      have hst : jN m x = store m x.at_ x.val := by unfold jN; rw [if_pos hkd]
      have e : (if x.kind = 2 then some 140 else if x.kind = 1 then some 139 else none : Option Nat) = some 139 := by rw [if_neg (by omega), if_pos hkd]
      simp only [e, cY.K, cY.H, iC.C, aMP hp, go_sem, reduceEqDiff, Nat.reduceLT, reduceAdd, reduceSub, reduceLeDiff, reduceReplicate, reduceToNat]
      refine ⟨by omega, ⟨hsm, by unfold roomy; omega⟩, back (k + 1) (by omega) (by rw [eG (by omega)]) ?_ (by omega)⟩
      rw [hnx, hst]; rfl
    · have hp : mO m.vol m.per m.pend (oV m.vol x.at_) = true := (OkM.first okk h0 (by omega)).2
      have hst : jN m x = uX m x.at_ := by unfold jN; rw [if_neg (by omega)]
      have e : (if x.kind = 2 then some 140 else if x.kind = 1 then some 139 else none : Option Nat) = some 140 := by rw [if_pos hkd]
      have okf := okk.flush x.at_
      simp only [e, cS.K, cS.H, fU.C, aKq hp, aKr, aAt.2 okf, fV.C, go_sem, reduceEqDiff, Nat.reduceLT, reduceAdd, reduceSub, reduceLeDiff, reduceReplicate, reduceToNat]
      refine ⟨by omega, hsm, OkM.small okf (by rw [aIS]; omega), back (k + 1) (by omega) (by rw [eG (by omega)]) ?_ (by omega)⟩
      rw [hnx, hst]; rfl
  · have : k = n.toNat := by omega
    subst this
    refine aG ?_ rfl
    simp only [go_sem, reduceEqDiff, Nat.reduceLT, reduceAdd, reduceSub, reduceLeDiff, reduceReplicate, reduceToNat]

def xU (m : Mm) (l : List Mic) : Bool := m.okB && aKs l m.vol.length
def fM.C : aE
  | [.agg [.sl false (.ints .i64 vol), .sl false (.ints .i64 per), .sl false (.pends pend)], .sl _ (.mics l)] => some (false, pD (lW vol per pend ∧ roomy l.length) (.bool (xU ⟨vol, per, pend⟩ l)))
  | _ => none
theorem fM.spec : bI Tryz.prog 113 fM.C := by
  refine bI.of (bQ (F := [(13, dU.C), (123, fN.C)]) (S := []) (by simpa using ⟨dU.spec, fN.spec⟩) (by simp) fM.loops) fM.at fM.nm fM.bd ?_
  intro vs b S v news e hS
  unfold fM.C at e
  split at e
  rotate_left
  · cases e
  cases e
  rw [fM.eq]
  unfold fM.H
  simp (maxSteps := 4000000) only [go_sem, reduceEqDiff, Nat.reduceLT, reduceAdd, reduceSub, reduceLeDiff, reduceReplicate, reduceToNat, dU.C, fN.C]
  exact ⟨hS.1, fun _ => hS.2, aG rfl rfl⟩
theorem aKI {m : Mm} {l : List Mic} : xU m l = true ↔ m.ok ∧ ∀ x ∈ l, MayN x m.vol.length := by
  unfold xU aKs
  rw [Bool.and_eq_true, Bool.and_eq_true, Mm.ok_iff, List.all_eq_true]
  constructor
  · rintro ⟨h1, _, h2⟩
    exact ⟨h1, fun x hx => (aGj h1.sz).1 (h2 x hx)⟩
  · rintro ⟨h1, h2⟩
    have hmd := h1.md
    have hsz := h1.sz
    refine ⟨h1, ?_, fun x hx => (aGj h1.sz).2 (h2 x hx)⟩
    unfold aAu
    simp only [Bool.and_eq_true, decide_eq_true_eq]
    refine ⟨⟨by omega, by omega⟩, ?_⟩
    rw [Int.tmod_eq_emod_of_nonneg (by omega)]; omega
def runV (m : Mm) (l : List Mic) : AV := if xU m l = true then .tup [(runS m l).V, .int .i64 0] else .tup [m.V, .int .i64 40]
def gY.C : aE
  | [.agg [.sl false (.ints .i64 vol), .sl false (.ints .i64 per), .sl false (.pends pend)], .sl _ (.mics l)] => some (false, pD (lW vol per pend ∧ pend.length + l.length ≤ 1000000) (runV ⟨vol, per, pend⟩ l))
  | _ => none
theorem gY.spec : bI Tryz.prog 96 gY.C := by
  refine bI.of (bQ (F := [(113, fM.C), (114, eK.C)]) (S := []) (by simpa using ⟨fM.spec, eK.spec⟩) (by simp) gY.loops) gY.at gY.nm gY.bd ?_
  intro vs b S v news e hS
  unfold gY.C at e
  split at e
  rotate_left
  · cases e
  cases e
  rw [gY.eq]
  unfold gY.H
  simp (maxSteps := 4000000) only [go_sem, reduceEqDiff, Nat.reduceLT, reduceAdd, reduceSub, reduceLeDiff, reduceReplicate, reduceToNat, fM.C, eK.C]
  rename_i vol per pend _ l
  obtain ⟨hs, hz⟩ := hS
  refine ⟨⟨hs, by unfold roomy; omega⟩, fun h => ?_, fun h => ?_⟩
  · unfold runV; rw [h]; exact aG rfl rfl
  · obtain ⟨ok, hl⟩ := aKI.1 h
    refine ⟨⟨ok, hl, hz, by omega, by omega⟩, ?_⟩
    unfold runV; simp only [h, if_true]
    refine aG ?_ rfl
    simp only [go_sem, reduceEqDiff, Nat.reduceLT, reduceAdd, reduceSub, reduceLeDiff, reduceReplicate, reduceToNat, Int.toNat_natCast, List.take_length]
def iD.C : aE
  | [.agg [.sl false (.ints .i64 vol), .sl false (.ints .i64 per), .sl false (.pends pend)], .agg [.int .i64 a, .int .i64 b, .int .i64 c]] => some (false, pD (lW vol per pend ∧ pend.length + 1 ≤ 1000000) (runV ⟨vol, per, pend⟩ [⟨a, b, c⟩]))
  | _ => none
theorem iD.spec : bI Tryz.prog 74 iD.C := by
  refine bI.of (bQ (F := [(96, gY.C)]) (S := []) (by simpa using gY.spec) (by simp) iD.loops) iD.at iD.nm iD.bd ?_
  intro vs b S v news e hS
  unfold iD.C at e
  split at e
  rotate_left
  · cases e
  cases e
  rw [iD.eq]
  unfold iD.H
  simp (maxSteps := 4000000) only [go_sem, reduceEqDiff, Nat.reduceLT, reduceAdd, reduceSub, reduceLeDiff, reduceReplicate, reduceToNat, gY.C]
  rename_i vol per pend a b c
  unfold runV
  cases h : xU ⟨vol, per, pend⟩ [⟨a, b, c⟩]
  · simp only [aA, gq, reduceEq, reduceLT, reduceLE, implies_true, reduceCtorEq, if_true, if_false, go_sem, reduceEqDiff, Nat.reduceLT, reduceAdd, reduceSub, reduceLeDiff, reduceReplicate, reduceToNat]
    exact ⟨⟨hS.1, by omega⟩, aG rfl rfl⟩
  · simp only [aA, gq, reduceEq, reduceLT, reduceLE, implies_true, reduceCtorEq, if_true, if_false, go_sem, reduceEqDiff, Nat.reduceLT, reduceAdd, reduceSub, reduceLeDiff, reduceReplicate, reduceToNat]
    exact ⟨⟨hS.1, by omega⟩, aG rfl rfl⟩
end Lam
namespace Lam
open Go Go.Proofs
def dV.loops : Nat → bW
 | 6 => ⟨[47], [false], [5, 45, 46], [], [], []⟩
 | _ => ⟨[], [], [], [], [], []⟩
def dV.L1 (c : Ctx) (J1 : List AObj → Prop) (J4 : AV → List AObj → Prop) (K : AOut → List AObj → Prop) (lv : List AV) (h0 : List AObj) (n0 : Nat) (c5 : AV) (c45 : AV) (c46 : AV) : Prop :=
 ∃ I : Nat → List AV → List AObj → Prop, (∃ n, I n lv h0) ∧ ∀ n h, ∀ t47, I n [t47] h →
 runD (binD aB .lss t47 c46) h fun t48 h =>
 aU t48
 (runD (aH aK h c45 t47) h fun t49 h =>
 runD (fitD aB (aD h t49)) h fun t50 h =>
 runD (binD aB .neq t50 (.int .i64 0)) h fun t52 h =>
 aU t52
 (J1 h)
 (runD (binD aB .add t47 (.int .i64 1)) h fun t53 h =>
 (∃ m, m < n ∧ I m (AV.norms n0 h [t53]) (cH n0 h)) ∧ AV.norms n0 h [c5, c45, c46] = [c5, c45, c46]))
 (J4 c5 h)
def dV.H (c : Ctx) (t0 : AV) (h : List AObj) (K : AOut → List AObj → Prop) : Prop :=
 aM (fun (J1 : List AObj → Prop) =>
 cQ dA h fun t5 h =>
 runD (lenD aK h t0) h fun t9 h =>
 runD (binD aB .lss t9 (.int .i64 32)) h fun t10 h =>
 aU t10
 (J1 h)
 (runD (aH aK h t0 (.int .i64 0)) h fun t12 h =>
 runD (fitD aB (aD h t12)) h fun t13 h =>
 runD (aH aK h t0 (.int .i64 1)) h fun t15 h =>
 runD (fitD aB (aD h t15)) h fun t16 h =>
 runD (aH aK h t0 (.int .i64 2)) h fun t18 h =>
 runD (fitD aB (aD h t18)) h fun t19 h =>
 runD (aH aK h t0 (.int .i64 3)) h fun t21 h =>
 runD (fitD aB (aD h t21)) h fun t22 h =>
 runD (gS dA [(0, t13), (1, t16), (2, t19), (3, t22)]) h fun t23 h =>
 runH (aP dA h t5 t23) h fun _ h =>
 runD (fitD dA (aD h t5)) h fun t24 h =>
 runD (aC dA t5 1) h fun t25 h =>
 runD (fitD aB (aD h t25)) h fun t26 h =>
 runD (aC dA t5 3) h fun t27 h =>
 runD (fitD aB (aD h t27)) h fun t28 h =>
 aR false c.noS (.fn (.func 65) [] []) [t26, t28] h (fun t29 h =>
 runD (binD dA .neq t24 t29) h fun t30 h =>
 aM (fun (J2 : AV → AV → List AObj → Prop) =>
 aX t30 false
 (runD (fitD dA (aD h t5)) h fun t32 h =>
 aR false c.noS (.fn (.func 66) [] []) [t32] h (fun t33 h =>
 runD (unD .not t33) h fun t34 h =>
 J2 (.bool false) t34 h)
 (fun _ _ => False))
 (J2 (.bool true) .und h))
 (fun t31 t34 h => runD (bO t31 (.bool true) t34) h fun t35 h =>
 aM (fun (J3 : AV → AV → List AObj → Prop) =>
 aX t35 false
 (runD (aC dA t5 1) h fun t37 h =>
 runD (fitD aB (aD h t37)) h fun t38 h =>
 runD (lenD aK h t0) h fun t40 h =>
 runD (binD aB .quo t40 (.int .i64 16)) h fun t41 h =>
 runD (binD aB .neq t38 t41) h fun t42 h =>
 J3 (.bool false) t42 h)
 (J3 (.bool true) .und h))
 (fun t36 t42 h => runD (bO t36 (.bool true) t42) h fun t43 h =>
 aU t43
 (J1 h)
 (runD (eB aK h t0 (some (.int .i64 4)) (some (.int .i64 16)) none) h fun t45 h =>
 runD (lenD aK h t45) h fun t46 h =>
 aM (fun (J4 : AV → List AObj → Prop) =>
 dC [false] [(.int .i64 0)] h fun lv h => dV.L1 c J1 J4 K (AV.norms h.length h lv) (cH h.length h) h.length (AV.norm h.length h t5) (AV.norm h.length h t45) (AV.norm h.length h t46))
 (fun t5 h => runD (aC dA t5 1) h fun t54 h =>
 runD (fitD aB (aD h t54)) h fun t55 h =>
 runD (aC dA t5 3) h fun t56 h =>
 runD (fitD aB (aD h t56)) h fun t57 h =>
 K (.ret (.tup [t55, t57, (.int .i64 0)])) h)))))
 (fun _ _ => False)))
 (fun h => K (.ret (.tup [(.int .i64 0), (.int .i64 0), (.int .i64 80)])) h)
def fO.loops : Nat → bW
 | _ => ⟨[], [], [], [], [], []⟩
def fO.H (c : Ctx) (t0 : AV) (t1 : AV) (h : List AObj) (K : AOut → List AObj → Prop) : Prop :=
 aR false c (.fn (.func 65) [] []) [t0, t1] h (fun t10 h =>
 cQ dA h fun t6 h =>
 runH (aP dA h t6 t10) h fun _ h =>
 runD (fitD dA (aD h t6)) h fun t11 h =>
 aR false c (.fn (.func 66) [] []) [t11] h (fun t12 h =>
 runD (unD .not t12) h fun t13 h =>
 aU t13
 (K (.ret (.tup [(.sl true (.ints .i64 [])), (.int .i64 1)])) h)
 (runD (jZ aK (.int .i64 16) (.int .i64 16) h.length) h fun t14 h =>
 runD (aC dA t6 0) h fun t16 h =>
 runD (fitD aB (aD h t16)) h fun t17 h =>
 runD (aC dA t6 1) h fun t18 h =>
 runD (fitD aB (aD h t18)) h fun t19 h =>
 runD (aC dA t6 2) h fun t20 h =>
 runD (fitD aB (aD h t20)) h fun t21 h =>
 runD (aC dA t6 3) h fun t22 h =>
 runD (fitD aB (aD h t22)) h fun t23 h =>
 runD (eO aK 4 [(0, t17), (1, t19), (2, t21), (3, t23)] h.length) h fun t24 h =>
 runM (lX aK h t14 t24) h fun t25 h =>
 K (.ret (.tup [t14, (.int .i64 0)])) h))
 (fun v h => K (.pan v) h))
 (fun v h => K (.pan v) h)
def gV.loops : Nat → bW
 | _ => ⟨[], [], [], [], [], []⟩
def gV.H (c : Ctx) (t0 : AV) (t1 : AV) (h : List AObj) (K : AOut → List AObj → Prop) : Prop :=
 cQ dA h fun t4 h =>
 runD (eO aK 2 [(0, (.int .i64 7015)), (1, t0)] h.length) h fun t7 h =>
 aR false c (.fn (.func 93) [] []) [t7] h (fun t8 h =>
 runD (gS dA [(0, (.int .i64 7015)), (1, t0), (2, t8), (3, t1)]) h fun t10 h =>
 runH (aP dA h t4 t10) h fun _ h =>
 cT (fitD dA (aD h t4)) fun r0 => K (.ret r0) h)
 (fun v h => K (.pan v) h)
def dK.loops : Nat → bW
 | 1 => ⟨[], [], [], [(4, none), (3, some [6, 9]), (2, none), (3, some [11, 14]), (2, none), (5, some [16, 21])], [], []⟩
 | _ => ⟨[], [], [], [], [], []⟩
def dK.H (c : Ctx) (t0 : AV) (h : List AObj) (K : AOut → List AObj → Prop) : Prop :=
 boxW dA t0 h fun t1 h =>
 runD (aC dA t1 1) h fun t3 h =>
 runD (fitD aB (aD h t3)) h fun t4 h =>
 runD (binD aB .geq t4 (.int .i64 2)) h fun t5 h =>
 aM (fun (J1 : AV → AV → List AObj → Prop) =>
 aX t5 true
 (runD (aC dA t1 1) h fun t7 h =>
 runD (fitD aB (aD h t7)) h fun t8 h =>
 runD (binD aB .leq t8 (.int .i64 256)) h fun t9 h =>
 J1 (.bool true) t9 h)
 (J1 (.bool false) .und h))
 (fun t6 t9 h => runD (bO t6 t9 (.bool false)) h fun t10 h =>
 aM (fun (J2 : AV → AV → List AObj → Prop) =>
 aX t10 true
 (runD (aC dA t1 3) h fun t12 h =>
 runD (fitD aB (aD h t12)) h fun t13 h =>
 runD (binD aB .geq t13 (.int .i64 1)) h fun t14 h =>
 J2 (.bool true) t14 h)
 (J2 (.bool false) .und h))
 (fun t11 t14 h => runD (bO t11 t14 (.bool false)) h fun t15 h =>
 aM (fun (J3 : AV → AV → List AObj → Prop) =>
 aX t15 true
 (runD (aC dA t1 3) h fun t17 h =>
 runD (fitD aB (aD h t17)) h fun t18 h =>
 runD (aC dA t1 1) h fun t19 h =>
 runD (fitD aB (aD h t19)) h fun t20 h =>
 runD (binD aB .lss t18 t20) h fun t21 h =>
 J3 (.bool true) t21 h)
 (J3 (.bool false) .und h))
 (fun t16 t21 h => runD (bO t16 t21 (.bool false)) h fun t22 h =>
 K (.ret t22) h)))
theorem dV.eq (F : List (FuncId × aE)) (S : List (FuncId × Con)) (t0 : AV) (h : List AObj) (K : AOut → List AObj → Prop) : funW (ctx F S dV.loops) Tryz.f38 [t0] h K = dV.H (ctx F S dV.loops) t0 h K := by kernel_rfl
theorem fO.eq (F : List (FuncId × aE)) (S : List (FuncId × Con)) (t0 t1 : AV) (h : List AObj) (K : AOut → List AObj → Prop) : funW (ctx F S fO.loops) Tryz.f56 [t0, t1] h K = fO.H (ctx F S fO.loops) t0 t1 h K := by kernel_rfl
theorem gV.eq (F : List (FuncId × aE)) (S : List (FuncId × Con)) (t0 t1 : AV) (h : List AObj) (K : AOut → List AObj → Prop) : funW (ctx F S gV.loops) Tryz.f65 [t0, t1] h K = gV.H (ctx F S gV.loops) t0 t1 h K := by kernel_rfl
theorem dK.eq (F : List (FuncId × aE)) (S : List (FuncId × Con)) (t0 : AV) (h : List AObj) (K : AOut → List AObj → Prop) : funW (ctx F S dK.loops) Tryz.f66 [t0] h K = dK.H (ctx F S dK.loops) t0 h K := by kernel_rfl
theorem dV.at : Tryz.prog.funcs[38]? = some Tryz.f38 := by kernel_rfl
theorem dV.nm : (Tryz.f38.name == "runtime.NumGoroutine") = false := by kernel_rfl
theorem dV.bd : Tryz.f38.body.isNone = false := by kernel_rfl
theorem fO.at : Tryz.prog.funcs[56]? = some Tryz.f56 := by kernel_rfl
theorem fO.nm : (Tryz.f56.name == "runtime.NumGoroutine") = false := by kernel_rfl
theorem fO.bd : Tryz.f56.body.isNone = false := by kernel_rfl
theorem gV.at : Tryz.prog.funcs[65]? = some Tryz.f65 := by kernel_rfl
theorem gV.nm : (Tryz.f65.name == "runtime.NumGoroutine") = false := by kernel_rfl
theorem gV.bd : Tryz.f65.body.isNone = false := by kernel_rfl
theorem dK.at : Tryz.prog.funcs[66]? = some Tryz.f66 := by kernel_rfl
theorem dK.nm : (Tryz.f66.name == "runtime.NumGoroutine") = false := by kernel_rfl
theorem dK.bd : Tryz.f66.body.isNone = false := by kernel_rfl
end Lam
namespace Lam
open Go Go.Proofs
def aJj (b r : Int) : AV := .agg [.int .i64 7015, .int .i64 b, .int .i64 (aBa [7015, b]), .int .i64 r]
def gV.C : aE
  | [.int .i64 b, .int .i64 r] => some (false, pD True (aJj b r))
  | _ => none
theorem gV.spec : bI Tryz.prog 65 gV.C := by
  refine bI.of (bQ (F := [(93, iJ.C)]) (S := []) (by simpa using iJ.spec) (by simp) gV.loops) gV.at gV.nm gV.bd ?_
  intro vs b S v news e hS
  unfold gV.C at e
  split at e
  rotate_left
  · cases e
  cases e
  rw [gV.eq]
  unfold gV.H
  simp (maxSteps := 4000000) only [go_sem, reduceEqDiff, Nat.reduceLT, reduceAdd, reduceSub, reduceLeDiff, reduceReplicate, reduceToNat, iJ.C]
  exact ⟨by unfold roomy; decide, aG rfl rfl⟩
def mayB (b r : Int) : Bool := decide (2 ≤ b) && decide (b ≤ 256) && decide (1 ≤ r) && decide (r < b)
def dK.C : aE
  | [.agg [.int .i64 _, .int .i64 b, .int .i64 _, .int .i64 r]] => some (false, pD True (.bool (mayB b r)))
  | _ => none
theorem dK.spec : bI Tryz.prog 66 dK.C := by
  refine bI.of (bQ (F := []) (S := []) (by simp) (by simp) dK.loops) dK.at dK.nm dK.bd ?_
  intro vs b S v news e hS
  unfold dK.C at e
  split at e
  rotate_left
  · cases e
  cases e
  rw [dK.eq]
  unfold dK.H
  simp (maxSteps := 4000000) only [go_sem, reduceEqDiff, Nat.reduceLT, reduceAdd, reduceSub, reduceLeDiff, reduceReplicate, reduceToNat]
  exact aG rfl rfl
def qA (b r : Int) : List Int := [7015, b, aBa [7015, b], r] ++ List.replicate 12 0
def fO.C : aE
  | [.int .i64 b, .int .i64 r] => some (false, pD True (if mayB b r = true then .tup [.sl false (.ints .i64 (qA b r)), .int .i64 0] else .tup [.sl false (.ints .i64 []), .int .i64 1]))
  | _ => none
theorem fO.spec : bI Tryz.prog 56 fO.C := by
  refine bI.of (bQ (F := [(65, gV.C), (66, dK.C)]) (S := []) (by simpa using ⟨gV.spec, dK.spec⟩) (by simp) fO.loops) fO.at fO.nm fO.bd ?_
  intro vs b S v news e hS
  unfold fO.C at e
  split at e
  rotate_left
  · cases e
  cases e
  rw [fO.eq]
  unfold fO.H
  simp (maxSteps := 4000000) only [go_sem, reduceEqDiff, Nat.reduceLT, reduceAdd, reduceSub, reduceLeDiff, reduceReplicate, reduceToNat, gV.C, dK.C, aJj]
  refine ⟨fun h => ?_, fun h => ?_⟩
  · simp only [h, Bool.false_eq_true, if_false]; exact aG rfl rfl
  · refine ⟨by unfold roomy; decide, ?_⟩
    simp only [h, if_true]; exact aG rfl rfl

def aJk (l : List Int) : Bool := decide (l.getD 0 0 = 7015) && decide (l.getD 2 0 = aBa [7015, l.getD 1 0]) && mayB (l.getD 1 0) (l.getD 3 0) && decide (l.getD 1 0 = ((l.length / 16 : Nat) : Int))
def eF (l : List Int) : Bool := decide (32 ≤ l.length) && aJk l && ((l.drop 4).take 12).all (fun w => decide (w = 0))
theorem aSa (a b m d : Bool) : (!(a && b) || !m || !d) = !(a && b && m && d) := by cases a <;> cases b <;> cases m <;> cases d <;> rfl
def kN (l : List Int) : AV := if eF l = true then .tup [.int .i64 (l.getD 1 0), .int .i64 (l.getD 3 0), .int .i64 0] else .tup [.int .i64 0, .int .i64 0, .int .i64 80]
@[go_sem] theorem aPk (l : List Int) : (kN l).noSl = true := by unfold kN; split <;> rfl
def dV.C : aE
  | [.sl _ (.ints .i64 l)] => some (false, pD (roomy l.length) (kN l))
  | _ => none
theorem aCg (l : List Int) (hb : eF l = false) (h : List AObj) : Post false (kN l) [] (.ret (.tup [.int .i64 0, .int .i64 0, .int .i64 80])) h := by
  unfold kN; rw [hb]; exact aG rfl rfl
theorem dV.spec : bI Tryz.prog 38 dV.C := by
  refine bI.of (bQ (F := [(65, gV.C), (66, dK.C)]) (S := []) (by simpa using ⟨gV.spec, dK.spec⟩) (by simp) dV.loops) dV.at dV.nm dV.bd ?_
  intro vs b S v news e hS
  unfold dV.C at e
  split at e
  rotate_left
  · cases e
  cases e
  rw [dV.eq]
  unfold dV.H
  simp (maxSteps := 4000000) only [go_sem, reduceEqDiff, Nat.reduceLT, reduceAdd, reduceSub, reduceLeDiff, reduceReplicate, reduceToNat, gV.C, dK.C, aJj]
  rename_i l
  unfold roomy at hS
  have hw : IntKind.i64.wrap ((l.length : Int).tdiv 16) = ((l.length / 16 : Nat) : Int) := by rw [aKo]; apply w64 <;> omega
  rw [aA]
  refine ⟨fun h => ?_, fun h => ?_⟩
  · apply aCg
    have : ¬ 32 ≤ l.length := by omega
    simp [eF, this]
  refine ⟨by omega, by omega, by omega, by omega, by simp, ?_⟩
  rw [hw, aSa]
  refine ⟨fun hc => aCg l ?_ _, fun hc => ⟨by omega, ?_⟩⟩
  · have hc : aJk l = false := by rw [Bool.not_eq_true'] at hc; exact hc
    simp [eF, hc]
  · have hc : aJk l = true := by rw [Bool.not_eq_false'] at hc; exact hc
    have h32 : 32 ≤ l.length := by omega
    have hlen : ((l.drop 4).take 12).length = 12 := by simp; omega
    rw [aA]
    unfold dV.L1
    generalize hz : (l.drop 4).take 12 = z at *
    refine ⟨fun m lv h' => ∃ k : Nat, k + m = z.length ∧ lv = [.int .i64 k] ∧ h' = [.box (.agg [.int .i64 (l.getD 0 0), .int .i64 (l.getD 1 0), .int .i64 (l.getD 2 0), .int .i64 (l.getD 3 0)])] ∧ ∀ y ∈ z.take k, y = 0, ⟨z.length, 0, by omega, rfl, rfl, by simp⟩, ?_⟩
    rintro m h' t8 ⟨k, hk, hlv, rfl, hall⟩
    simp only [List.cons.injEq, and_true] at hlv
    subst hlv
    simp only [go_sem, reduceEqDiff, Nat.reduceLT, reduceAdd, reduceSub, reduceLeDiff, reduceReplicate, reduceToNat]
    refine ⟨fun hlt => ⟨by omega, fun h0 => ?_, fun h0 => ?_⟩, fun hge => ?_⟩
    · apply aCg
      have hkz : k < z.length := by omega
      have : z.all (fun w => decide (w = 0)) = false := by
        rw [List.all_eq_false]; exact ⟨_, lI z k 0 hkz, by simpa using h0⟩
      simp [eF, hz, this]
    · have hkz : k < z.length := by omega
      refine ⟨m - 1, by omega, k + 1, by omega, by rw [w64 (by omega) (by omega)]; rfl, ?_⟩
      intro y hy
      rw [gP z k 0 hkz] at hy
      rcases List.mem_append.1 hy with hy | hy
      · exact hall y hy
      · rw [List.mem_singleton.1 hy]; exact h0
    · have : k = z.length := by omega
      subst this
      rw [List.take_length] at hall
      have ha : z.all (fun w => decide (w = 0)) = true := by
        rw [List.all_eq_true]; intro y hy; simpa using hall y hy
      have hb : eF l = true := by simp [eF, hz, ha, hc, h32]
      unfold kN
      rw [if_pos hb]
      exact aG rfl rfl

end Lam
namespace Lam
open Go Go.Proofs
def fX.C : aE
  | [.int .i64 b] => some (false, pD True (.bool (rK b)))
  | _ => none
theorem fX.spec : bI Tryz.prog 94 fX.C := by
  refine bI.of (bQ (F := []) (S := []) (by simp) (by simp) fX.loops) fX.at fX.nm fX.bd ?_
  intro vs b S v news e hS
  unfold fX.C at e
  split at e
  rotate_left
  · cases e
  cases e
  rw [fX.eq]
  unfold fX.H
  simp (maxSteps := 4000000) only [go_sem, reduceEqDiff, Nat.reduceLT, reduceAdd, reduceSub, reduceLeDiff, reduceReplicate, reduceToNat]
  exact ⟨fun _ => by decide, aG rfl rfl⟩
def fZ.C : aE
  | [.int .i64 b, .int .i64 s] => some (false, pD True (.int .i64 (oX b s)))
  | _ => none
theorem fZ.spec : bI Tryz.prog 68 fZ.C := by
  refine bI.of (bQ (F := [(94, fX.C)]) (S := []) (by simpa using fX.spec) (by simp) fZ.loops) fZ.at fZ.nm fZ.bd ?_
  intro vs b S v news e hS
  unfold fZ.C at e
  split at e
  rotate_left
  · cases e
  cases e
  rw [fZ.eq]
  unfold fZ.H
  simp (maxSteps := 4000000) only [go_sem, reduceEqDiff, Nat.reduceLT, reduceAdd, reduceSub, reduceLeDiff, reduceReplicate, reduceToNat, fX.C]
  rename_i b s
  have e : (!rK b || decide (s < 0) || decide (13 ≤ s)) = !(rK b && decide (0 ≤ s) && decide (s < 13)) := by
    cases rK b
    · rfl
    · rw [Bool.eq_iff_iff]; simp only [Bool.and_eq_true, Bool.or_eq_true, Bool.not_eq_true', Bool.not_eq_false', Bool.not_eq_true, decide_eq_true_eq, decide_eq_false_iff_not, Bool.or_eq_false_iff, Bool.and_eq_false_iff, beq_iff_eq]; simp <;> omega
  rw [e]
  unfold oX
  refine ⟨fun h => ?_, fun h => ?_⟩
  · rw [Bool.not_eq_true'] at h
    rw [h]; exact aG rfl rfl
  · rw [Bool.not_eq_false'] at h
    rw [h]; exact aG rfl rfl
def gA.C : aE
  | [.sl _ (.ints .i64 l), .int .i64 b] => some (false, pD (roomy l.length ∧ b ≤ 1099511627776) (.sl false (.ints .i64 (mF l b))))
  | _ => none
theorem gA.spec : bI Tryz.prog 80 gA.C := by
  refine bI.of (bQ (F := [(94, fX.C), (102, bM.C), (34, aZ.C)]) (S := []) (by simpa using ⟨fX.spec, bM.spec, aZ.spec⟩) (by simp) gA.loops) gA.at gA.nm gA.bd ?_
  intro vs b S v news e hS
  unfold gA.C at e
  split at e
  rotate_left
  · cases e
  cases e
  rw [gA.eq]
  unfold gA.H
  simp (maxSteps := 4000000) only [go_sem, reduceEqDiff, Nat.reduceLT, reduceAdd, reduceSub, reduceLeDiff, reduceReplicate, reduceToNat, fX.C, bM.C, aZ.C]
  rename_i _ l b
  obtain ⟨hr, hb⟩ := hS
  unfold roomy at hr
  cases hn : rK b with
  | false =>
    refine ⟨fun h => ?_, fun h => by simp at h⟩
    unfold mF; rw [hn]; exact aG rfl rfl
  | true =>
    have hbb := (yV hb).1 hn
    have e1 : IntKind.i64.wrap (b + 16) = b + 16 := w64 (by omega) (by omega)
    have e2 : IntKind.i64.wrap (b + 3) = b + 3 := w64 (by omega) (by omega)
    rw [e1, e2]
    by_cases hlt : (l.length : Int) < b + 16
    · refine ⟨fun h => ?_, fun h => by simp at h; omega⟩
      unfold mF; rw [hn, decide_eq_false (by omega)]; exact aG rfl rfl
    · refine ⟨fun h => by simp at h; omega, fun h => ⟨by omega, ?_⟩⟩
      have e3 : (b + 16).toNat - (b + 3).toNat = 13 := by omega
      have e4 : (b + 3).toNat = b.toNat + 3 := by omega
      have hsl : mF l b = upTo ((l.drop (b.toNat + 3)).take 13) := by
        unfold mF; rw [hn, decide_eq_true (by omega)]; rfl
      rw [e3, e4, hsl]
      have hlen : ((l.drop (b.toNat + 3)).take 13).length = 13 := by simp; omega
      generalize (l.drop (b.toNat + 3)).take 13 = z at *
      have hu := aLD z
      have hir := aIV lt1 z
      have hul : (upTo z).length ≤ z.length := by rw [← hu]; exact List.length_take_le' _ _
      refine ⟨by unfold roomy; omega, ?_⟩
      rw [aA]
      refine ⟨fun h => ?_, fun h => ?_⟩
      · rw [if_pos h] at hu
        rw [Int.toNat_natCast, List.take_length] at hu
        simp only [aZ.C, Int.toNat_natCast, List.take_length, go_sem, reduceEqDiff, Nat.reduceLT, reduceAdd, reduceSub, reduceLeDiff, reduceReplicate, reduceToNat]
        refine ⟨by omega, by unfold roomy; omega, aG ?_ rfl⟩
        simp only [go_sem, reduceEqDiff, Nat.reduceLT, reduceAdd, reduceSub, reduceLeDiff, reduceReplicate, reduceToNat, List.take_length]
        rw [← hu]
      · rw [if_neg h] at hu
        simp only [aZ.C, hu, go_sem, reduceEqDiff, Nat.reduceLT, reduceAdd, reduceSub, reduceLeDiff, reduceReplicate, reduceToNat]
        refine ⟨by omega, by unfold roomy; omega, aG ?_ rfl⟩
        simp only [go_sem, reduceEqDiff, Nat.reduceLT, reduceAdd, reduceSub, reduceLeDiff, reduceReplicate, reduceToNat, List.take_length]
def bN.K : Con := fun args h K => match args with
  | [a0] => bN.H (ctx [] [] bN.loops) a0 h K
  | _ => False
theorem bN.spec : dH Tryz.prog 98 bN.K := by
  refine dH.of (bQ (F := []) (S := []) (by simp) (by simp) bN.loops) bN.at bN.nm bN.bd ?_
  intro args h K hC
  unfold bN.K at hC
  split at hC
  · rw [bN.eq]; exact hC
  · exact hC.elim
theorem aJl (l : List Int) (hr : roomy l.length) (K : AOut → List AObj → Prop)
    (hK : ∀ x v l' k, k ≤ l'.length → l'.take k = plain l → K (.ret (.sref x 0 v 0 k)) [.row .own v (.ints .i64 l')]) :
    bN.K [.sref false 0 0 0 l.length] [.row .own 0 (.ints .i64 l)] K := by
  unfold roomy at hr
  unfold bN.K
  simp only
  unfold bN.H
  simp only [go_sem, reduceEqDiff, Nat.reduceLT, reduceAdd, reduceSub, reduceLeDiff, reduceReplicate, reduceToNat]
  refine ⟨fun h => ?_, fun h => ?_⟩
  · refine hK _ _ _ _ (Nat.le_refl _) ?_
    rw [List.take_length]
    rcases l with _ | ⟨a, _ | ⟨b, r⟩⟩
    · rfl
    · rfl
    · simp at h; omega
  rw [aA]
  unfold bN.L1
  refine kT (σ := Nat) (fun k => .int .i64 k) (fun k => [.row .own 0 (.ints .i64 l)]) (fun k => l.length - k) (fun k => 0 < k ∧ k ≤ l.length ∧ ∀ i, 0 < i → i < k → l.getD i 0 ≠ l.getD (i - 1) 0) 1 rfl rfl ⟨by omega, by omega, fun i h1 h2 => by omega⟩ ?_
  rintro I back k ⟨h0, hk, hall⟩
  simp only [go_sem, reduceEqDiff, Nat.reduceLT, reduceAdd, reduceSub, reduceLeDiff, reduceReplicate, reduceToNat]
  refine ⟨fun hlt => ?_, fun hge => ?_⟩
  · have e1 : IntKind.i64.wrap ((k : Int) - 1) = ((k - 1 : Nat) : Int) := by rw [w64 (by omega) (by omega)]; omega
    rw [aA, e1, Int.toNat_natCast]
    refine ⟨by omega, by omega, by omega, by omega, fun heq => ⟨by omega, ?_⟩, fun hne => ?_⟩
    · rw [aA]
      unfold bN.L2
      have hp0 : plain (l.take (k + 1)) = l.take k := by
        rw [aDk h0 (by omega), if_pos heq, yW]
        intro i hi0 hi
        rw [List.length_take] at hi
        have := hall i hi0 (by omega)
        rw [List.getD_eq_getElem?_getD, List.getD_eq_getElem?_getD, List.getElem?_take, List.getElem?_take, if_pos (by omega), if_pos (by omega), ← List.getD_eq_getElem?_getD, ← List.getD_eq_getElem?_getD]
        exact this
      refine oI (σ := Nat × Nat × List Int) (fun s => .int .i64 s.1) (fun s => .int .i64 s.2.1) (fun s => [.row .own 0 (.ints .i64 s.2.2)]) (fun s => l.length - k - s.2.1)
        (fun s => k ≤ s.1 ∧ s.1 ≤ k + s.2.1 - 1 ∧ 1 ≤ s.2.1 ∧ s.2.1 ≤ l.length - k ∧ s.2.2.length = l.length ∧ s.2.2.take s.1 = plain (l.take (k + s.2.1)) ∧ ∀ j, k + s.2.1 - 1 ≤ j → s.2.2.getD j 0 = l.getD j 0) (k, 1, l) rfl rfl
        ⟨Nat.le_refl _, by simp, Nat.le_refl _, by simp only; omega, rfl, hp0.symm, fun j _ => rfl⟩ ?_
      rintro I2 back2 ⟨w, q, R⟩ ⟨hw0, hw1, hq0, hq1, hRl, hRt, hRd⟩
      simp only [] at hw0 hw1 hq0 hq1 hRl hRt hRd ⊢
      simp only [go_sem, reduceEqDiff, Nat.reduceLT, reduceAdd, reduceSub, reduceLeDiff, reduceReplicate, reduceToNat, hRl]
      have e2 : IntKind.i64.wrap ((q : Int) - 1) = ((q - 1 : Nat) : Int) := by rw [w64 (by omega) (by omega)]; omega
      refine ⟨fun hql => ?_, fun hql => ?_⟩
      · have hnext := aDk (l := l) (k := k + q) (by omega) (by omega)
        rw [e2, Int.toNat_natCast, hRd (k + q) (by omega), hRd (k + (q - 1)) (by omega)]
        have e3 : k + q - 1 = k + (q - 1) := by omega
        rw [e3] at hnext
        refine ⟨by omega, by omega, by omega, by omega, ?_⟩
        rw [aA]
        refine ⟨fun hc => ⟨by omega, by omega, by omega, by omega, ?_⟩, fun hc => ?_⟩
        · simp only [go_sem, reduceEqDiff, Nat.reduceLT, reduceAdd, reduceSub, reduceLeDiff, reduceReplicate, reduceToNat]
          rw [if_neg hc] at hnext
          refine back2 (w + 1, q + 1, R.set w (l.getD (k + q) 0)) (by show _ - (q + 1) < _ - q; omega) (by rw [eG (by omega), eG (by omega)]) rfl ⟨by show k ≤ w + 1; omega, by show w + 1 ≤ k + (q + 1) - 1; omega, by show 1 ≤ q + 1; omega, by show q + 1 ≤ _; omega, by show (R.set _ _).length = _; rw [List.length_set]; exact hRl, ?_, fun j hj => ?_⟩
          · show (R.set w _).take (w + 1) = plain (l.take (k + (q + 1)))
            rw [show k + (q + 1) = k + q + 1 from by omega, hnext, ← hRt, gP _ w 0 (by rw [List.length_set]; omega), aCd, if_pos ⟨rfl, by omega⟩, List.take_set_of_le (Nat.le_refl _)]
          · show (R.set w _).getD j 0 = _
            have hj : k + (q + 1) - 1 ≤ j := hj
            rw [aCd, if_neg (by omega), hRd j (by omega)]
        · simp only [go_sem, reduceEqDiff, Nat.reduceLT, reduceAdd, reduceSub, reduceLeDiff, reduceReplicate, reduceToNat]
          rw [if_pos hc] at hnext
          refine back2 (w, q + 1, R) (by show _ - (q + 1) < _ - q; omega) (by rw [eG (by omega)]) rfl ⟨hw0, by show w ≤ k + (q + 1) - 1; omega, by show 1 ≤ q + 1; omega, by show q + 1 ≤ _; omega, hRl, ?_, fun j hj => hRd j (by have hj : k + (q + 1) - 1 ≤ j := hj; omega)⟩
          show R.take w = plain (l.take (k + (q + 1)))
          rw [show k + (q + 1) = k + q + 1 from by omega, hnext, hRt]
      · obtain rfl : q = l.length - k := by omega
        rw [show k + (l.length - k) = l.length from by omega, List.take_length] at hRt
        have hov : nW (.slice (.int .i64)) [.row .own 0 (.ints .i64 R)] (.sref false 0 0 w (l.length - w)) = some (True, .tup [], 0, .row .own 0 (.ints .i64 (R.take w ++ List.replicate (l.length - w) 0))) := by
          have e4 : l.length - (w + (l.length - w)) = 0 := by omega
          simp [nW, aCo, Lst.over, Lst.cut, Lst.app, LK.zeros, Lst.kind, iZ, TyD.fitsRow, Lst.len, hRl, e4]
        rw [hov]
        simp only [go_sem, reduceEqDiff, Nat.reduceLT, reduceAdd, reduceSub, reduceLeDiff, reduceReplicate, reduceToNat]
        have hl2 : (R.take w ++ List.replicate (l.length - w) 0).length = l.length := by simp [hRl]; omega
        refine ⟨⟨by omega, by omega⟩, ⟨by omega, by omega⟩, ?_⟩
        refine hK _ _ _ _ (by omega) ?_
        rw [List.take_append_of_le_length (by rw [List.length_take]; omega), List.take_take, Nat.min_self, hRt]
    · simp only [go_sem, reduceEqDiff, Nat.reduceLT, reduceAdd, reduceSub, reduceLeDiff, reduceReplicate, reduceToNat]
      refine back (k + 1) (by omega) (by rw [eG (by omega)]) rfl ⟨by omega, by omega, fun i hi0 hi => ?_⟩
      by_cases e : i = k
      · subst e; exact hne
      · exact hall i hi0 (by omega)
  · obtain rfl : k = l.length := by omega
    refine hK _ _ _ _ (Nat.le_refl _) ?_
    rw [List.take_length, yW l hall]
def eC.C : aE
  | [.sl _ (.ints .i64 l)] => some (false, pD (roomy l.length) (.sl false (.ints .i64 (plain l))))
  | _ => none
theorem eC.spec : bI Tryz.prog 78 eC.C := by
  refine bI.of (bQ (F := [(34, aZ.C)]) (S := [(98, bN.K)]) (by simpa using aZ.spec) (by simpa using bN.spec) eC.loops) eC.at eC.nm eC.bd ?_
  intro vs b S v news e hS
  unfold eC.C at e
  split at e
  rotate_left
  · cases e
  cases e
  rw [eC.eq]
  unfold eC.H
  simp (maxSteps := 4000000) only [go_sem, reduceEqDiff, Nat.reduceLT, reduceAdd, reduceSub, reduceLeDiff, reduceReplicate, reduceToNat, aZ.C]
  rename_i _ l
  refine ⟨hS, aJl l hS _ fun x v l' k hk he => ?_⟩
  simp only [go_sem, reduceEqDiff, Nat.reduceLT, reduceAdd, reduceSub, reduceLeDiff, reduceReplicate, reduceToNat]
  refine aG ?_ rfl
  simp only [go_sem, reduceEqDiff, Nat.reduceLT, reduceAdd, reduceSub, reduceLeDiff, reduceReplicate, reduceToNat, he]
end Lam
namespace Lam
open Go Go.Proofs
def gB.C : aE
  | [.agg [.int .i64 a, .int .i64 b, .int .i64 c, .int .i64 d, .sl false (.ints .i64 l)]] => some (false, pD True (.bool (ndB ⟨a, b, c, d, l⟩)))
  | _ => none
theorem gB.spec : bI Tryz.prog 86 gB.C := by
  refine bI.of (bQ (F := [(105, eT.C), (106, bV.C)]) (S := []) (by simpa using ⟨eT.spec, bV.spec⟩) (by simp) gB.loops) gB.at gB.nm gB.bd ?_
  intro vs b S v news e hS
  unfold gB.C at e
  split at e
  rotate_left
  · cases e
  cases e
  rw [gB.eq]
  unfold gB.H
  simp (maxSteps := 4000000) only [go_sem, reduceEqDiff, Nat.reduceLT, reduceAdd, reduceSub, reduceLeDiff, reduceReplicate, reduceToNat, eT.C, bV.C]
  rename_i a b c d l
  have h1 : (a < 0 ∨ 9 < a ∨ b < 0 ∨ 1099511627776 < b ∨ rL c = false ∨ rL d = false ∨ 13 < (l.length : Int)) → ndB ⟨a, b, c, d, l⟩ = false := by
    intro h
    rw [Bool.eq_false_iff]
    intro hh
    obtain ⟨q1, q2, q3, q4, q5, q6, q7, q8⟩ := xN.1 hh
    simp only at q1 q2 q3 q4 q5 q6 q7 q8
    unfold rL at h
    simp only [Bool.and_eq_false_iff, decide_eq_false_iff_not] at h
    omega
  have h2 : ¬ (a < 0 ∨ 9 < a ∨ b < 0 ∨ 1099511627776 < b ∨ rL c = false ∨ rL d = false ∨ 13 < (l.length : Int)) → ndB ⟨a, b, c, d, l⟩ = !l.any uY := by
    intro h
    simp only [not_or, Bool.not_eq_false] at h
    obtain ⟨q1, q2, q3, q4, q5, q6, q7⟩ := h
    unfold ndB
    rw [decide_eq_true (show 0 ≤ a by omega), decide_eq_true (show a ≤ 9 by omega), decide_eq_true (show 0 ≤ b by omega), decide_eq_true (show b ≤ 1099511627776 by omega), q5, q6, decide_eq_true (show l.length ≤ 13 by omega)]
    rfl
  generalize ndB ⟨a, b, c, d, l⟩ = R at *
  simp only [eT.C, bV.C, aA, gq, reduceEq, reduceLT, reduceLE, implies_true, reduceCtorEq, if_true, if_false, go_sem, reduceEqDiff, Nat.reduceLT, reduceAdd, reduceSub, reduceLeDiff, reduceReplicate, reduceToNat]
  repeat' (first | (with_reducible apply And.intro) | (with_reducible intro _))
  all_goals first
    | omega
    | (unfold roomy; omega)
    | (exfalso; simp_all; done)
    | (rw [h1 (by grind)]; exact aG rfl rfl)
    | (rw [h2 (by grind)]; exact aG rfl rfl)
    | skip
  all_goals trace_state
def gC.C : aE
  | [.agg [.int .i64 a, .int .i64 b, .int .i64 c, .int .i64 d, .sl false (.ints .i64 l)]] => some (false, pD (0 ≤ a ∧ a ≤ 9 ∧ 0 ≤ b ∧ b ≤ 1099511627776) (.int .i64 (aAB ⟨a, b, c, d, l⟩)))
  | _ => none
theorem gC.spec : bI Tryz.prog 87 gC.C := by
  refine bI.of (bQ (F := []) (S := []) (by simp) (by simp) gC.loops) gC.at gC.nm gC.bd ?_
  intro vs b S v news e hS
  unfold gC.C at e
  split at e
  rotate_left
  · cases e
  cases e
  rw [gC.eq]
  unfold gC.H
  simp (maxSteps := 4000000) only [go_sem, reduceEqDiff, Nat.reduceLT, reduceAdd, reduceSub, reduceLeDiff, reduceReplicate, reduceToNat]
  rename_i a b c d l
  rw [aIZ hS.1 (by omega) hS.2.2.1 hS.2.2.2]
  exact ⟨by decide, aG rfl rfl⟩
def xV (n : Nd) : AV := if ndB n = true then .tup [.sl false (.ints .i64 (gI n)), .int .i64 0] else .tup [.sl false (.ints .i64 []), .int .i64 90]
def fB.C : aE
  | [.agg [.int .i64 a, .int .i64 b, .int .i64 c, .int .i64 d, .sl false (.ints .i64 l)]] => some (false, pD True (xV ⟨a, b, c, d, l⟩))
  | _ => none
theorem fB.spec : bI Tryz.prog 57 fB.C := by
  refine bI.of (bQ (F := [(86, gB.C), (87, gC.C)]) (S := []) (by simpa using ⟨gB.spec, gC.spec⟩) (by simp) fB.loops) fB.at fB.nm fB.bd ?_
  intro vs b S v news e hS
  unfold fB.C at e
  split at e
  rotate_left
  · cases e
  cases e
  rw [fB.eq]
  unfold fB.H
  simp (maxSteps := 4000000) only [go_sem, reduceEqDiff, Nat.reduceLT, reduceAdd, reduceSub, reduceLeDiff, reduceReplicate, reduceToNat, gB.C, gC.C]
  rename_i a b c d l
  refine ⟨fun h => ?_, fun h => ?_⟩
  · unfold xV; rw [h]; exact aG rfl rfl
  · have hok := xN.1 h
    obtain ⟨q1, q2, q3, q4, _, _, q7, _⟩ := hok
    simp only at q1 q2 q3 q4 q7
    have hw : aAB ⟨a, b, c, d, l⟩ :: c :: d :: (l.take 13 ++ List.take (16 - (3 + min 13 l.length)) (List.drop (3 + min 13 l.length) [aAB ⟨a, b, c, d, l⟩, c, d, 0, 0, 0, 0, 0, 0, 0, 0, 0, 0, 0, 0, 0])) = gI ⟨a, b, c, d, l⟩ := by
      unfold gI
      simp only
      rw [qQ l q7, Nat.min_eq_right q7]
      congr 4
      have : ∀ k, k ≤ 13 → List.take (16 - (3 + k)) (List.drop (3 + k) [aAB ⟨a, b, c, d, l⟩, c, d, 0, 0, 0, 0, 0, 0, 0, 0, 0, 0, 0, 0, 0]) = List.replicate (13 - k) 0 := by
        intro k hk
        rcases k with _|_|_|_|_|_|_|_|_|_|_|_|_|_|k <;> first | rfl | omega
      exact this _ q7
    rw [hw]
    unfold xV; simp only [h, if_true]
    refine ⟨⟨by decide, by decide, by unfold roomy; omega⟩, ⟨q1, q2, q3, q4⟩, ⟨by decide, by decide⟩, ⟨by decide, by decide⟩, ⟨by decide, by decide⟩, rfl, rfl, rfl, ⟨by decide, by decide⟩, aG ?_ rfl⟩
    simp only [go_sem, reduceEqDiff, Nat.reduceLT, reduceAdd, reduceSub, reduceLeDiff, reduceReplicate, reduceToNat]
    rw [qQ _ (Nat.le_of_eq (aAC (xN.1 h)))]
def qI (words : List Int) (at_ : Int) : AV := if (decide (at_ < 0) || decide (((words.length / 16 : Nat) : Int) ≤ at_)) = true then .tup [jH.V, .int .i64 1] else match aDm (kQ words at_.toNat) with
  | some n => .tup [n.V, .int .i64 0]
  | none => .tup [jH.V, .int .i64 90]
def cM.C : aE
  | [.sl _ (.ints .i64 l), .int .i64 k] => some (false, pD (roomy l.length) (qI l k))
  | _ => none
theorem cM.spec : bI Tryz.prog 46 cM.C := by
  refine bI.of (bQ (F := [(80, gA.C), (57, fB.C), (35, bU.C)]) (S := []) (by simpa using ⟨gA.spec, fB.spec, bU.spec⟩) (by simp) cM.loops) cM.at cM.nm cM.bd ?_
  intro vs b S v news e hS
  unfold cM.C at e
  split at e
  rotate_left
  · cases e
  cases e
  rw [cM.eq]
  unfold cM.H
  simp (maxSteps := 4000000) only [go_sem, reduceEqDiff, Nat.reduceLT, reduceAdd, reduceSub, reduceLeDiff, reduceReplicate, reduceToNat, gA.C, fB.C, bU.C]
  rename_i l k
  have hrl := hS
  unfold roomy at hS
  have e0 : IntKind.i64.wrap ((l.length : Int).tdiv 16) = ((l.length / 16 : Nat) : Int) := by
    rw [Int.tdiv_eq_ediv_of_nonneg (by omega)]; exact w64 (by omega) (by omega)
  rw [e0]
  unfold qI
  refine ⟨fun _ => by decide, fun h => ?_, fun h => ?_⟩
  · rw [if_pos h]
    refine aG ?_ rfl
    simp only [jH, go_sem, reduceEqDiff, Nat.reduceLT, reduceAdd, reduceSub, reduceLeDiff, reduceReplicate, reduceToNat]
  · rw [h]
    simp only [Bool.or_eq_false_iff, decide_eq_false_iff_not] at h
    obtain ⟨k, rfl⟩ := Int.eq_ofNat_of_zero_le (show 0 ≤ k by omega)
    have hk : 16 * k + 16 ≤ l.length := by omega
    have e1 : IntKind.i64.wrap (16 * (k : Int)) = 16 * (k : Int) := w64 (by omega) (by omega)
    have e2 : IntKind.i64.wrap ((k : Int) + 1) = (k : Int) + 1 := w64 (by omega) (by omega)
    have e3 : IntKind.i64.wrap (16 * ((k : Int) + 1)) = 16 * ((k : Int) + 1) := w64 (by omega) (by omega)
    have e4 : (16 * ((k : Int) + 1)).toNat - (16 * (k : Int)).toNat = 16 := by omega
    have e5 : (16 * (k : Int)).toNat = 16 * k := by omega
    have eb : (l.drop (16 * k)).take 16 = kQ l k := rfl
    have hbl : (kQ l k).length = 16 := by unfold kQ; simp; omega
    rw [e2, e1, e3, e4, e5, eb, Int.toNat_natCast]
    generalize kQ l k = w at *
    have hdp : (⟨andI .i64 (w.getD 0 0) 15, (xM .i64 (w.getD 0 0) 1152921504606846976).fdiv (2 ^ min 4 64), w.getD 1 0, w.getD 2 0, mF w 0⟩ : Nd) = decP w := rfl
    have hV : (decP w).V = .agg [.int .i64 (andI .i64 (w.getD 0 0) 15), .int .i64 ((xM .i64 (w.getD 0 0) 1152921504606846976).fdiv (2 ^ min 4 64)), .int .i64 (w.getD 1 0), .int .i64 (w.getD 2 0), .sl false (.ints .i64 (mF w 0))] := rfl
    rw [hdp, hbl, ← aLG]
    have hsr := aFj w 0
    refine ⟨by omega, by omega, by omega, by decide, by omega, by omega, ⟨by unfold roomy; omega, by decide⟩, ?_⟩
    unfold oY xV
    cases hd : ndB (decP w) with
    | false =>
      simp only [Bool.false_eq_true, if_false, Bool.false_and, aA, aA, gq, reduceEq, reduceLT, reduceLE, implies_true, reduceCtorEq, if_true, if_false, go_sem, reduceEqDiff, Nat.reduceLT, reduceAdd, reduceSub, reduceLeDiff, reduceReplicate, reduceToNat]
      refine aG ?_ rfl
      simp only [jH, go_sem, reduceEqDiff, Nat.reduceLT, reduceAdd, reduceSub, reduceLeDiff, reduceReplicate, reduceToNat]
    | true =>
      have hok := xN.1 hd
      have hwl := aAC hok
      simp only [if_true, Bool.true_and, bU.C, hwl, hbl, aA, gq, reduceEq, reduceLT, reduceLE, implies_true, reduceCtorEq, if_true, if_false, go_sem, reduceEqDiff, Nat.reduceLT, reduceAdd, reduceSub, reduceLeDiff, reduceReplicate, reduceToNat]
      refine ⟨by unfold roomy; omega, fun h => ?_, fun h => ?_⟩
      · rw [if_neg h]
        refine aG ?_ rfl
        simp only [jH, go_sem, reduceEqDiff, Nat.reduceLT, reduceAdd, reduceSub, reduceLeDiff, reduceReplicate, reduceToNat]
      · rw [if_pos h]
        exact aG rfl rfl
end Lam
namespace Lam
open Go Go.Proofs
def gZ.loops : Nat → bW
 | 1 => ⟨[], [], [], [(3, none), (3, some [5, 8])], [], []⟩
 | _ => ⟨[], [], [], [], [], []⟩
def gZ.H (c : Ctx) (t0 : AV) (h : List AObj) (K : AOut → List AObj → Prop) : Prop :=
 runD (binD bT .neq t0 (.str [])) h fun t4 h =>
 aM (fun (J1 : AV → AV → List AObj → Prop) =>
 aX t4 true
 (runD (lenD bT h t0) h fun t7 h =>
 runD (binD aB .leq t7 (.int .i64 21)) h fun t8 h =>
 J1 (.bool true) t8 h)
 (J1 (.bool false) .und h))
 (fun t5 t8 h => runD (bO t5 t8 (.bool false)) h fun t9 h =>
 K (.ret t9) h)
def eL.loops : Nat → bW
 | 1 => ⟨[], [], [], [(3, none), (9, some [14, 23])], [], []⟩
 | 5 => ⟨[6, 31], [true, false], [1, 29, 30], [], [], []⟩
 | 7 => ⟨[], [], [], [(3, none), (2, some [37, 39])], [], []⟩
 | 10 => ⟨[6, 41], [true, false], [1, 8, 29, 30, 31], [], [], []⟩
 | 16 => ⟨[59], [false], [1, 6, 57, 58], [], [], []⟩
 | _ => ⟨[], [], [], [], [], []⟩
def eL.L2 (c : Ctx) (J5 : AV → AV → AV → AV → AV → List AObj → Prop) (K : AOut → List AObj → Prop) (lv : List AV) (h0 : List AObj) (n0 : Nat) (c1 : AV) (c8 : AV) (c29 : AV) (c30 : AV) (c31 : AV) : Prop :=
 ∃ I : Nat → List AV → List AObj → Prop, (∃ n, I n lv h0) ∧ ∀ n h, ∀ t6, ∀ t41, I n [t6, t41] h →
 runD (binD aB .lss t41 (.int .i64 7)) h fun t42 h =>
 aU t42
 (runD (binD aB .sub (.int .i64 6) t41) h fun t47 h =>
 runD (binD aB .mul (.int .i64 8) t47) h fun t48 h =>
 runD (binD aB .shr c8 t48) h fun t49 h =>
 runD (jL h aB nD t49) h fun t50 h =>
 runD (eO kC 1 [(0, t50)] h.length) h fun t51 h =>
 jM (fT kC h t6 t51 h.length) (gH kC h t6 t51) h fun t52 h =>
 runD (binD aB .add t41 (.int .i64 1)) h fun t53 h =>
 (∃ m, m < n ∧ I m (AV.norms n0 h [t52, t53]) (cH n0 h)) ∧ AV.norms n0 h [c1, c8, c29, c30, c31] = [c1, c8, c29, c30, c31])
 (J5 c1 t6 c29 c30 c31 h)
def eL.L1 (c : Ctx) (J2 : AV → AV → List AObj → Prop) (K : AOut → List AObj → Prop) (lv : List AV) (h0 : List AObj) (n0 : Nat) (c1 : AV) (c29 : AV) (c30 : AV) : Prop :=
 ∃ I : Nat → List AV → List AObj → Prop, (∃ n, I n lv h0) ∧ ∀ n h, ∀ t6, ∀ t31, I n [t6, t31] h →
 runD (binD aB .lss t31 c30) h fun t32 h =>
 aU t32
 (aM (fun (J3 : AV → AV → AV → AV → AV → List AObj → Prop) =>
 runD (aH aK h c29 t31) h fun t33 h =>
 runD (fitD aB (aD h t33)) h fun t34 h =>
 runD (binD aB .lss t34 (.int .i64 0)) h fun t36 h =>
 aM (fun (J4 : AV → AV → List AObj → Prop) =>
 aX t36 false
 (runD (binD aB .geq t34 (.int .i64 72057594037927936)) h fun t39 h =>
 J4 (.bool false) t39 h)
 (J4 (.bool true) .und h))
 (fun t37 t39 h => runD (bO t37 (.bool true) t39) h fun t40 h =>
 aU t40
 (K (.ret (.tup [(.str []), (.int .i64 20)])) h)
 (aM (fun (J5 : AV → AV → AV → AV → AV → List AObj → Prop) =>
 dC [true, false] [t6, (.int .i64 0)] h fun lv h => eL.L2 c J5 K (AV.norms h.length h lv) (cH h.length h) h.length (AV.norm h.length h c1) (AV.norm h.length h t34) (AV.norm h.length h c29) (AV.norm h.length h c30) (AV.norm h.length h t31))
 (fun t1 t6 t29 t30 t31 h => J3 t1 t6 t29 t30 t31 h))))
 (fun t1 t6 t29 t30 t31 h => runD (binD aB .add t31 (.int .i64 1)) h fun t54 h =>
 (∃ m, m < n ∧ I m (AV.norms n0 h [t6, t54]) (cH n0 h)) ∧ AV.norms n0 h [t1, t29, t30] = [c1, c29, c30]))
 (J2 c1 t6 h)
def eL.L3 (c : Ctx) (J6 : AV → AV → List AObj → Prop) (K : AOut → List AObj → Prop) (lv : List AV) (h0 : List AObj) (n0 : Nat) (c1 : AV) (c6 : AV) (c57 : AV) (c58 : AV) : Prop :=
 ∃ I : Nat → List AV → List AObj → Prop, (∃ n, I n lv h0) ∧ ∀ n h, ∀ t59, I n [t59] h →
 runD (binD aB .lss t59 c58) h fun t60 h =>
 aU t60
 (runD (aH kC h c57 t59) h fun t61 h =>
 runD (fitD nD (aD h t61)) h fun t62 h =>
 runD (binD nD .neq t62 (.int .u8 0)) h fun t64 h =>
 aU t64
 (K (.ret (.tup [(.str []), (.int .i64 20)])) h)
 (runD (binD aB .add t59 (.int .i64 1)) h fun t65 h =>
 (∃ m, m < n ∧ I m (AV.norms n0 h [t65]) (cH n0 h)) ∧ AV.norms n0 h [c1, c6, c57, c58] = [c1, c6, c57, c58]))
 (J6 c1 c6 h)
def eL.H (c : Ctx) (t0 : AV) (t1 : AV) (h : List AObj) (K : AOut → List AObj → Prop) : Prop :=
 runD (binD aB .lss t1 (.int .i64 0)) h fun t13 h =>
 aM (fun (J1 : AV → AV → List AObj → Prop) =>
 aX t13 false
 (runD (lenD aK h t0) h fun t16 h =>
 runD (binD aB .quo t1 (.int .i64 7)) h fun t18 h =>
 runD (binD aB .rem t1 (.int .i64 7)) h fun t20 h =>
 runD (minD (.int .i64 1) t20) h fun t21 h =>
 runD (binD aB .add t18 t21) h fun t22 h =>
 runD (binD aB .neq t16 t22) h fun t23 h =>
 J1 (.bool false) t23 h)
 (J1 (.bool true) .und h))
 (fun t14 t23 h => runD (bO t14 (.bool true) t23) h fun t24 h =>
 aU t24
 (K (.ret (.tup [(.str []), (.int .i64 20)])) h)
 (runD (lenD aK h t0) h fun t26 h =>
 runD (binD aB .mul (.int .i64 7) t26) h fun t27 h =>
 runD (jZ kC (.int .i64 0) t27 h.length) h fun t28 h =>
 runD (lenD aK h t0) h fun t30 h =>
 aM (fun (J2 : AV → AV → List AObj → Prop) =>
 dC [true, false] [t28, (.int .i64 0)] h fun lv h => eL.L1 c J2 K (AV.norms h.length h lv) (cH h.length h) h.length (AV.norm h.length h t1) (AV.norm h.length h t0) (AV.norm h.length h t30))
 (fun t1 t6 h => runD (eB kC h t6 (some t1) none none) h fun t57 h =>
 runD (lenD kC h t57) h fun t58 h =>
 aM (fun (J6 : AV → AV → List AObj → Prop) =>
 dC [false] [(.int .i64 0)] h fun lv h => eL.L3 c J6 K (AV.norms h.length h lv) (cH h.length h) h.length (AV.norm h.length h t1) (AV.norm h.length h t6) (AV.norm h.length h t57) (AV.norm h.length h t58))
 (fun t1 t6 h => runD (eB kC h t6 none (some t1) none) h fun t68 h =>
 runD (jL h kC bT t68) h fun t69 h =>
 K (.ret (.tup [t69, (.int .i64 0)])) h))))
def eQ.loops : Nat → bW
 | _ => ⟨[], [], [], [], [], []⟩
def eQ.H (c : Ctx) (t0 : AV) (h : List AObj) (K : AOut → List AObj → Prop) : Prop :=
 runD (lenD bT h t0) h fun t4 h =>
 runD (binD aB .leq t4 (.int .i64 21)) h fun t5 h =>
 K (.ret t5) h
def fI.loops : Nat → bW
 | 2 => ⟨[], [], [], [], [2], []⟩
 | 5 => ⟨[4, 11], [false, false], [2, 3, 10], [], [], []⟩
 | _ => ⟨[], [], [], [], [], []⟩
def fI.L1 (c : Ctx) (id : Nat) (r : Loop) (J3 : AV → AV → List AObj → Prop) (K : AOut → List AObj → Prop) (lv : List AV) (h0 : List AObj) (n0 : Nat) (c2 : AV) (c3 : AV) (c10 : AV) : Prop :=
 ∃ I : Nat → List AV → List AObj → Prop, (∃ n, I n lv h0) ∧ ∀ n h, ∀ t4, ∀ t11, I n [t4, t11] h →
 runD (binD aB .lss t11 c10) h fun t12 h =>
 aU t12
 (runD (sV bT c3 t11) h fun t17 h =>
 runD (jL h nD aB t17) h fun t18 h =>
 runD (binD aB .sub (.int .i64 6) t11) h fun t20 h =>
 runD (binD aB .mul (.int .i64 8) t20) h fun t21 h =>
 runD (binD aB .shl t18 t21) h fun t22 h =>
 runD (binD aB .or t4 t22) h fun t23 h =>
 runD (binD aB .add t11 (.int .i64 1)) h fun t24 h =>
 (∃ m, m < n ∧ I m (AV.norms n0 h [t23, t24]) (cH n0 h)) ∧ AV.norms n0 h [c2, c3, c10] = [c2, c3, c10])
 (J3 c2 t4 h)
def fI.H (c : Ctx) (t0 : AV) (h : List AObj) (K : AOut → List AObj → Prop) : Prop :=
 cQ aK h fun t2 h =>
 aR false c (.fn (.func 125) [] []) [t0] h (fun t7 h =>
 aM (fun (J1 : AV → List AObj → Prop) =>
 vA c.iterS t7 (boxH [t2] h)
 (fun id r args h K => lpIs h id .ready r ∧ yC args fun t8 =>
 lpIs h id .ready r ∧
 aM (fun (J2 : List AObj → Prop) =>
 runD (lenD bT (List.set h id (.lp .busy none r)) t8) (List.set h id (.lp .busy none r)) fun t10 h =>
 aM (fun (J3 : AV → AV → List AObj → Prop) =>
 dC [false, false] [(.int .i64 0), (.int .i64 0)] h fun lv h => fI.L1 c id r J3 K (AV.norms h.length h lv) (cH h.length h) h.length (AV.norm h.length h t2) (AV.norm h.length h t8) (AV.norm h.length h t10))
 (fun t2 t4 h => runD (fitD aK (aD h t2)) h fun t25 h =>
 runD (eO aK 1 [(0, t4)] h.length) h fun t27 h =>
 jM (fT aK h t25 t27 h.length) (gH aK h t25 t27) h fun t28 h =>
 runH (aP aK h t2 t28) h fun _ h =>
 J2 h))
 (fun h => lpIs h id .busy r ∧ K (.ret (.bool true)) (List.set h id (.lp .ready none r))))
 (fun id r ao h => endX id r ao h
 (fun h => J1 t2 h)
 (fun h => cT (fitD aK (aD h t2)) fun r0 => K (.ret r0) h)
 (fun i h => aCt i 0 (J1 t2 h) (False))
 (fun l h => False)
 (fun v h => K (.pan v) h)))
 (fun t2 h => runD (fitD aK (aD h t2)) h fun t29 h =>
 runH (aP aK h t2 t29) h fun _ h =>
 cT (fitD aK (aD h t2)) fun r0 => K (.ret r0) h))
 (fun v h => K (.pan v) h)
def fP.loops : Nat → bW
 | _ => ⟨[], [], [], [], [], []⟩
def fP.H (c : Ctx) (t0 : AV) (h : List AObj) (K : AOut → List AObj → Prop) : Prop :=
 boxW bT t0 h fun t1 h =>
 K (.ret (.fn (.func 141) [] [t1])) h
def dS.loops : Nat → bW
 | 0 => ⟨[], [], [0, 1], [], [], []⟩
 | _ => ⟨[], [], [], [], [], []⟩
def dS.L1 (c : Ctx) (J1 : List AObj → Prop) (K : AOut → List AObj → Prop) (lv : List AV) (h0 : List AObj) (n0 : Nat) (c0 : AV) (c1 : AV) : Prop :=
 ∃ I : Nat → List AV → List AObj → Prop, (∃ n, I n lv h0) ∧ ∀ n h, I n [] h →
 runD (fitD bT (aD h c1)) h fun t4 h =>
 runD (lenD bT h t4) h fun t5 h =>
 runD (binD aB .gtr t5 (.int .i64 0)) h fun t6 h =>
 aU t6
 (runD (fitD bT (aD h c1)) h fun t7 h =>
 runD (lenD bT h t7) h fun t8 h =>
 runD (minD (.int .i64 7) t8) h fun t9 h =>
 runD (fitD bT (aD h c1)) h fun t11 h =>
 runD (eB bT h t11 none (some t9) none) h fun t13 h =>
 aR false c c0 [t13] h (fun t14 h =>
 runD (unD .not t14) h fun t15 h =>
 aU t15
 (K (.ret (.tup [])) h)
 (runD (fitD bT (aD h c1)) h fun t16 h =>
 runD (eB bT h t16 (some t9) none none) h fun t18 h =>
 runH (aP bT h c1 t18) h fun _ h =>
 (∃ m, m < n ∧ I m (AV.norms n0 h []) (cH n0 h)) ∧ AV.norms n0 h [c0, c1] = [c0, c1]))
 (fun v h => K (.pan v) h))
 (J1 h)
def dS.H (c : Ctx) (t0 : AV) (t1 : AV) (h : List AObj) (K : AOut → List AObj → Prop) : Prop :=
 aM (fun (J1 : List AObj → Prop) =>
 dC [] [] h fun lv h => dS.L1 c J1 K (AV.norms h.length h lv) (cH h.length h) h.length (AV.norm h.length h t0) (AV.norm h.length h t1))
 (fun h => K (.ret (.tup [])) h)
theorem gZ.eq (F : List (FuncId × aE)) (S : List (FuncId × Con)) (t0 : AV) (h : List AObj) (K : AOut → List AObj → Prop) : funW (ctx F S gZ.loops) Tryz.f53 [t0] h K = gZ.H (ctx F S gZ.loops) t0 h K := by kernel_rfl
theorem eL.eq (F : List (FuncId × aE)) (S : List (FuncId × Con)) (t0 t1 : AV) (h : List AObj) (K : AOut → List AObj → Prop) : funW (ctx F S eL.loops) Tryz.f115 [t0, t1] h K = eL.H (ctx F S eL.loops) t0 t1 h K := by kernel_rfl
theorem eQ.eq (F : List (FuncId × aE)) (S : List (FuncId × Con)) (t0 : AV) (h : List AObj) (K : AOut → List AObj → Prop) : funW (ctx F S eQ.loops) Tryz.f116 [t0] h K = eQ.H (ctx F S eQ.loops) t0 h K := by kernel_rfl
theorem fI.eq (F : List (FuncId × aE)) (S : List (FuncId × Con)) (Is : List (FuncId × (Con → Con))) (t0 : AV) (h : List AObj) (K : AOut → List AObj → Prop) : funW (ctxI F S Is fI.loops) Tryz.f117 [t0] h K = fI.H (ctxI F S Is fI.loops) t0 h K := by kernel_rfl
theorem fP.eq (F : List (FuncId × aE)) (S : List (FuncId × Con)) (t0 : AV) (h : List AObj) (K : AOut → List AObj → Prop) : funW (ctx F S fP.loops) Tryz.f125 [t0] h K = fP.H (ctx F S fP.loops) t0 h K := by kernel_rfl
theorem dS.eq (F : List (FuncId × aE)) (S : List (FuncId × Con)) (l : Nat) (Y : Con) (t0 t1 : AV) (h : List AObj) (K : AOut → List AObj → Prop) : funW ((ctx F S dS.loops).withY l Y) Tryz.f141 [t0, t1] h K = dS.H ((ctx F S dS.loops).withY l Y) t0 t1 h K := by kernel_rfl
theorem gZ.at : Tryz.prog.funcs[53]? = some Tryz.f53 := by kernel_rfl
theorem gZ.nm : (Tryz.f53.name == "runtime.NumGoroutine") = false := by kernel_rfl
theorem gZ.bd : Tryz.f53.body.isNone = false := by kernel_rfl
theorem eL.at : Tryz.prog.funcs[115]? = some Tryz.f115 := by kernel_rfl
theorem eL.nm : (Tryz.f115.name == "runtime.NumGoroutine") = false := by kernel_rfl
theorem eL.bd : Tryz.f115.body.isNone = false := by kernel_rfl
theorem eQ.at : Tryz.prog.funcs[116]? = some Tryz.f116 := by kernel_rfl
theorem eQ.nm : (Tryz.f116.name == "runtime.NumGoroutine") = false := by kernel_rfl
theorem eQ.bd : Tryz.f116.body.isNone = false := by kernel_rfl
theorem fI.at : Tryz.prog.funcs[117]? = some Tryz.f117 := by kernel_rfl
theorem fI.nm : (Tryz.f117.name == "runtime.NumGoroutine") = false := by kernel_rfl
theorem fI.bd : Tryz.f117.body.isNone = false := by kernel_rfl
theorem fP.at : Tryz.prog.funcs[125]? = some Tryz.f125 := by kernel_rfl
theorem fP.nm : (Tryz.f125.name == "runtime.NumGoroutine") = false := by kernel_rfl
theorem fP.bd : Tryz.f125.body.isNone = false := by kernel_rfl
theorem dS.at : Tryz.prog.funcs[141]? = some Tryz.f141 := by kernel_rfl
theorem dS.nm : (Tryz.f141.name == "runtime.NumGoroutine") = false := by kernel_rfl
theorem dS.bd : Tryz.f141.body.isNone = false := by kernel_rfl
end Lam
namespace Lam
open Go Go.Proofs
theorem aGx (c : Ctx) (id : Nat) (r : Loop) (J : AV → AV → List AObj → Prop) (K : AOut → List AObj → Prop) (p : bD) (hp : p.length ≤ 7) (v k : Nat) (s : bD) (xs : List Int)
    (hJ : J (.ptr 0 []) (.int .i64 (pw p : Nat)) [.box (.sref false 2 v 0 k), .box (.str s), .row .own v (.ints .i64 xs), .lp .busy none r]) :
    fI.L1 c id r J K [.int .i64 0, .int .i64 0] [.box (.sref false 2 v 0 k), .box (.str s), .row .own v (.ints .i64 xs), .lp .busy none r] 4 (.ptr 0 []) (.str p) (.int .i64 p.length) := by
  unfold fI.L1
  refine ⟨fun m lv h' => ∃ j : Nat, j + m = p.length ∧ lv = [.int .i64 (pv (p.take j) * 256 ^ (7 - j) : Nat), .int .i64 j] ∧ h' = [.box (.sref false 2 v 0 k), .box (.str s), .row .own v (.ints .i64 xs), .lp .busy none r],
    ⟨p.length, 0, by omega, by simp [pv], rfl⟩, ?_⟩
  rintro m h' t4 t11 ⟨j, hj, hlv, rfl⟩
  simp only [List.cons.injEq, and_true] at hlv
  obtain ⟨rfl, rfl⟩ := hlv
  simp only [go_sem, reduceEqDiff, Nat.reduceLT, reduceAdd, reduceSub, reduceLeDiff, reduceReplicate, reduceToNat]
  refine ⟨fun hlt => ?_, fun hge => ?_⟩
  · have hjp : j < p.length := by omega
    have e1 : IntKind.i64.wrap (6 - (j : Int)) = 6 - j := w64 (by omega) (by omega)
    refine ⟨by omega, by rw [e1, w64 (by omega) (by omega)]; omega, m - 1, by omega, j + 1, by omega, ?_⟩
    rw [aMR p hp hjp, w64 (by omega) (by omega)]
    rfl
  · have : j = p.length := by omega
    subst this
    rw [List.take_length] at *
    exact hJ

def dS.I : Con → Con := fun Y args h K => match args with
  | [.fn (.yield l) [] [], a0] => dS.H ((ctx [] [] dS.loops).withY l Y) (.fn (.yield l) [] []) a0 h K
  | _ => False
theorem dS.spec : qG Tryz.prog 141 dS.I := by
  refine qG.of (bQ (F := []) (S := []) (by simp) (by simp) dS.loops).toOkI dS.at dS.nm dS.bd ?_
  intro Yc l cap h K hC
  unfold dS.I at hC
  split at hC
  · rename_i e
    simp only [List.cons.injEq, AV.fn.injEq, Fn.yield.injEq, and_true, true_and] at e
    obtain ⟨rfl, rfl⟩ := e
    rw [dS.eq]; exact hC
  · exact hC.elim
def fP.K : Con := fun args h K => match args with
  | [a0] => fP.H (ctx [] [] fP.loops) a0 h K
  | _ => False
theorem fP.spec : dH Tryz.prog 125 fP.K := by
  refine dH.of (bQ (F := []) (S := []) (by simp) (by simp) fP.loops) fP.at fP.nm fP.bd ?_
  intro args h K hC
  unfold fP.K at hC
  split at hC
  · rw [fP.eq]; exact hC
  · exact hC.elim
def fI.C : aE
  | [.str s] => some (false, pD (roomy s.length) (.sl false (.ints .i64 (keyW s))))
  | _ => none
theorem fI.spec : bI Tryz.prog 117 fI.C := by
  refine bI.of (aBe (F := []) (S := [(125, fP.K)]) (Is := [(141, dS.I)]) (by simp) (by simpa using fP.spec) (by simpa using dS.spec) fI.loops) fI.at fI.nm fI.bd ?_
  intro vs b S v news e hS
  unfold fI.C at e
  split at e
  rotate_left
  · cases e
  cases e
  rw [fI.eq]
  unfold fI.H
  simp (maxSteps := 4000000) only [go_sem, reduceEqDiff, Nat.reduceLT, reduceAdd, reduceSub, reduceLeDiff, reduceReplicate, reduceToNat, fP.K, fP.H, dS.I, dS.H, aA]
  rename_i s
  unfold roomy at hS
  intro l r
  unfold dS.L1
  refine ⟨fun m lv h' => ∃ k v : Nat, k + m = iH s ∧ h' = [.box (.sref false 2 v 0 k), .box (.str (s.drop (7*k))), .row .own v (.ints .i64 ((keyW s).take k)), .lp .ready none r], ⟨iH s, 0, 0, by omega, by simp⟩, ?_⟩
  rintro m h' ⟨k, v, hk, rfl⟩
  have hwl : (keyW s).length = iH s := by simp [keyW]
  have hnp : iH s = (s.length + 6) / 7 := rfl
  have hacc : ((keyW s).take k).length = k := by simp; omega
  simp only [go_sem, reduceEqDiff, Nat.reduceLT, reduceAdd, reduceSub, reduceLeDiff, reduceReplicate, reduceToNat, List.length_drop]
  refine ⟨fun hlt => ?_, fun hge => ?_⟩
  · have hn : (if ((s.length - 7 * k : Nat) : Int) < 7 then ((s.length - 7 * k : Nat) : Int) else 7) = ((min 7 (s.length - 7 * k) : Nat) : Int) := by split <;> omega
    simp only [hn, Int.toNat_natCast]
    have hpc : (s.drop (7 * k)).take (min 7 (s.length - 7 * k)) = oZ s k := by
      unfold oZ
      rcases Nat.lt_or_ge (s.length - 7 * k) 7 with h | h
      · rw [Nat.min_eq_right (by omega), List.take_of_length_le (by simp), List.take_of_length_le (by simp; omega)]
      · rw [Nat.min_eq_left (by omega)]
    rw [hpc]
    have hpl : (oZ s k).length ≤ 7 := by unfold oZ; simp; omega
    refine ⟨by omega, aGx _ _ _ _ _ _ hpl _ _ _ _ ?_⟩
    simp only [go_sem, reduceEqDiff, Nat.reduceLT, reduceAdd, reduceSub, reduceLeDiff, reduceReplicate, reduceToNat, hacc]
    have hkn : k < iH s := by omega
    have hnext : (keyW s).take (k + 1) = (keyW s).take k ++ [(pw (oZ s k) : Int)] := by
      rw [gP _ k 0 (by omega), aJd s hkn]
    have hd : (s.drop (7 * k)).drop (min 7 (s.length - 7 * k)) = s.drop (7 * (k + 1)) := by
      rw [List.drop_drop]
      rcases Nat.lt_or_ge (s.length - 7 * k) 7 with h | h
      · rw [List.drop_eq_nil_of_le (by omega), List.drop_eq_nil_of_le (by omega)]
      · congr 1; omega
    have hl1 : ((keyW s).take (k + 1)).length = k + 1 := by simp; omega
    rw [← hnext, hd, hl1]
    refine ⟨by unfold roomy; omega, by simp; omega, m - 1, by omega, k + 1, v + 1, by omega, rfl⟩
  · have : k = iH s := by omega
    subst this
    rw [List.take_of_length_le (by omega)]
    refine aG ?_ rfl
    have := hacc
    rw [List.take_of_length_le (by omega)] at this
    simp only [go_sem, reduceEqDiff, Nat.reduceLT, reduceAdd, reduceSub, reduceLeDiff, reduceReplicate, reduceToNat, List.take_of_length_le (Nat.le_of_eq hwl)]
def aBf (l : List Int) (n : Int) : AV := .tup [.str (if nQ l n = true then wF l n else []), .int .i64 (if nQ l n = true then 0 else 20)]
@[go_sem] theorem aSb (l : List Int) (n : Int) : (aBf l n).noSl = true := (rfl)
theorem aCh {l : List Int} {n : Int} (hb : nQ l n = false) (h : List AObj) : Post false (aBf l n) [] (.ret (.tup [.str [], .int .i64 20])) h := by
  unfold aBf; rw [hb]; exact aG rfl rfl
def eL.C : aE
  | [.sl _ (.ints .i64 l), .int .i64 n] => some (false, pD (roomy (7 * l.length) ∧ n < 9223372036854775808) (aBf l n))
  | _ => none
theorem aHD (c : Ctx) (J : AV → AV → AV → AV → AV → List AObj → Prop) (K : AOut → List AObj → Prop) (n w : Int) (l pre : List Int) (v k len : Nat) (hr : pre.length + 7 ≤ 1099511627776)
    (hJ : J (.int .i64 n) (.sref false 0 (v + 7) 0 (pre.length + 7)) (.sl false (.ints .i64 l)) (.int .i64 len) (.int .i64 k) [.row .own (v + 7) (.ints .u8 (pre ++ rN w))]) :
    eL.L2 c J K [.sref false 0 v 0 pre.length, .int .i64 0] [.row .own v (.ints .u8 pre)] 1 (.int .i64 n) (.int .i64 w) (.sl false (.ints .i64 l)) (.int .i64 len) (.int .i64 k) := by
  unfold eL.L2
  refine ⟨fun m lv h' => ∃ j : Nat, j + m = 7 ∧ lv = [.sref false 0 (v + j) 0 (pre.length + j), .int .i64 j] ∧ h' = [.row .own (v + j) (.ints .u8 (pre ++ (List.range j).map (rM w)))],
    ⟨7, 0, by omega, by simp, by simp⟩, ?_⟩
  rintro m h' t6 t41 ⟨j, hj, hlv, rfl⟩
  simp only [List.cons.injEq, and_true] at hlv
  obtain ⟨rfl, rfl⟩ := hlv
  have hlen : (pre ++ (List.range j).map (rM w)).length = pre.length + j := by simp
  simp only [go_sem, reduceEqDiff, Nat.reduceLT, reduceAdd, reduceSub, reduceLeDiff, reduceReplicate, reduceToNat, hlen]
  refine ⟨fun hlt => ?_, fun hge => ?_⟩
  · have e1 : IntKind.i64.wrap (6 - (j : Int)) = 6 - j := w64 (by omega) (by omega)
    have e2 : IntKind.i64.wrap (8 * (6 - (j : Int))) = 8 * (6 - j) := w64 (by omega) (by omega)
    have e3 : (8 * (6 - (j : Int))).toNat = 8 * (6 - j) := by omega
    have e4 : min (8 * (6 - j)) 64 = 8 * (6 - j) := by omega
    simp only [e1, e2, e3, e4]
    have hz : (List.range j).map (rM w) ++ [IntKind.u8.wrap (w.fdiv (2 ^ (8 * (6 - j))))] = (List.range (j + 1)).map (rM w) := by rw [List.range_succ]; simp [rM]
    have hl2 : (pre ++ (List.range (j + 1)).map (rM w)).length = pre.length + (j + 1) := by simp
    rw [hz, hl2, w64 (by omega) (by omega)]
    exact ⟨by omega, by unfold roomy; omega, m - 1, by omega, j + 1, by omega, rfl, rfl⟩
  · have : j = 7 := by omega
    subst this
    exact hJ

theorem eL.spec : bI Tryz.prog 115 eL.C := by
  refine bI.of (bQ (F := []) (S := []) (by simp) (by simp) eL.loops) eL.at eL.nm eL.bd ?_
  intro vs b S v news e hS
  unfold eL.C at e
  split at e
  rotate_left
  · cases e
  cases e
  rw [eL.eq]
  unfold eL.H
  simp (maxSteps := 4000000) only [go_sem, reduceEqDiff, Nat.reduceLT, reduceAdd, reduceSub, reduceLeDiff, reduceReplicate, reduceToNat]
  rename_i l n
  unfold roomy at hS
  obtain ⟨hS, hn63⟩ := hS
  refine ⟨fun _ => by decide, fun hb => aCh ?_ _, fun hb => ?_⟩
  · have hb : (!decide (n < 0) && decide ((l.length : Int) = lenT n)) = false := by
      unfold lenT
      revert hb
      cases decide (n < 0) <;> simp
    unfold nQ
    rw [hb]; rfl
  have hb1 : ¬ n < 0 := by intro h; simp [h] at hb
  have hb2 : (l.length : Int) = lenT n := by
    rw [decide_eq_false hb1, Bool.false_or, Bool.not_eq_false', decide_eq_true_eq] at hb
    exact hb
  have e7 : IntKind.i64.wrap (7 * (l.length : Int)) = ((7 * l.length : Nat) : Int) := by rw [w64 (by omega) (by omega)]; omega
  refine ⟨⟨by omega, by rw [e7]; omega, by rw [e7, Int.toNat_natCast]; exact hS⟩, ?_⟩
  rw [aA]
  unfold eL.L1
  refine ⟨fun m lv h' => ∃ k v : Nat, k + m = l.length ∧ lv = [.sref false 0 v 0 (7 * k), .int .i64 k] ∧ h' = [.row .own v (.ints .u8 (jT (l.take k)))] ∧ (l.take k).all wMay = true,
    ⟨l.length, 0, 0, by omega, rfl, rfl, rfl⟩, ?_⟩
  rintro m h' t6 t31 ⟨k, v, hk, hlv, rfl, hall⟩
  simp only [List.cons.injEq, and_true] at hlv
  obtain ⟨rfl, rfl⟩ := hlv
  have hfl : (jT (l.take k)).length = 7 * k := by rw [aKx, List.length_take, Nat.min_eq_left (by omega)]
  simp only [go_sem, reduceEqDiff, Nat.reduceLT, reduceAdd, reduceSub, reduceLeDiff, reduceReplicate, reduceToNat, hfl]
  refine ⟨fun hlt => ?_, fun hge => ?_⟩
  · have hkl : k < l.length := by omega
    rw [aA]
    refine ⟨by omega, fun hbad => aCh ?_ _, fun hok => ?_⟩
    · have : l.all wMay = false := by
        rw [List.all_eq_false]
        refine ⟨_, lI l k 0 hkl, fun h => ?_⟩
        simp only [wMay, Bool.and_eq_true, decide_eq_true_eq] at h
        simp only [Bool.or_eq_true, decide_eq_true_eq] at hbad
        omega
      simp [nQ, this]
    · have hw : wMay (l.getD k 0) = true := by
        simp only [Bool.or_eq_false_iff, decide_eq_false_iff_not] at hok
        simp only [wMay, Bool.and_eq_true, decide_eq_true_eq]; omega
      rw [aA]
      have hL2 := aHD (ctx [] [] eL.loops)
      rw [← hfl]
      refine hL2 _ _ _ _ _ _ _ _ _ (by rw [hfl]; omega) ?_
      have hnx : jT (l.take k) ++ rN (l.getD k 0) = jT (l.take (k + 1)) := by
        rw [gP l k 0 hkl]; simp [jT]
      rw [hnx, hfl]
      simp only [go_sem, reduceEqDiff, Nat.reduceLT, reduceAdd, reduceSub, reduceLeDiff, reduceReplicate, reduceToNat]
      have hmx : ¬ (False) := id
      refine ⟨m - 1, by omega, k + 1, v + 7, by omega, by rw [w64 (by omega) (by omega)]; rfl, rfl, ?_⟩
      rw [gP l k 0 hkl, List.all_append, hall, Bool.true_and, List.all_cons, hw]
      rfl
  · have : k = l.length := by omega
    subst this
    rw [List.take_length] at *
    obtain ⟨N, rfl⟩ : ∃ N : Nat, n = N := ⟨n.toNat, by omega⟩
    have hN : (l.length : Int) = ((N + 6) / 7 : Nat) := by rw [hb2, aGm N (by omega)]
    refine ⟨by omega, ?_⟩
    rw [aA, Int.toNat_natCast]
    unfold eL.L3
    refine ⟨fun m lv h' => ∃ j : Nat, j + m = 7 * l.length - N ∧ lv = [.int .i64 j] ∧ h' = [.row .own v (.ints .u8 (jT l))] ∧ ∀ i, i < j → (jT l).getD (N + i) 0 = 0,
      ⟨_, 0, Nat.zero_add _, rfl, rfl, fun i hi => by omega⟩, ?_⟩
    rintro m h' t59 ⟨j, hj, hlv, rfl, hz⟩
    simp only [List.cons.injEq, and_true] at hlv
    subst hlv
    simp only [go_sem, reduceEqDiff, Nat.reduceLT, reduceAdd, reduceSub, reduceLeDiff, reduceReplicate, reduceToNat, hfl]
    refine ⟨fun hlt => ⟨by omega, by omega, fun h0 => aCh ?_ _, fun h0 => ?_⟩, fun hge => ⟨by omega, ?_⟩⟩
    · have : ((jT l).drop N).all (fun b => decide (b = 0)) = false := by
        rw [List.all_eq_false]
        have hjl : j < ((jT l).drop N).length := by rw [List.length_drop, hfl]; omega
        have e : ((jT l).drop N).getD j 0 = (jT l).getD (N + j) 0 := by rw [List.getD_eq_getElem?_getD, List.getD_eq_getElem?_getD, List.getElem?_drop]
        exact ⟨_, lI _ j 0 hjl, by rw [e]; simpa using h0⟩
      simp [nQ, this]
    · refine ⟨m - 1, by omega, j + 1, by omega, by rw [w64 (by omega) (by omega)]; rfl, fun i hi => ?_⟩
      by_cases e : i = j
      · subst e; exact h0
      · exact hz i (by omega)
    · have hj2 : j = 7 * l.length - N := by omega
      have hzero : ((jT l).drop N).all (fun b => decide (b = 0)) = true := by
        rw [List.all_eq_true]
        intro b hb
        obtain ⟨i, hi, rfl⟩ := List.getElem_of_mem hb
        rw [List.length_drop, hfl] at hi
        have := hz i (by omega)
        rw [List.getD_eq_getElem?_getD, List.getElem?_eq_getElem (by rw [hfl]; omega)] at this
        rw [List.getElem_drop]
        simpa using this
      have hB : nQ l N = true := by
        unfold nQ
        rw [hall, Int.toNat_natCast, hzero, decide_eq_false hb1, decide_eq_true hb2]; rfl
      unfold aBf wF
      simp only [hB, if_true]
      exact aG rfl rfl
def gZ.C : aE
  | [.str s] => some (false, pD True (.bool (decide (s ≠ []) && decide ((s.length : Int) ≤ 21))))
  | _ => none
theorem gZ.spec : bI Tryz.prog 53 gZ.C := by
  refine bI.of (bQ (F := []) (S := []) (by simp) (by simp) gZ.loops) gZ.at gZ.nm gZ.bd ?_
  intro vs b S v news e hS
  unfold gZ.C at e
  split at e
  rotate_left
  · cases e
  cases e
  rw [gZ.eq]
  unfold gZ.H
  simp (maxSteps := 4000000) only [go_sem, reduceEqDiff, Nat.reduceLT, reduceAdd, reduceSub, reduceLeDiff, reduceReplicate, reduceToNat]
  rename_i s
  have : (decide ¬s = []) = !decide (s = []) := by by_cases h : s = [] <;> simp [h]
  rw [this]
  exact aG rfl rfl
def eQ.C : aE
  | [.str s] => some (false, pD True (.bool (decide ((s.length : Int) ≤ 21))))
  | _ => none
theorem eQ.spec : bI Tryz.prog 116 eQ.C := by
  refine bI.of (bQ (F := []) (S := []) (by simp) (by simp) eQ.loops) eQ.at eQ.nm eQ.bd ?_
  intro vs b S v news e hS
  unfold eQ.C at e
  split at e
  rotate_left
  · cases e
  cases e
  rw [eQ.eq]
  unfold eQ.H
  simp (maxSteps := 4000000) only [go_sem, reduceEqDiff, Nat.reduceLT, reduceAdd, reduceSub, reduceLeDiff, reduceReplicate, reduceToNat]
  exact aG rfl rfl
end Lam
namespace Lam
open Go Go.Proofs
def dQ.loops : Nat → bW
 | 1 => ⟨[], [], [], [(3, none), (5, some [11, 16])], [], []⟩
 | _ => ⟨[], [], [], [], [], []⟩
def dQ.H (c : Ctx) (t0 : AV) (t1 : AV) (h : List AObj) (K : AOut → List AObj → Prop) : Prop :=
 cQ aI h fun t4 h =>
 runD (binD aB .lss t1 (.int .i64 0)) h fun t10 h =>
 aM (fun (J1 : AV → AV → List AObj → Prop) =>
 aX t10 false
 (runD (lenD aK h t0) h fun t14 h =>
 runD (binD aB .quo t14 (.int .i64 16)) h fun t15 h =>
 runD (binD aB .geq t1 t15) h fun t16 h =>
 J1 (.bool false) t16 h)
 (J1 (.bool true) .und h))
 (fun t11 t16 h => runD (bO t11 (.bool true) t16) h fun t17 h =>
 aU t17
 (runD (gS aI []) h fun t18 h =>
 runH (aP aI h t4 t18) h fun _ h =>
 cT (fitD aI (aD h t4)) fun r0 => K (.ret (.tup [r0, (.int .i64 1)])) h)
 (cQ dL h fun t6 h =>
 runD (eB dL h t6 none none none) h fun t19 h =>
 runD (binD aB .mul (.int .i64 16) t1) h fun t22 h =>
 runD (eB aK h t0 (some t22) none none) h fun t23 h =>
 runM (lX aK h t19 t23) h fun t24 h =>
 runD (aH dL h t6 (.int .i64 0)) h fun t25 h =>
 runD (fitD aB (aD h t25)) h fun t26 h =>
 runD (gS aI [(0, t26)]) h fun t27 h =>
 cQ aI h fun t7 h =>
 runH (aP aI h t7 t27) h fun _ h =>
 runD (fitD dL (aD h t6)) h fun t29 h =>
 runD (aH dL h t6 (.int .i64 1)) h fun t30 h =>
 runD (fitD aB (aD h t30)) h fun t31 h =>
 runD (binD aB .quo t31 (.int .i64 32)) h fun t32 h =>
 aR false c (.fn (.func 99) [] []) [t29, (.int .i64 3), t32] h (fun t33 h =>
 runD (aW t33 0) h fun t34 h =>
 runD (aW t33 1) h fun t35 h =>
 runD (aC aI t7 1) h fun t36 h =>
 runH (aP bT h t36 t34) h fun _ h =>
 runD (unD .not t35) h fun t38 h =>
 aU t38
 (runD (gS aI []) h fun t39 h =>
 runH (aP aI h t4 t39) h fun _ h =>
 cT (fitD aI (aD h t4)) fun r0 => K (.ret (.tup [r0, (.int .i64 70)])) h)
 (runD (aC aI t7 0) h fun t40 h =>
 runD (fitD aB (aD h t40)) h fun t41 h =>
 runD (binD aB .eql t41 (.int .i64 1)) h fun t43 h =>
 aM (fun (J2 : AV → List AObj → Prop) =>
 aU t43
 (runD (fitD dL (aD h t6)) h fun t45 h =>
 runD (aH dL h t6 (.int .i64 1)) h fun t46 h =>
 runD (fitD aB (aD h t46)) h fun t47 h =>
 runD (binD aB .rem t47 (.int .i64 32)) h fun t48 h =>
 aR false c (.fn (.func 99) [] []) [t45, (.int .i64 6), t48] h (fun t49 h =>
 runD (aW t49 0) h fun t50 h =>
 runD (aW t49 1) h fun t51 h =>
 runD (aC aI t7 2) h fun t52 h =>
 runH (aP bT h t52 t50) h fun _ h =>
 J2 t51 h)
 (fun v h => K (.pan v) h))
 (runD (binD aB .eql t41 (.int .i64 2)) h fun t54 h =>
 aM (fun (J3 : List AObj → Prop) =>
 aU t54
 (runD (aH dL h t6 (.int .i64 6)) h fun t55 h =>
 runD (fitD aB (aD h t55)) h fun t56 h =>
 runD (aC aI t7 3) h fun t57 h =>
 runH (aP aB h t57 t56) h fun _ h =>
 J3 h)
 (J3 h))
 (fun h => J2 t35 h)))
 (fun t8 h => runD (unD .not t8) h fun t59 h =>
 aM (fun (J4 : AV → AV → List AObj → Prop) =>
 aX t59 false
 (runD (fitD aI (aD h t7)) h fun t61 h =>
 aR false c.noS (.fn (.func 100) [] []) [t61] h (fun t62 h =>
 runD (unD .not t62) h fun t63 h =>
 J4 (.bool false) t63 h)
 (fun _ _ => False))
 (J4 (.bool true) .und h))
 (fun t60 t63 h => runD (bO t60 (.bool true) t63) h fun t64 h =>
 aM (fun (J5 : AV → AV → List AObj → Prop) =>
 aX t64 false
 (runD (fitD aI (aD h t7)) h fun t66 h =>
 aR false c.noS (.fn (.func 101) [] []) [t66] h (fun t67 h =>
 runD (fitD dL (aD h t6)) h fun t68 h =>
 runD (binD dL .neq t67 t68) h fun t69 h =>
 J5 (.bool false) t69 h)
 (fun _ _ => False))
 (J5 (.bool true) .und h))
 (fun t65 t69 h => runD (bO t65 (.bool true) t69) h fun t70 h =>
 aU t70
 (runD (gS aI []) h fun t71 h =>
 runH (aP aI h t4 t71) h fun _ h =>
 cT (fitD aI (aD h t4)) fun r0 => K (.ret (.tup [r0, (.int .i64 70)])) h)
 (runD (fitD aI (aD h t7)) h fun t72 h =>
 runH (aP aI h t4 t72) h fun _ h =>
 cT (fitD aI (aD h t4)) fun r0 => K (.ret (.tup [r0, (.int .i64 0)])) h))))))
 (fun v h => K (.pan v) h)))
def iE.loops : Nat → bW
 | 1 => ⟨[], [], [], [(3, none), (2, some [12, 14])], [], []⟩
 | _ => ⟨[], [], [], [], [], []⟩
def iE.H (c : Ctx) (t0 : AV) (t1 : AV) (t2 : AV) (h : List AObj) (K : AOut → List AObj → Prop) : Prop :=
 boxW dL t0 h fun t3 h =>
 runD (binD aB .lss t2 (.int .i64 0)) h fun t11 h =>
 aM (fun (J1 : AV → AV → List AObj → Prop) =>
 aX t11 false
 (runD (binD aB .gtr t2 (.int .i64 21)) h fun t14 h =>
 J1 (.bool false) t14 h)
 (J1 (.bool true) .und h))
 (fun t12 t14 h => runD (bO t12 (.bool true) t14) h fun t15 h =>
 aU t15
 (K (.ret (.tup [(.str []), (.bool false)])) h)
 (runD (binD aB .add t2 (.int .i64 6)) h fun t20 h =>
 runD (binD aB .quo t20 (.int .i64 7)) h fun t21 h =>
 runD (binD aB .add t1 t21) h fun t22 h =>
 runD (eB dL h t3 (some t1) (some t22) none) h fun t23 h =>
 aR false c (.fn (.func 115) [] []) [t23, t2] h (fun t25 h =>
 runD (aW t25 0) h fun t26 h =>
 runD (aW t25 1) h fun t27 h =>
 runD (binD cN .eql t27 (.int .i64 0)) h fun t30 h =>
 K (.ret (.tup [t26, t30])) h)
 (fun v h => K (.pan v) h)))
def eZ.loops : Nat → bW
 | 3 => ⟨[], [], [], [(4, none), (3, some [10, 13]), (2, none), (3, some [15, 18])], [], []⟩
 | 5 => ⟨[], [], [], [(4, none), (3, some [25, 28]), (2, none), (3, some [30, 33]), (2, none), (3, some [35, 38]), (2, none), (3, some [40, 43])], [], []⟩
 | _ => ⟨[], [], [], [], [], []⟩
def eZ.H (c : Ctx) (t0 : AV) (h : List AObj) (K : AOut → List AObj → Prop) : Prop :=
 boxW aI t0 h fun t1 h =>
 runD (aC aI t1 0) h fun t3 h =>
 runD (fitD aB (aD h t3)) h fun t4 h =>
 runD (binD aB .eql t4 (.int .i64 1)) h fun t6 h =>
 aU t6
 (runD (aC aI t1 1) h fun t7 h =>
 runD (fitD bT (aD h t7)) h fun t8 h =>
 aR false c (.fn (.func 53) [] []) [t8] h (fun t9 h =>
 aM (fun (J1 : AV → AV → List AObj → Prop) =>
 aX t9 true
 (runD (aC aI t1 2) h fun t11 h =>
 runD (fitD bT (aD h t11)) h fun t12 h =>
 aR false c (.fn (.func 116) [] []) [t12] h (fun t13 h =>
 J1 (.bool true) t13 h)
 (fun v h => K (.pan v) h))
 (J1 (.bool false) .und h))
 (fun t10 t13 h => runD (bO t10 t13 (.bool false)) h fun t14 h =>
 aM (fun (J2 : AV → AV → List AObj → Prop) =>
 aX t14 true
 (runD (aC aI t1 3) h fun t16 h =>
 runD (fitD aB (aD h t16)) h fun t17 h =>
 runD (binD aB .eql t17 (.int .i64 0)) h fun t18 h =>
 J2 (.bool true) t18 h)
 (J2 (.bool false) .und h))
 (fun t15 t18 h => runD (bO t15 t18 (.bool false)) h fun t19 h =>
 K (.ret t19) h)))
 (fun v h => K (.pan v) h))
 (runD (binD aB .eql t4 (.int .i64 2)) h fun t21 h =>
 aU t21
 (runD (aC aI t1 1) h fun t22 h =>
 runD (fitD bT (aD h t22)) h fun t23 h =>
 runD (binD bT .eql t23 (.str [])) h fun t24 h =>
 aM (fun (J3 : AV → AV → List AObj → Prop) =>
 aX t24 false
 (runD (aC aI t1 1) h fun t26 h =>
 runD (fitD bT (aD h t26)) h fun t27 h =>
 aR false c (.fn (.func 53) [] []) [t27] h (fun t28 h =>
 J3 (.bool false) t28 h)
 (fun v h => K (.pan v) h))
 (J3 (.bool true) .und h))
 (fun t25 t28 h => runD (bO t25 (.bool true) t28) h fun t29 h =>
 aM (fun (J4 : AV → AV → List AObj → Prop) =>
 aX t29 true
 (runD (aC aI t1 2) h fun t31 h =>
 runD (fitD bT (aD h t31)) h fun t32 h =>
 runD (binD bT .eql t32 (.str [])) h fun t33 h =>
 J4 (.bool true) t33 h)
 (J4 (.bool false) .und h))
 (fun t30 t33 h => runD (bO t30 t33 (.bool false)) h fun t34 h =>
 aM (fun (J5 : AV → AV → List AObj → Prop) =>
 aX t34 true
 (runD (aC aI t1 3) h fun t36 h =>
 runD (fitD aB (aD h t36)) h fun t37 h =>
 runD (binD aB .gtr t37 (.int .i64 0)) h fun t38 h =>
 J5 (.bool true) t38 h)
 (J5 (.bool false) .und h))
 (fun t35 t38 h => runD (bO t35 t38 (.bool false)) h fun t39 h =>
 aM (fun (J6 : AV → AV → List AObj → Prop) =>
 aX t39 true
 (runD (aC aI t1 3) h fun t41 h =>
 runD (fitD aB (aD h t41)) h fun t42 h =>
 runD (binD aB .lss t42 (.int .i64 256)) h fun t43 h =>
 J6 (.bool true) t43 h)
 (J6 (.bool false) .und h))
 (fun t40 t43 h => runD (bO t40 t43 (.bool false)) h fun t44 h =>
 K (.ret t44) h)))))
 (K (.ret (.bool false)) h))
def iW.loops : Nat → bW
 | _ => ⟨[], [], [], [], [], []⟩
def iW.H (c : Ctx) (t0 : AV) (h : List AObj) (K : AOut → List AObj → Prop) : Prop :=
 boxW aI t0 h fun t1 h =>
 cQ dL h fun t2 h =>
 runD (aC aI t1 0) h fun t4 h =>
 runD (fitD aB (aD h t4)) h fun t5 h =>
 runD (aC aI t1 1) h fun t6 h =>
 runD (fitD bT (aD h t6)) h fun t7 h =>
 runD (lenD bT h t7) h fun t8 h =>
 runD (binD aB .mul (.int .i64 32) t8) h fun t9 h =>
 runD (aC aI t1 2) h fun t10 h =>
 runD (fitD bT (aD h t10)) h fun t11 h =>
 runD (lenD bT h t11) h fun t12 h =>
 runD (binD aB .add t9 t12) h fun t13 h =>
 runD (gS dL [(0, t5), (1, t13)]) h fun t14 h =>
 cQ dL h fun t3 h =>
 runH (aP dL h t3 t14) h fun _ h =>
 runD (eB dL h t3 (some (.int .i64 3)) none none) h fun t15 h =>
 runD (aC aI t1 1) h fun t16 h =>
 runD (fitD bT (aD h t16)) h fun t17 h =>
 aR false c.noS (.fn (.func 117) [] []) [t17] h (fun t18 h =>
 runM (lX aK h t15 t18) h fun t19 h =>
 runD (eB dL h t3 (some (.int .i64 6)) none none) h fun t20 h =>
 runD (aC aI t1 2) h fun t21 h =>
 runD (fitD bT (aD h t21)) h fun t22 h =>
 aR false c.noS (.fn (.func 117) [] []) [t22] h (fun t23 h =>
 runM (lX aK h t20 t23) h fun t24 h =>
 runD (aC aI t1 0) h fun t25 h =>
 runD (fitD aB (aD h t25)) h fun t26 h =>
 runD (binD aB .eql t26 (.int .i64 2)) h fun t27 h =>
 aM (fun (J1 : List AObj → Prop) =>
 aU t27
 (runD (aC aI t1 3) h fun t28 h =>
 runD (fitD aB (aD h t28)) h fun t29 h =>
 runD (aH dL h t3 (.int .i64 6)) h fun t30 h =>
 runH (aP aB h t30 t29) h fun _ h =>
 J1 h)
 (J1 h))
 (fun h => runD (fitD dL (aD h t3)) h fun t31 h =>
 aR false c (.fn (.func 118) [] []) [t31] h (fun t32 h =>
 runH (aP dL h t2 t32) h fun _ h =>
 cT (fitD dL (aD h t2)) fun r0 => K (.ret r0) h)
 (fun v h => K (.pan v) h)))
 (fun _ _ => False))
 (fun _ _ => False)
def fW.loops : Nat → bW
 | _ => ⟨[], [], [], [], [], []⟩
def fW.H (c : Ctx) (t0 : AV) (h : List AObj) (K : AOut → List AObj → Prop) : Prop :=
 boxW dL t0 h fun t1 h =>
 cQ dL h fun t2 h =>
 runD (aH dL h t1 (.int .i64 0)) h fun t4 h =>
 runD (fitD aB (aD h t4)) h fun t5 h =>
 runD (aH dL h t1 (.int .i64 1)) h fun t6 h =>
 runD (fitD aB (aD h t6)) h fun t7 h =>
 runD (eO aK 2 [(0, t5), (1, t7)] h.length) h fun t8 h =>
 runD (eB dL h t1 (some (.int .i64 3)) none none) h fun t9 h =>
 jM (fT aK h t8 t9 h.length) (gH aK h t8 t9) h fun t10 h =>
 aR false c (.fn (.func 93) [] []) [t10] h (fun t12 h =>
 runD (aH dL h t1 (.int .i64 2)) h fun t13 h =>
 runH (aP aB h t13 t12) h fun _ h =>
 runD (fitD dL (aD h t1)) h fun t14 h =>
 runH (aP dL h t2 t14) h fun _ h =>
 cT (fitD dL (aD h t2)) fun r0 => K (.ret r0) h)
 (fun v h => K (.pan v) h)
theorem dQ.eq (F : List (FuncId × aE)) (S : List (FuncId × Con)) (t0 t1 : AV) (h : List AObj) (K : AOut → List AObj → Prop) : funW (ctx F S dQ.loops) Tryz.f79 [t0, t1] h K = dQ.H (ctx F S dQ.loops) t0 t1 h K := by kernel_rfl
theorem iE.eq (F : List (FuncId × aE)) (S : List (FuncId × Con)) (t0 t1 t2 : AV) (h : List AObj) (K : AOut → List AObj → Prop) : funW (ctx F S iE.loops) Tryz.f99 [t0, t1, t2] h K = iE.H (ctx F S iE.loops) t0 t1 t2 h K := by kernel_rfl
theorem eZ.eq (F : List (FuncId × aE)) (S : List (FuncId × Con)) (t0 : AV) (h : List AObj) (K : AOut → List AObj → Prop) : funW (ctx F S eZ.loops) Tryz.f100 [t0] h K = eZ.H (ctx F S eZ.loops) t0 h K := by kernel_rfl
theorem iW.eq (F : List (FuncId × aE)) (S : List (FuncId × Con)) (t0 : AV) (h : List AObj) (K : AOut → List AObj → Prop) : funW (ctx F S iW.loops) Tryz.f101 [t0] h K = iW.H (ctx F S iW.loops) t0 h K := by kernel_rfl
theorem fW.eq (F : List (FuncId × aE)) (S : List (FuncId × Con)) (t0 : AV) (h : List AObj) (K : AOut → List AObj → Prop) : funW (ctx F S fW.loops) Tryz.f118 [t0] h K = fW.H (ctx F S fW.loops) t0 h K := by kernel_rfl
theorem dQ.at : Tryz.prog.funcs[79]? = some Tryz.f79 := by kernel_rfl
theorem dQ.nm : (Tryz.f79.name == "runtime.NumGoroutine") = false := by kernel_rfl
theorem dQ.bd : Tryz.f79.body.isNone = false := by kernel_rfl
theorem iE.at : Tryz.prog.funcs[99]? = some Tryz.f99 := by kernel_rfl
theorem iE.nm : (Tryz.f99.name == "runtime.NumGoroutine") = false := by kernel_rfl
theorem iE.bd : Tryz.f99.body.isNone = false := by kernel_rfl
theorem eZ.at : Tryz.prog.funcs[100]? = some Tryz.f100 := by kernel_rfl
theorem eZ.nm : (Tryz.f100.name == "runtime.NumGoroutine") = false := by kernel_rfl
theorem eZ.bd : Tryz.f100.body.isNone = false := by kernel_rfl
theorem iW.at : Tryz.prog.funcs[101]? = some Tryz.f101 := by kernel_rfl
theorem iW.nm : (Tryz.f101.name == "runtime.NumGoroutine") = false := by kernel_rfl
theorem iW.bd : Tryz.f101.body.isNone = false := by kernel_rfl
theorem fW.at : Tryz.prog.funcs[118]? = some Tryz.f118 := by kernel_rfl
theorem fW.nm : (Tryz.f118.name == "runtime.NumGoroutine") = false := by kernel_rfl
theorem fW.bd : Tryz.f118.body.isNone = false := by kernel_rfl
end Lam
namespace Lam
open Go Go.Proofs
def eZ.C : aE
  | [.agg [.int .i64 a, .str k, .str v, .int .i64 c]] => some (false, pD True (.bool (recB ⟨a, k, v, c⟩)))
  | _ => none
theorem eZ.spec : bI Tryz.prog 100 eZ.C := by
  refine bI.of (bQ (F := [(53, gZ.C), (116, eQ.C)]) (S := []) (by simpa using ⟨gZ.spec, eQ.spec⟩) (by simp) eZ.loops) eZ.at eZ.nm eZ.bd ?_
  intro vs b S v news e hS
  unfold eZ.C at e
  split at e
  rotate_left
  · cases e
  cases e
  rw [eZ.eq]
  unfold eZ.H
  simp (maxSteps := 4000000) only [go_sem, reduceEqDiff, Nat.reduceLT, reduceAdd, reduceSub, reduceLeDiff, reduceReplicate, reduceToNat, gZ.C, eQ.C]
  rename_i a k v c
  have r1 : a = 1 → recB ⟨a, k, v, c⟩ = (decide (¬ k = []) && decide ((List.length k : Int) ≤ 21) && decide ((List.length v : Int) ≤ 21) && decide (c = 0)) := by
    rintro rfl
    unfold recB keyB
    rw [Bool.eq_iff_iff]
    simp [and_assoc]
  have r2 : a = 2 → recB ⟨a, k, v, c⟩ = ((decide (k = []) || decide (¬ k = []) && decide ((List.length k : Int) ≤ 21)) && decide (v = []) && decide (0 < c) && decide (c < 256)) := by
    rintro rfl
    unfold recB keyB
    rw [Bool.eq_iff_iff]
    simp [and_assoc]
  have r3 : ¬ a = 1 → ¬ a = 2 → recB ⟨a, k, v, c⟩ = false := by
    intro h1 h2
    unfold recB
    rw [decide_eq_false h1, decide_eq_false h2]; rfl
  refine ⟨fun h => ?_, fun h => ⟨fun h2 => ?_, fun h2 => ?_⟩⟩
  · rw [r1 h]; exact aG rfl rfl
  · rw [r2 h2]; exact aG rfl rfl
  · rw [r3 h h2]; exact aG rfl rfl
def fW.C : aE
  | [.arr (.ints .i64 l)] => some (false, pD (l.length = 16) (.arr (.ints .i64 (l.set 2 (aBa (l.getD 0 0 :: l.getD 1 0 :: l.drop 3))))))
  | _ => none
theorem fW.spec : bI Tryz.prog 118 fW.C := by
  refine bI.of (bQ (F := [(93, iJ.C)]) (S := []) (by simpa using iJ.spec) (by simp) fW.loops) fW.at fW.nm fW.bd ?_
  intro vs b S v news e hS
  unfold fW.C at e
  split at e
  rotate_left
  · cases e
  cases e
  rw [fW.eq]
  unfold fW.H
  simp (maxSteps := 4000000) only [go_sem, reduceEqDiff, Nat.reduceLT, reduceAdd, reduceSub, reduceLeDiff, reduceReplicate, reduceToNat, iJ.C]
  rename_i l
  simp only [hS, iJ.C, aA, gq, reduceEq, reduceLT, reduceLE, implies_true, reduceCtorEq, if_true, if_false, go_sem, reduceEqDiff, Nat.reduceLT, reduceAdd, reduceSub, reduceLeDiff, reduceReplicate, reduceToNat]
  have htk : (l.drop 3).take 13 = l.drop 3 := qQ _ (by simp; omega)
  rw [htk]
  have : roomy ((l.drop 3).length + 1 + 1) := by unfold roomy; simp; omega
  exact ⟨this, this, aG rfl rfl⟩
def iW.C : aE
  | [.agg [.int .i64 a, .str k, .str v, .int .i64 c]] => some (false, pD (Rc.ok ⟨a, k, v, c⟩) (.arr (.ints .i64 (jA ⟨a, k, v, c⟩))))
  | _ => none
theorem iW.spec : bI Tryz.prog 101 iW.C := by
  refine bI.of (bQ (F := [(117, fI.C), (118, fW.C)]) (S := []) (by simpa using ⟨fI.spec, fW.spec⟩) (by simp) iW.loops) iW.at iW.nm iW.bd ?_
  intro vs b S v news e hS
  unfold iW.C at e
  split at e
  rotate_left
  · cases e
  cases e
  rw [iW.eq]
  unfold iW.H
  simp (maxSteps := 4000000) only [go_sem, reduceEqDiff, Nat.reduceLT, reduceAdd, reduceSub, reduceLeDiff, reduceReplicate, reduceToNat, fI.C, fW.C]
  rename_i a k v c
  have hok := hS
  have hk := pA hS.key
  have hkl : (keyW k).length = (k.length + 6) / 7 := vO k
  have hvl : (keyW v).length = (v.length + 6) / 7 := vO v
  have q1 := hS.key
  have q2 := hS.val
  simp only at q1 q2 hk
  have e1 : IntKind.i64.wrap (IntKind.i64.wrap (32 * (List.length k : Int)) + (List.length v : Int)) = mY ⟨a, k, v, c⟩ := by
    rw [w64 (n := 32 * (List.length k : Int)) (by omega) (by omega), w64 (by omega) (by omega)]; rfl
  rw [e1]
  generalize hm : mY ⟨a, k, v, c⟩ = m at *
  have pad : ∀ (t : List Int), t.length ≤ 3 → t.take 13 ++ List.take (16 - (3 + min 13 t.length)) (List.drop (3 + min 13 t.length) [a, m, 0, 0, 0, 0, 0, 0, 0, 0, 0, 0, 0, 0, 0, 0]) = t ++ List.replicate (13 - t.length) 0 := by
    intro t ht
    rw [qQ t (by omega), Nat.min_eq_right (by omega)]
    congr 1
    have : ∀ n, n ≤ 3 → List.take (16 - (3 + n)) (List.drop (3 + n) [a, m, 0, 0, 0, 0, 0, 0, 0, 0, 0, 0, 0, 0, 0, 0]) = List.replicate (13 - n) 0 := by
      intro n hn
      rcases n with _|_|_|_|n <;> first | rfl | omega
    exact this _ ht
  have hkl3 : (keyW k).length ≤ 3 := by omega
  have hvl3 : (keyW v).length ≤ 3 := by omega
  rw [pad _ hkl3]
  have hL : (keyW k ++ List.replicate (13 - (keyW k).length) 0).length = 13 := by simp; omega
  simp only [hL, fI.C, aA, gq, reduceEq, reduceLT, reduceLE, implies_true, reduceCtorEq, if_true, if_false, go_sem, reduceEqDiff, Nat.reduceLT, reduceAdd, reduceSub, reduceLeDiff, reduceReplicate, reduceToNat]
  have hZ : List.take 3 (keyW k ++ List.replicate (13 - (keyW k).length) 0) = jX k := by
    unfold jX
    rw [List.take_append, qQ (keyW k) hkl3, List.take_replicate, Nat.min_eq_left (by omega)]
  have hT : List.take 10 (keyW v) ++ List.take (16 - (6 + min 10 (keyW v).length)) (List.drop (6 + min 10 (keyW v).length) (a :: m :: 0 :: (keyW k ++ List.replicate (13 - (keyW k).length) 0))) = keyW v ++ List.replicate (10 - (keyW v).length) 0 := by
    rw [qQ (keyW v) (by omega), Nat.min_eq_right (by omega)]
    congr 1
    rw [show 6 + (keyW v).length = (3 + (keyW v).length) + 1 + 1 + 1 from by omega, List.drop_succ_cons, List.drop_succ_cons, List.drop_succ_cons, List.drop_append, List.drop_eq_nil_of_le (by omega), List.nil_append, List.drop_replicate, List.take_replicate]
    congr 1; omega
  rw [hZ, hT]
  have hlen : (jX k ++ (keyW v ++ List.replicate (10 - (keyW v).length) 0)).length = 13 := by simp [hk]; omega
  have hr1 : a ≠ 2 → jX k ++ (keyW v ++ List.replicate (10 - (keyW v).length) 0) = wG ⟨a, k, v, c⟩ := by
    intro h
    unfold wG
    simp only [if_neg h]
    congr 1
    unfold jX
    rw [List.append_assoc, List.replicate_append_replicate]
    congr 2; omega
  have hr2 : a = 2 → (jX k ++ (keyW v ++ List.replicate (10 - (keyW v).length) 0)).set 3 c = wG ⟨a, k, v, c⟩ := by
    intro h
    have hv0 : v = [] := by
      rcases hok with h' | h'
      · have := h'.1; simp only at this; omega
      · exact h'.2.2.1
    subst hv0
    unfold wG
    simp only [if_pos h]
    rw [List.set_append_right _ _ (by omega), hk]
    rfl
  have hmr : m = mY ⟨a, k, v, c⟩ := hm.symm
  simp only [hlen, fW.C, aA, gq, reduceEq, reduceLT, reduceLE, implies_true, reduceCtorEq, if_true, if_false, go_sem, reduceEqDiff, Nat.reduceLT, reduceAdd, reduceSub, reduceLeDiff, reduceReplicate, reduceToNat]
  have hd3 : ∀ R : List Int, List.drop 3 (a :: m :: 0 :: R) = R := fun R => rfl
  refine ⟨by unfold roomy; omega, by unfold roomy; omega, fun h2 => ?_, fun h2 => ?_⟩
  · rw [hr2 h2, hd3, hmr]; exact aG rfl rfl
  · rw [hr1 h2, hd3, hmr]; exact aG rfl rfl
def iE.C : aE
  | [.arr (.ints .i64 l), .int .i64 a, .int .i64 n] => some (false, pD (l.length = 16 ∧ 0 ≤ a ∧ a ≤ 6) (.tup [.str (txtS l a.toNat n), .bool (txtB l a.toNat n)]))
  | _ => none
theorem iE.spec : bI Tryz.prog 99 iE.C := by
  refine bI.of (bQ (F := [(115, eL.C)]) (S := []) (by simpa using eL.spec) (by simp) iE.loops) iE.at iE.nm iE.bd ?_
  intro vs b S v news e hS
  unfold iE.C at e
  split at e
  rotate_left
  · cases e
  cases e
  rw [iE.eq]
  unfold iE.H
  simp (maxSteps := 4000000) only [go_sem, reduceEqDiff, Nat.reduceLT, reduceAdd, reduceSub, reduceLeDiff, reduceReplicate, reduceToNat, eL.C]
  rename_i l a n
  obtain ⟨hl, ha0, ha6⟩ := hS
  have eg : (decide (n < 0) || decide (21 < n)) = !(decide (0 ≤ n) && decide (n ≤ 21)) := by
    rw [Bool.eq_iff_iff]; simp only [Bool.or_eq_true, Bool.not_eq_true', Bool.and_eq_false_iff, decide_eq_true_eq, decide_eq_false_iff_not]; omega
  rw [eg]
  refine ⟨hl, fun h => ?_, fun h => ?_⟩
  · have hb : txtB l a.toNat n = false := by
      unfold txtB; rw [Bool.not_eq_true'] at h; rw [h]; rfl
    unfold txtS
    rw [hb]; exact aG rfl rfl
  · rw [Bool.not_eq_false'] at h
    have h' := h
    simp only [Bool.and_eq_true, decide_eq_true_eq] at h'
    obtain ⟨N, rfl⟩ := Int.eq_ofNat_of_zero_le h'.1
    obtain ⟨A, rfl⟩ := Int.eq_ofNat_of_zero_le ha0
    have hN : N ≤ 21 := by omega
    have q0 : (N + 6) / 7 ≤ 3 := by omega
    have e1 : IntKind.i64.wrap ((N : Int) + 6) = ((N + 6 : Nat) : Int) := by rw [w64 (by omega) (by omega)]; omega
    have e2 : IntKind.i64.wrap (((N + 6 : Nat) : Int).tdiv 7) = (((N + 6) / 7 : Nat) : Int) := by
      rw [Int.tdiv_eq_ediv_of_nonneg (by omega), w64 (by omega) (by omega)]; omega
    have e3 : IntKind.i64.wrap ((A : Int) + (((N + 6) / 7 : Nat) : Int)) = ((A + (N + 6) / 7 : Nat) : Int) := by rw [w64 (by omega) (by omega)]; omega
    have e4 : A + (N + 6) / 7 - A = (N + 6) / 7 := by omega
    rw [e1, e2, e3]
    simp only [hl, Int.toNat_natCast, e4, eL.C, aA, gq, reduceEq, reduceLT, reduceLE, implies_true, reduceCtorEq, if_true, if_false, go_sem, reduceEqDiff, Nat.reduceLT, reduceAdd, reduceSub, reduceLeDiff, reduceReplicate, reduceToNat]
    have hbt : txtB l A (N : Int) = nQ ((l.drop A).take ((N + 6) / 7)) N := by
      unfold txtB
      rw [Int.toNat_natCast, h, Bool.true_and]
    have hst : txtS l A (N : Int) = if nQ ((l.drop A).take ((N + 6) / 7)) N = true then wF ((l.drop A).take ((N + 6) / 7)) N else [] := by
      unfold txtS
      rw [hbt, Int.toNat_natCast]
    have hw : roomy (7 * (List.take ((N + 6) / 7) (List.drop A l)).length) := by rw [List.length_take]; unfold roomy; omega
    rw [hst, hbt]
    unfold aBf
    refine ⟨by omega, ⟨hw, by omega⟩, ?_⟩
    cases nQ ((l.drop A).take ((N + 6) / 7)) N
    · simp only [aA, gq, reduceEq, reduceLT, reduceLE, implies_true, reduceCtorEq, if_true, if_false, go_sem, reduceEqDiff, Nat.reduceLT, reduceAdd, reduceSub, reduceLeDiff, reduceReplicate, reduceToNat]; exact aG rfl rfl
    · simp only [aA, gq, reduceEq, reduceLT, reduceLE, implies_true, reduceCtorEq, if_true, if_false, go_sem, reduceEqDiff, Nat.reduceLT, reduceAdd, reduceSub, reduceLeDiff, reduceReplicate, reduceToNat]; exact aG rfl rfl
def pC (words : List Int) (at_ : Int) : AV := if (decide (at_ < 0) || decide (((words.length / 16 : Nat) : Int) ≤ at_)) = true then .tup [kB.V, .int .i64 1] else match wH (kQ words at_.toNat) with
  | some n => .tup [n.V, .int .i64 0]
  | none => .tup [kB.V, .int .i64 70]
def pO (w : List Int) : Rc := ⟨w.getD 0 0, txtS w 3 (IntKind.i64.wrap ((w.getD 1 0).tdiv 32)), if w.getD 0 0 = 1 then txtS w 6 ((w.getD 1 0).tmod 32) else [], if w.getD 0 0 = 2 then w.getD 6 0 else 0⟩
theorem aGy {x : Rc} (h : x.ok) : IntKind.i64.wrap ((mY x).tdiv 32) = x.key.length ∧ (mY x).tmod 32 = x.val.length := by
  have hl := aAD h
  rw [Int.tdiv_eq_ediv_of_nonneg hl.2.2.1, Int.tmod_eq_emod_of_nonneg hl.2.2.1, w64 (by omega) (by omega)]
  exact ⟨hl.1, hl.2.1⟩
theorem aJm {x : Rc} (h : x.ok) : pO (jA x) = x := by
  have hd := aEM h
  have e1 : (jA x).getD 1 0 = mY x := rfl
  have hl := aAD h
  have hp := aGy h
  unfold decC at hd
  unfold pO
  rw [e1, hl.1, hl.2.1] at hd
  rw [e1, hp.1, hp.2]; exact hd
theorem aDV (w : List Int) : pN pO w = wH w := aLL (fun n h => aJm h) (fun n h => aEM h) w
theorem aNO {w : List Int} (h : txtB w 3 (IntKind.i64.wrap ((w.getD 1 0).tdiv 32)) = false) : wH w = none := by
  apply aDq
  rintro x hx rfl
  have e1 : (jA x).getD 1 0 = mY x := rfl
  rw [e1, (aGy hx).1, (aGo hx).1] at h
  cases h
theorem aNP {w : List Int} (h1 : w.getD 0 0 = 1) (h : txtB w 6 ((w.getD 1 0).tmod 32) = false) : wH w = none := by
  apply aDq
  rintro x hx rfl
  have e1 : (jA x).getD 1 0 = mY x := rfl
  rw [e1, (aGy hx).2, (aGp hx h1).1] at h
  cases h
def dQ.C : aE
  | [.sl _ (.ints .i64 l), .int .i64 k] => some (false, pD (roomy l.length) (pC l k))
  | _ => none
theorem dQ.spec : bI Tryz.prog 79 dQ.C := by
  refine bI.of (bQ (F := [(99, iE.C), (100, eZ.C), (101, iW.C)]) (S := []) (by simpa using ⟨iE.spec, eZ.spec, iW.spec⟩) (by simp) dQ.loops) dQ.at dQ.nm dQ.bd ?_
  intro vs b S v news e hS
  unfold dQ.C at e
  split at e
  rotate_left
  · cases e
  cases e
  rw [dQ.eq]
  unfold dQ.H
  simp (maxSteps := 4000000) only [go_sem, reduceEqDiff, Nat.reduceLT, reduceAdd, reduceSub, reduceLeDiff, reduceReplicate, reduceToNat, iE.C, eZ.C, iW.C]
  rename_i l k
  have hrl := hS
  unfold roomy at hS
  have e0 : IntKind.i64.wrap ((l.length : Int).tdiv 16) = ((l.length / 16 : Nat) : Int) := by
    rw [Int.tdiv_eq_ediv_of_nonneg (by omega)]; exact w64 (by omega) (by omega)
  rw [e0]
  unfold pC
  refine ⟨fun _ => by decide, fun h => ?_, fun h => ?_⟩
  · rw [if_pos h]
    refine aG ?_ rfl
    simp only [kB, go_sem, reduceEqDiff, Nat.reduceLT, reduceAdd, reduceSub, reduceLeDiff, reduceReplicate, reduceToNat]
  · rw [h]
    simp only [Bool.or_eq_false_iff, decide_eq_false_iff_not] at h
    obtain ⟨k, rfl⟩ := Int.eq_ofNat_of_zero_le (show 0 ≤ k by omega)
    have hk : 16 * k + 16 ≤ l.length := by omega
    have e1 : IntKind.i64.wrap (16 * (k : Int)) = 16 * (k : Int) := w64 (by omega) (by omega)
    have e5 : (16 * (k : Int)).toNat = 16 * k := by omega
    have hdl : (l.drop (16 * k)).length = l.length - 16 * k := by simp
    have et : (l.drop (16 * k)).take (l.length - 16 * k) = l.drop (16 * k) := qQ _ (by omega)
    have hbl : (kQ l k).length = 16 := by unfold kQ; simp; omega
    rw [e1, e5, et, hdl, Nat.min_eq_left (by omega)]
    have ew : (l.drop (16 * k)).take 16 ++ List.take (16 - 16) (List.drop 16 [0, 0, 0, 0, 0, 0, 0, 0, 0, 0, 0, 0, 0, 0, 0, 0]) = kQ l k := by
      show (l.drop (16 * k)).take 16 ++ [] = _
      rw [List.append_nil]; rfl
    rw [ew, Int.toNat_natCast]
    generalize kQ l k = w at *
    have hV : (pO w).V = .agg [.int .i64 (w.getD 0 0), .str (txtS w 3 (IntKind.i64.wrap ((w.getD 1 0).tdiv 32))), .str (if w.getD 0 0 = 1 then txtS w 6 ((w.getD 1 0).tmod 32) else []), .int .i64 (if w.getD 0 0 = 2 then w.getD 6 0 else 0)] := rfl
    simp only [hbl, iE.C, aA, gq, reduceEq, reduceLT, reduceLE, implies_true, reduceCtorEq, if_true, if_false, go_sem, reduceEqDiff, Nat.reduceLT, reduceAdd, reduceSub, reduceLeDiff, reduceReplicate, reduceToNat]
    refine ⟨by omega, fun hT => ?_, fun hT => ⟨fun h1 => ?_, fun h1 => ⟨fun h2 => ?_, fun h2 => ?_⟩⟩⟩
    · rw [aNO hT]
      refine aG ?_ rfl
      simp only [kB, go_sem, reduceEqDiff, Nat.reduceLT, reduceAdd, reduceSub, reduceLeDiff, reduceReplicate, reduceToNat]
    · have hd1 : (⟨w.getD 0 0, txtS w 3 (IntKind.i64.wrap ((w.getD 1 0).tdiv 32)), txtS w 6 ((w.getD 1 0).tmod 32), 0⟩ : Rc) = pO w := by
        unfold pO; rw [if_pos h1, if_neg (by omega)]
      cases h6 : txtB w 6 ((w.getD 1 0).tmod 32) with
      | false =>
        simp only [Bool.not_false, yR]
        rw [aNP h1 h6]
        refine aG ?_ rfl
        simp only [kB, go_sem, reduceEqDiff, Nat.reduceLT, reduceAdd, reduceSub, reduceLeDiff, reduceReplicate, reduceToNat]
      | true =>
        rw [← aDV]
        unfold pN
        cases hb : recB (pO w) with
        | false =>
          simp only [eZ.C, hd1, hb, Bool.false_and, Bool.false_eq_true, if_false, aA, gq, reduceEq, reduceLT, reduceLE, implies_true, reduceCtorEq, if_true, if_false, go_sem, reduceEqDiff, Nat.reduceLT, reduceAdd, reduceSub, reduceLeDiff, reduceReplicate, reduceToNat]
          refine aG ?_ rfl
          simp only [kB, go_sem, reduceEqDiff, Nat.reduceLT, reduceAdd, reduceSub, reduceLeDiff, reduceReplicate, reduceToNat]
        | true =>
          have hok := xO.1 hb
          have hfl := aCe hok
          simp only [eZ.C, iW.C, hd1, hb, hfl, hbl, Bool.true_and, aA, gq, reduceEq, reduceLT, reduceLE, implies_true, reduceCtorEq, if_true, if_false, go_sem, reduceEqDiff, Nat.reduceLT, reduceAdd, reduceSub, reduceLeDiff, reduceReplicate, reduceToNat]
          refine ⟨hok, fun h => ?_, fun h => ?_⟩
          · rw [if_neg h]
            refine aG ?_ rfl
            simp only [kB, go_sem, reduceEqDiff, Nat.reduceLT, reduceAdd, reduceSub, reduceLeDiff, reduceReplicate, reduceToNat]
          · rw [if_pos h, ← hd1]
            exact aG rfl rfl
    · have hd1 : (⟨w.getD 0 0, txtS w 3 (IntKind.i64.wrap ((w.getD 1 0).tdiv 32)), [], w.getD 6 0⟩ : Rc) = pO w := by
        unfold pO; rw [if_neg (by omega), if_pos h2]
      rw [← aDV]
      unfold pN
      cases hb : recB (pO w) with
      | false =>
        simp only [hT, eZ.C, hd1, hb, Bool.false_and, Bool.false_eq_true, if_false, aA, gq, reduceEq, reduceLT, reduceLE, implies_true, reduceCtorEq, if_true, if_false, go_sem, reduceEqDiff, Nat.reduceLT, reduceAdd, reduceSub, reduceLeDiff, reduceReplicate, reduceToNat]
        refine aG ?_ rfl
        simp only [kB, go_sem, reduceEqDiff, Nat.reduceLT, reduceAdd, reduceSub, reduceLeDiff, reduceReplicate, reduceToNat]
      | true =>
        have hok := xO.1 hb
        have hfl := aCe hok
        simp only [hT, eZ.C, iW.C, hd1, hb, hfl, hbl, Bool.true_and, aA, gq, reduceEq, reduceLT, reduceLE, implies_true, reduceCtorEq, if_true, if_false, go_sem, reduceEqDiff, Nat.reduceLT, reduceAdd, reduceSub, reduceLeDiff, reduceReplicate, reduceToNat]
        refine ⟨hok, fun h => ?_, fun h => ?_⟩
        · rw [if_neg h]
          refine aG ?_ rfl
          simp only [kB, go_sem, reduceEqDiff, Nat.reduceLT, reduceAdd, reduceSub, reduceLeDiff, reduceReplicate, reduceToNat]
        · rw [if_pos h, ← hd1]
          exact aG rfl rfl
    · have hd1 : (⟨w.getD 0 0, txtS w 3 (IntKind.i64.wrap ((w.getD 1 0).tdiv 32)), [], 0⟩ : Rc) = pO w := by
        unfold pO; rw [if_neg (by omega), if_neg h2]
      rw [← aDV]
      unfold pN
      cases hb : recB (pO w) with
      | false =>
        simp only [hT, eZ.C, hd1, hb, Bool.false_and, Bool.false_eq_true, if_false, aA, gq, reduceEq, reduceLT, reduceLE, implies_true, reduceCtorEq, if_true, if_false, go_sem, reduceEqDiff, Nat.reduceLT, reduceAdd, reduceSub, reduceLeDiff, reduceReplicate, reduceToNat]
        refine aG ?_ rfl
        simp only [kB, go_sem, reduceEqDiff, Nat.reduceLT, reduceAdd, reduceSub, reduceLeDiff, reduceReplicate, reduceToNat]
      | true =>
        have hok := xO.1 hb
        have hfl := aCe hok
        simp only [hT, eZ.C, iW.C, hd1, hb, hfl, hbl, Bool.true_and, aA, gq, reduceEq, reduceLT, reduceLE, implies_true, reduceCtorEq, if_true, if_false, go_sem, reduceEqDiff, Nat.reduceLT, reduceAdd, reduceSub, reduceLeDiff, reduceReplicate, reduceToNat]
        refine ⟨hok, fun h => ?_, fun h => ?_⟩
        · rw [if_neg h]
          refine aG ?_ rfl
          simp only [kB, go_sem, reduceEqDiff, Nat.reduceLT, reduceAdd, reduceSub, reduceLeDiff, reduceReplicate, reduceToNat]
        · rw [if_pos h, ← hd1]
          exact aG rfl rfl
end Lam
namespace Lam
open Go Go.Proofs
def uL : AV := .iface 128 (.agg [])
theorem iM {w : List Int} {b : Int} {n : Nd} (h : dF w b = some n) : qI w b = .tup [n.V, .int .i64 0] := by
  unfold dF at h
  unfold qI
  split at h
  · cases h
  · rename_i hb; rw [if_neg hb, h]
theorem nT {w : List Int} {b : Int} (h : dF w b = none) : ∃ e, e ≠ 0 ∧ qI w b = .tup [jH.V, .int .i64 e] := by
  unfold dF at h
  unfold qI
  split at h
  · rename_i hb; rw [if_pos hb]; exact ⟨1, by decide, rfl⟩
  · rename_i hb; rw [if_neg hb, h]; exact ⟨90, by decide, rfl⟩
theorem sT {w : List Int} {b : Int} {n : Rc} (h : recO w b = some n) : pC w b = .tup [n.V, .int .i64 0] := by
  unfold recO at h
  unfold pC
  split at h
  · cases h
  · rename_i hb; rw [if_neg hb, h]
theorem sU {w : List Int} {b : Int} (h : recO w b = none) : ∃ e, e ≠ 0 ∧ pC w b = .tup [kB.V, .int .i64 e] := by
  unfold recO at h
  unfold pC
  split at h
  · rename_i hb; rw [if_pos hb]; exact ⟨1, by decide, rfl⟩
  · rename_i hb; rw [if_neg hb, h]; exact ⟨70, by decide, rfl⟩
theorem nK {v pv : AV} {b : Bool} {news : List AObj} {h : List AObj} : aDh true pv b v news (.pan pv) h := rfl
theorem pE {ao : AOut} {pv v : AV} {b : Bool} {news : List AObj} {h : List AObj} (p : Post b v news ao h) : aDh false pv b v news ao h := p
def cG.J : JCon
  | [.bool b] => some (True, !b, uL, false, .tup [], [])
  | _ => none
abbrev cG.K : Con := Jcon cG.J
set_option maxHeartbeats 1000000 in
theorem cG.jspec : mX Tryz.prog 77 cG.J := by
  refine mX.of (bQ (F := []) (S := []) (by simp) (by simp) cG.loops) cG.at cG.nm cG.bd ?_ ?_
  · intro vs S pb pv b v news e
    unfold cG.J at e
    split at e
    rotate_left
    · cases e
    cases e
    rfl
  intro vs S pb pv b v news e hS
  unfold cG.J at e
  split at e
  rotate_left
  · cases e
  cases e
  rw [cG.eq]
  unfold cG.H
  simp (maxSteps := 4000000) only [go_sem, reduceEqDiff, Nat.reduceLT, reduceAdd, reduceSub, reduceLeDiff, reduceReplicate, reduceToNat]
  rename_i b
  rw [aA]
  exact ⟨fun h => by subst h; rfl, fun h => by subst h; exact pE (aG rfl rfl)⟩
def iG (w : List Int) : Prop := w.length ≤ 65536 ∧ i64s w
theorem iG.roomy {w : List Int} (h : iG w) : roomy w.length := by have := h.1; unfold Lam.roomy; omega
def cP.J : JCon
  | [.sl _ (.ints .i64 w), .int .i64 b] => some (iG w, (dF w b).isNone, uL, false, ((dF w b).getD jH).V, [])
  | _ => none
abbrev cP.K : Con := Jcon cP.J
set_option maxHeartbeats 1000000 in
theorem cP.jspec : mX Tryz.prog 75 cP.J := by
  refine mX.of (bQ (F := [(46, cM.C)]) (S := [(77, cG.K)]) (by simpa using cM.spec) (by simpa using cG.jspec.con) cP.loops) cP.at cP.nm cP.bd ?_ ?_
  · intro vs S pb pv b v news e
    unfold cP.J at e
    split at e
    rotate_left
    · cases e
    cases e
    rfl
  intro vs S pb pv b v news e hS
  unfold cP.J at e
  split at e
  rotate_left
  · cases e
  cases e
  rw [cP.eq]
  unfold cP.H
  simp (maxSteps := 4000000) only [go_sem, reduceEqDiff, Nat.reduceLT, reduceAdd, reduceSub, reduceLeDiff, reduceReplicate, reduceToNat, cM.C, cG.K, cG.J]
  rename_i _ w b
  refine ⟨hS.roomy, ?_⟩
  cases hn : dF w b with
  | none =>
    obtain ⟨e, he, hr⟩ := nT hn
    have hd : decide (e = 0) = false := decide_eq_false he
    simp only [hr, jH, cG.J, hd, aA, gq, reduceEq, reduceLT, reduceLE, implies_true, reduceCtorEq, if_true, if_false, go_sem, reduceEqDiff, Nat.reduceLT, reduceAdd, reduceSub, reduceLeDiff, reduceReplicate, reduceToNat]
    exact nK
  | some n =>
    simp only [iM hn, cG.J, aA, gq, reduceEq, reduceLT, reduceLE, implies_true, reduceCtorEq, if_true, if_false, go_sem, reduceEqDiff, Nat.reduceLT, reduceAdd, reduceSub, reduceLeDiff, reduceReplicate, reduceToNat]
    exact pE (aG rfl rfl)
def eD.J : JCon
  | [.sl _ (.ints .i64 w), .int .i64 b] => some (iG w, (recO w b).isNone, uL, false, .str ((recO w b).getD kB).key, [])
  | _ => none
abbrev eD.K : Con := Jcon eD.J
set_option maxHeartbeats 1000000 in
theorem eD.jspec : mX Tryz.prog 97 eD.J := by
  refine mX.of (bQ (F := [(79, dQ.C)]) (S := [(77, cG.K)]) (by simpa using dQ.spec) (by simpa using cG.jspec.con) eD.loops) eD.at eD.nm eD.bd ?_ ?_
  · intro vs S pb pv b v news e
    unfold eD.J at e
    split at e
    rotate_left
    · cases e
    cases e
    rfl
  intro vs S pb pv b v news e hS
  unfold eD.J at e
  split at e
  rotate_left
  · cases e
  cases e
  rw [eD.eq]
  unfold eD.H
  simp (maxSteps := 4000000) only [go_sem, reduceEqDiff, Nat.reduceLT, reduceAdd, reduceSub, reduceLeDiff, reduceReplicate, reduceToNat, dQ.C, cG.K, cG.J]
  rename_i _ w b
  refine ⟨hS.roomy, ?_⟩
  cases hn : recO w b with
  | none =>
    obtain ⟨e, he, hr⟩ := sU hn
    have hd : decide (e = 0) = false := decide_eq_false he
    simp only [hr, kB, cG.J, hd, aA, gq, reduceEq, reduceLT, reduceLE, implies_true, reduceCtorEq, if_true, if_false, go_sem, reduceEqDiff, Nat.reduceLT, reduceAdd, reduceSub, reduceLeDiff, reduceReplicate, reduceToNat]
    exact nK
  | some n =>
    simp only [sT hn, cG.J, aA, gq, reduceEq, reduceLT, reduceLE, implies_true, reduceCtorEq, if_true, if_false, go_sem, reduceEqDiff, Nat.reduceLT, reduceAdd, reduceSub, reduceLeDiff, reduceReplicate, reduceToNat]
    exact pE (aG rfl rfl)
def dE.J : JCon
  | [.sl _ (.ints .i64 w), .agg [.int .i64 a, .int .i64 b, .int .i64 c, .int .i64 d, .sl _ (.ints .i64 l)]] => some (iG w, (lowO w ⟨a, b, c, d, l⟩).isNone, uL, false, .str ((lowO w ⟨a, b, c, d, l⟩).getD []), [])
  | _ => none
abbrev dE.K : Con := Jcon dE.J
set_option maxHeartbeats 1000000 in
theorem dE.jspec : mX Tryz.prog 76 dE.J := by
  refine mX.of (bQ (F := []) (S := [(97, eD.K)]) (by simp) (by simpa using eD.jspec.con) dE.loops) dE.at dE.nm dE.bd ?_ ?_
  · intro vs S pb pv b v news e
    unfold dE.J at e
    split at e
    rotate_left
    · cases e
    cases e
    rfl
  intro vs S pb pv b v news e hS
  unfold dE.J at e
  split at e
  rotate_left
  · cases e
  cases e
  rw [dE.eq]
  unfold dE.H
  simp (maxSteps := 4000000) only [go_sem, reduceEqDiff, Nat.reduceLT, reduceAdd, reduceSub, reduceLeDiff, reduceReplicate, reduceToNat, eD.K, eD.J]
  rename_i _ w a b c d _ l
  refine ⟨fun h => ?_, fun h => ⟨hS, fun hp => ?_, fun hp => ?_⟩⟩
  · have : lowO w ⟨a, b, c, d, l⟩ = some [] := by unfold lowO; rw [if_pos h]
    rw [this]; exact pE (aG rfl rfl)
  · have : lowO w ⟨a, b, c, d, l⟩ = none := by
      unfold lowO; rw [if_neg h]
      rw [Option.isNone_iff_eq_none] at hp
      simp only [hp]; rfl
    rw [this]; exact nK
  · obtain ⟨x, hx⟩ : ∃ x, recO w d = some x := by cases hr : recO w d with
      | none => rw [hr] at hp; cases hp
      | some x => exact ⟨x, rfl⟩
    have : lowO w ⟨a, b, c, d, l⟩ = some x.key := by
      unfold lowO; rw [if_neg h]
      simp only [hx]; rfl
    rw [this, hx]; exact pE (aG rfl rfl)
def dD.J : JCon
  | [.sl _ (.ints .i64 w)] => some (iG w, (kY (eF w) w).isNone, uL, true, .sref false 0 0 0 ((kY (eF w) w).getD []).length, [.row .own 0 (.ints .i64 ((kY (eF w) w).getD []))])
  | _ => none
abbrev dD.K : Con := Jcon dD.J
set_option maxHeartbeats 1000000 in
theorem dD.jspec : mX Tryz.prog 50 dD.J := by
  refine mX.of (bQ (F := [(38, dV.C), (83, cA.C)]) (S := [(77, cG.K), (75, cP.K)]) (by simpa using ⟨dV.spec, cA.spec⟩) (by simpa using ⟨cG.jspec.con, cP.jspec.con⟩) dD.loops) dD.at dD.nm dD.bd ?_ ?_
  · intro vs S pb pv b v news e
    unfold dD.J at e
    split at e
    rotate_left
    · cases e
    cases e
    rfl
  intro vs S pb pv b v news e hS
  unfold dD.J at e
  split at e
  rotate_left
  · cases e
  cases e
  rw [dD.eq]
  unfold dD.H
  simp (maxSteps := 4000000) only [go_sem, reduceEqDiff, Nat.reduceLT, reduceAdd, reduceSub, reduceLeDiff, reduceReplicate, reduceToNat, dV.C, cA.C, cG.K, cG.J, cP.K, cP.J]
  rename_i _ w
  refine ⟨hS.roomy, ?_⟩
  cases hb : eF w with
  | false =>
    have hr : kN w = .tup [.int .i64 0, .int .i64 0, .int .i64 80] := by unfold kN; rw [hb]; rfl
    simp only [hr, cG.J, aA, gq, reduceEq, reduceLT, reduceLE, implies_true, reduceCtorEq, if_true, if_false, go_sem, reduceEqDiff, Nat.reduceLT, reduceAdd, reduceSub, reduceLeDiff, reduceReplicate, reduceToNat]
    exact nK
  | true =>
    have hr : kN w = .tup [.int .i64 (w.getD 1 0), .int .i64 (w.getD 3 0), .int .i64 0] := by unfold kN; rw [hb]; rfl
    simp only [hr, cG.J, aA, gq, reduceEq, reduceLT, reduceLE, implies_true, reduceCtorEq, if_true, if_false, go_sem, reduceEqDiff, Nat.reduceLT, reduceAdd, reduceSub, reduceLeDiff, reduceReplicate, reduceToNat]
    unfold dD.L1
    have h16 : w.length ≤ 65536 := hS.1
    refine oI (σ := List Int × Int) (fun s => .sref false 0 s.1.length 0 s.1.length) (fun s => .int .i64 s.2) (fun s => [.row .own s.1.length (.ints .i64 s.1)]) (fun s => w.length / 16 + 1 - s.1.length)
      (fun s => s.1.Nodup ∧ (∀ x ∈ s.1, 0 ≤ x ∧ x < ((w.length / 16 : Nat) : Int)) ∧ tI w (w.length / 16 + 1 - s.1.length) s.2 s.1 = kY true w) ([], 1) rfl rfl ⟨List.nodup_nil, by simp, rfl⟩ ?_
    rintro I back ⟨out, at_⟩ ⟨hnd, hrg, hch⟩
    simp only at hnd hrg hch ⊢
    have hpg := aGr hnd hrg
    have hro : roomy out.length := by unfold roomy; omega
    obtain ⟨m, hm⟩ : ∃ m, w.length / 16 + 1 - out.length = m + 1 := ⟨w.length / 16 - out.length, by omega⟩
    rw [hm] at hch
    simp only [tI] at hch
    simp only [cP.J, cG.J, cA.C, go_sem, reduceEqDiff, Nat.reduceLT, reduceAdd, reduceSub, reduceLeDiff, reduceReplicate, reduceToNat]
    refine ⟨fun h0 => ⟨hS, fun hp => ?_, fun hp => ?_⟩, fun h0 => ?_⟩
    · rw [if_neg h0] at hch
      rw [Option.isNone_iff_eq_none] at hp
      rw [hp] at hch
      rw [← hch]; exact nK
    · obtain ⟨n, hn⟩ : ∃ n, dF w at_ = some n := by
        cases hr : dF w at_ with
        | none => rw [hr] at hp; cases hp
        | some x => exact ⟨x, rfl⟩
      rw [if_neg h0, hn] at hch
      simp only [hn, Option.getD_some] at hch ⊢
      obtain ⟨_, hn0, hn1, _⟩ := lQ hn
      refine ⟨fun _ => hro, fun hc => ?_, fun hc => ?_⟩
      · rw [if_neg] at hch
        · rw [← hch]; exact nK
        · rintro ⟨h1, h2⟩
          rw [decide_eq_true h1, decide_eq_false h2] at hc
          cases hc
      · simp only [Bool.and_eq_true, decide_eq_true_eq, Bool.not_eq_true', decide_eq_false_iff_not] at hc
        rw [if_pos hc] at hch
        have hl1 : (out ++ [at_]).length = out.length + 1 := by simp
        have em : w.length / 16 + 1 - (out.length + 1) = m := by omega
        refine ⟨by unfold roomy; omega, rfl, back (out ++ [at_], n.next) (by simp only [hl1]; omega) (by simp only [hl1]) (by simp only [hl1]) ⟨?_, ?_, ?_⟩⟩
        · rw [List.nodup_append]
          refine ⟨hnd, by simp, fun a ha b hb' => ?_⟩
          simp only [List.mem_singleton] at hb'
          subst hb'
          rintro rfl
          exact hc.2 ha
        · intro x hx
          simp only [List.mem_append, List.mem_singleton] at hx
          rcases hx with hx | rfl
          · exact hrg x hx
          · exact ⟨hn0, hn1⟩
        · simp only [hl1, em]; exact hch
    · rw [if_pos h0] at hch
      rw [← hch]
      exact pE (vL rfl (by decide))
def dT.J : JCon
  | [.sl _ (.ints .i64 w)] => some (iG w, (iL (eF w) w).isNone, uL, true, .sref false 0 0 0 ((iL (eF w) w).getD []).length, [.row .own 0 (.ints .i64 ((iL (eF w) w).getD []))])
  | _ => none
abbrev dT.K : Con := Jcon dT.J
set_option maxHeartbeats 1000000 in
theorem dT.jspec : mX Tryz.prog 45 dT.J := by
  refine mX.of (bQ (F := [(79, dQ.C), (78, eC.C)]) (S := [(77, cG.K), (75, cP.K), (76, dE.K), (50, dD.K)]) (by simpa using ⟨dQ.spec, eC.spec⟩) (by simpa using ⟨cG.jspec.con, cP.jspec.con, dE.jspec.con, dD.jspec.con⟩) dT.loops) dT.at dT.nm dT.bd ?_ ?_
  · intro vs S pb pv b v news e
    unfold dT.J at e
    split at e
    rotate_left
    · cases e
    cases e
    rfl
  intro vs S pb pv b v news e hS
  unfold dT.J at e
  split at e
  rotate_left
  · cases e
  cases e
  rw [dT.eq]
  unfold dT.H
  simp (maxSteps := 4000000) only [go_sem, reduceEqDiff, Nat.reduceLT, reduceAdd, reduceSub, reduceLeDiff, reduceReplicate, reduceToNat, dQ.C, eC.C, cG.K, cG.J, cP.K, cP.J, dE.K, dE.J, dD.K, dD.J]
  rename_i _ w
  refine ⟨hS, fun hp => ?_, fun hp => ?_⟩
  · rw [Option.isNone_iff_eq_none] at hp
    have : iL (eF w) w = none := by unfold iL; rw [hp]
    rw [this]; exact nK
  obtain ⟨l, hl⟩ : ∃ l, kY (eF w) w = some l := by
    cases hr : kY (eF w) w with
    | none => rw [hr] at hp; cases hp
    | some x => exact ⟨x, rfl⟩
  have hlook : iL (eF w) w = if lF w l 0 [] = true then some l else none := by unfold iL; rw [hl]
  have bad : lF w l 0 [] = false → iL (eF w) w = none := fun h => by rw [hlook, h]; rfl
  have hll : l.length ≤ 65536 := by have := (oE hl).2.2.2.1; have := hS.1; omega
  simp only [hl, Option.getD_some, aA]
  unfold dT.L1
  refine oI (σ := bD × Nat) (fun s => .str s.1) (fun s => .int .i64 s.2) (fun s => [.row .own 0 (.ints .i64 l)]) (fun s => l.length - s.2) (fun s => s.2 ≤ l.length ∧ lF w (l.drop s.2) s.2 s.1 = lF w l 0 []) ([], 0) rfl rfl ⟨Nat.zero_le _, by simp⟩ ?_
  rintro I back ⟨last, k⟩ ⟨hk, hlv⟩
  simp only at hk hlv ⊢
  have hout : ¬ (k : Int) < (l.length : Int) → aDh (iL (eF w) w).isNone uL true (.sref false 0 0 0 ((iL (eF w) w).getD []).length) [.row .own 0 (.ints .i64 ((iL (eF w) w).getD []))] (.ret (.sref false 0 0 0 l.length)) [.row .own 0 (.ints .i64 l)] := by
    intro h
    obtain rfl : k = l.length := by omega
    rw [List.drop_length] at hlv
    have : iL (eF w) w = some l := by rw [hlook, ← hlv]; rfl
    rw [this]
    exact pE (vL rfl (by decide))
  have hlf : k < l.length → lF w l 0 [] = match mZ w k last (l.getD k 0) with
      | none => false
      | some low => lF w (l.drop (k + 1)) (k + 1) low := by
    intro h
    rw [← hlv, wD l k 0 h]; rfl
  have hpan : k < l.length → mZ w k last (l.getD k 0) = none → ∀ h', aDh (iL (eF w) w).isNone uL true (.sref false 0 0 0 ((iL (eF w) w).getD []).length) [.row .own 0 (.ints .i64 ((iL (eF w) w).getD []))] (.pan uL) h' := by
    intro h h2 h'
    rw [bad (by rw [hlf h, h2])]; exact nK
  have hk0 : decide ((k : Int) = 0) = decide (k = 0) := decide_eq_decide.2 (by omega)
  have hk1 : decide (0 < (k : Int)) = decide (0 < k) := decide_eq_decide.2 (by omega)
  cases hn : dF w (l.getD k 0) with
  | none =>
    simp only [cP.J, cG.J, dE.J, eC.C, hn, Option.isNone_none, go_sem, reduceEqDiff, Nat.reduceLT, reduceAdd, reduceSub, reduceLeDiff, reduceReplicate, reduceToNat]
    refine ⟨fun h => ?_, hout⟩
    rw [aA]
    exact ⟨by omega, by omega, hS, hpan (by omega) (by unfold mZ; rw [hn]) _⟩
  | some n =>
    obtain ⟨n1, n2, n3, n4, n5⟩ := n
    have hok := (lQ hn).1
    have hsl : n5.length ≤ 13 := hok.2.2.2.2.2.2.1
    have hrs : roomy n5.length := by unfold roomy; omega
    cases hw : lowO w ⟨n1, n2, n3, n4, n5⟩ with
    | none =>
      simp only [cP.J, cG.J, dE.J, eC.C, hn, hw, Option.isNone_none, Option.isNone_some, Option.getD_some, go_sem, reduceEqDiff, Nat.reduceLT, reduceAdd, reduceSub, reduceLeDiff, reduceReplicate, reduceToNat]
      refine ⟨fun h => ?_, hout⟩
      rw [aA]
      exact ⟨by omega, by omega, hS, hS, hpan (by omega) (by unfold mZ; simp only [hn, hw]) _⟩
    | some low =>
      simp only [cP.J, cG.J, dE.J, eC.C, hn, hw, hk0, hk1, Option.isNone_some, Option.getD_some, go_sem, reduceEqDiff, Nat.reduceLT, reduceAdd, reduceSub, reduceLeDiff, reduceReplicate, reduceToNat]
      refine ⟨fun h => ?_, hout⟩
      rw [aA]
      refine ⟨by omega, by omega, hS, hS, fun hc => hpan (by omega) (by unfold mZ; simp only [hn, hw, hc]; rfl) _, fun hc => ⟨hrs, ?_⟩⟩
      rw [aA]
      unfold dT.L2
      have hpl : (plain n5).length ≤ 13 := Nat.le_trans (wE n5) hsl
      refine oI (σ := bD × Nat) (fun s => .str s.1) (fun s => .int .i64 s.2) (fun s => [.row .own 0 (.ints .i64 l), .box (.agg [.int .i64 n1, .int .i64 n2, .int .i64 n3, .int .i64 n4, .sl false (.ints .i64 n5)])]) (fun s => (plain n5).length - s.2)
        (fun s => s.2 ≤ (plain n5).length ∧ lL w low ((plain n5).drop s.2) s.2 s.1 = lL w low (plain n5) 0 low) (low, 0) rfl rfl ⟨Nat.zero_le _, by simp⟩ ?_
      rintro I2 back2 ⟨last2, j⟩ ⟨hj, hsb⟩
      simp only at hj hsb ⊢
      have hlo : lL w low (plain n5) 0 low = false → mZ w k last (l.getD k 0) = none := fun hs => by
        unfold mZ; simp only [hn, hw, hc, hs]; rfl
      have hso : j < (plain n5).length → lL w low (plain n5) 0 low = match recO w ((plain n5).getD j 0) with
          | none => false
          | some x => decide (x.kind = 1) && !ltB x.key low && (decide (j = 0) || ltB last2 x.key) && lL w low ((plain n5).drop (j + 1)) (j + 1) (if ltB last2 x.key then x.key else last2) := by
        intro h
        rw [← hsb, wD _ j 0 h]; rfl
      have hj0 : decide ((j : Int) = 0) = decide (j = 0) := decide_eq_decide.2 (by omega)
      have hout2 : ¬ (j : Int) < ((plain n5).length : Int) → ∃ m, m < l.length - k ∧ I m [.str low, .int .i64 (IntKind.i64.wrap ((k : Int) + 1))] [.row .own 0 (.ints .i64 l)] := by
        intro hge
        obtain rfl : j = (plain n5).length := by omega
        rw [List.drop_length] at hsb
        have hs1 : lL w low (plain n5) 0 low = true := by rw [← hsb]; rfl
        have hlf' : mZ w k last (l.getD k 0) = some low := by unfold mZ; simp only [hn, hw, hc, hs1]; rfl
        refine back (low, k + 1) (by simp only; omega) (by simp only; rw [eG (by omega)]) rfl ⟨by simp only; omega, ?_⟩
        simp only
        rw [hlf (by omega), hlf']
      cases hx : recO w ((plain n5).getD j 0) with
      | none =>
        obtain ⟨e, he, hr⟩ := sU hx
        have hd : decide (e = 0) = false := decide_eq_false he
        simp only [cG.J, dQ.C, hr, kB, hd, aA, gq, reduceEq, reduceLT, reduceLE, implies_true, reduceCtorEq, if_true, if_false, go_sem, reduceEqDiff, Nat.reduceLT, reduceAdd, reduceSub, reduceLeDiff, reduceReplicate, reduceToNat]
        exact ⟨fun h2 => ⟨⟨by omega, by omega⟩, hS.roomy, hpan (by omega) (hlo (by rw [hso (by omega), hx])) _⟩, hout2⟩
      | some x =>
        obtain ⟨x1, x2, x3, x4⟩ := x
        simp only [cG.J, dQ.C, sT hx, hj0, go_sem, reduceEqDiff, Nat.reduceLT, reduceAdd, reduceSub, reduceLeDiff, reduceReplicate, reduceToNat]
        refine ⟨fun h2 => ⟨⟨by omega, by omega⟩, hS.roomy, ?_⟩, hout2⟩
        refine ⟨fun h3 => hpan (by omega) (hlo ?_) _, fun h3 => ?_⟩
        · rw [hso (by omega), hx]
          simp only [h3, Bool.false_and]
        · refine back2 (if ltB last2 x2 = true then x2 else last2, j + 1) (by simp only; omega) (by simp only; rw [eG (by omega)]) rfl ⟨by simp only; omega, ?_⟩
          simp only
          rw [hso (by omega), hx]
          simp only [h3, Bool.true_and]
theorem aBg {α : Type} {x : Option α} (h : x.isNone = false) : ∃ a, x = some a := by
  cases x with
  | none => cases h
  | some a => exact ⟨a, rfl⟩
def nE (w : List Int) : AV := match kY (eF w) w with
  | some l => .tup [.sl false (.ints .i64 l), .int .i64 0]
  | none => .tup [.sl false (.ints .i64 []), .int .i64 110]
def dP.C : aE
  | [.sl _ (.ints .i64 w)] => some (false, pD (iG w) (nE w))
  | _ => none
set_option maxHeartbeats 1000000 in
theorem dP.spec : bI Tryz.prog 24 dP.C := by
  refine bI.ofD (bQ (F := []) (S := [(50, dD.K)]) (by simp) (by simpa using dD.jspec.con) dP.loops) kE.tspec dP.at dP.nm dP.bd ?_
  intro vs b S v news e hS
  unfold dP.C at e
  split at e
  rotate_left
  · cases e
  cases e
  rw [dP.eq]
  unfold dP.H
  simp (maxSteps := 4000000) only [go_sem, reduceEqDiff, Nat.reduceLT, reduceAdd, reduceSub, reduceLeDiff, reduceReplicate, reduceToNat, dD.K, dD.J]
  rename_i _ w
  refine ⟨hS, fun hp => ⟨rfl, ?_⟩, fun hp => ?_⟩
  · rw [Option.isNone_iff_eq_none] at hp
    have : nE w = .tup [.sl false (.ints .i64 []), .int .i64 110] := by unfold nE; rw [hp]
    rw [this]; exact aG rfl rfl
  · obtain ⟨l, hl⟩ := aBg hp
    have : nE w = .tup [.sl false (.ints .i64 l), .int .i64 0] := by unfold nE; rw [hl]
    rw [this, hl]
    refine aG ?_ rfl
    simp only [Option.getD_some, go_sem, reduceEqDiff, Nat.reduceLT, reduceAdd, reduceSub, reduceLeDiff, reduceReplicate, reduceToNat]
def lowV (w : List Int) (b : Int) : AV := match (dF w b).bind (lowO w) with
  | some s => .tup [.str s, .int .i64 0]
  | none => .tup [.str [], .int .i64 110]
def dB.C : aE
  | [.sl _ (.ints .i64 w), .int .i64 b] => some (false, pD (iG w) (lowV w b))
  | _ => none
set_option maxHeartbeats 1000000 in
theorem dB.spec : bI Tryz.prog 47 dB.C := by
  refine bI.ofD (bQ (F := []) (S := [(75, cP.K), (76, dE.K)]) (by simp) (by simpa using ⟨cP.jspec.con, dE.jspec.con⟩) dB.loops) kE.tspec dB.at dB.nm dB.bd ?_
  intro vs b S v news e hS
  unfold dB.C at e
  split at e
  rotate_left
  · cases e
  cases e
  rw [dB.eq]
  unfold dB.H
  simp (maxSteps := 4000000) only [go_sem, reduceEqDiff, Nat.reduceLT, reduceAdd, reduceSub, reduceLeDiff, reduceReplicate, reduceToNat, cP.K, cP.J, dE.K, dE.J]
  rename_i _ w b
  have e0 : ∀ n : Nd, (⟨n.level, n.turn, n.next, n.low, n.slots⟩ : Nd) = n := fun n => rfl
  refine ⟨hS, fun hp => ⟨rfl, ?_⟩, fun hp => ⟨hS, ?_⟩⟩
  · rw [Option.isNone_iff_eq_none] at hp
    have : lowV w b = .tup [.str [], .int .i64 110] := by unfold lowV; rw [hp]; rfl
    rw [this]; exact aG rfl rfl
  · obtain ⟨n, hn⟩ := aBg hp
    simp only [hn, Option.getD_some, e0]
    refine ⟨fun hq => ⟨rfl, ?_⟩, fun hq => ?_⟩
    · rw [Option.isNone_iff_eq_none] at hq
      have : lowV w b = .tup [.str [], .int .i64 110] := by unfold lowV; rw [hn]; simp only [Option.bind_some, hq]
      rw [this]; exact aG rfl rfl
    · obtain ⟨s, hs⟩ := aBg hq
      have : lowV w b = .tup [.str s, .int .i64 0] := by unfold lowV; rw [hn]; simp only [Option.bind_some, hs]
      rw [this, hs]; exact aG rfl rfl
def rV (w : List Int) : Int := if (iL (eF w) w).isSome = true then 0 else 110
def fL.C : aE
  | [.sl _ (.ints .i64 w)] => some (false, pD (iG w) (.int .i64 (rV w)))
  | _ => none
set_option maxHeartbeats 1000000 in
theorem fL.spec : bI Tryz.prog 22 fL.C := by
  refine bI.ofD (bQ (F := []) (S := [(45, dT.K)]) (by simp) (by simpa using dT.jspec.con) fL.loops) kE.tspec fL.at fL.nm fL.bd ?_
  intro vs b S v news e hS
  unfold fL.C at e
  split at e
  rotate_left
  · cases e
  cases e
  rw [fL.eq]
  unfold fL.H
  simp (maxSteps := 4000000) only [go_sem, reduceEqDiff, Nat.reduceLT, reduceAdd, reduceSub, reduceLeDiff, reduceReplicate, reduceToNat, dT.K, dT.J]
  rename_i _ w
  refine ⟨hS, fun hp => ⟨rfl, ?_⟩, fun hp => ?_⟩
  · rw [Option.isNone_iff_eq_none] at hp
    have : rV w = 110 := by unfold rV; rw [hp]; rfl
    rw [this]; exact aG rfl rfl
  · obtain ⟨l, hl⟩ := aBg hp
    have : rV w = 0 := by unfold rV; rw [hl]; rfl
    rw [this]; exact aG rfl rfl
end Lam
namespace Lam
open Go Go.Proofs
def dW.loops : Nat → bW
 | 3 => ⟨[], [], [], [(3, none), (4, some [28, 32])], [], []⟩
 | 6 => ⟨[], [], [], [(5, none), (2, some [49, 51]), (2, none), (4, some [53, 57])], [], []⟩
 | 12 => ⟨[], [], [], [(3, none), (2, some [81, 83]), (2, none), (5, some [85, 90]), (2, none), (3, some [92, 95])], [], []⟩
 | _ => ⟨[], [], [], [], [], []⟩
def dW.H (c : Ctx) (t0 : AV) (t1 : AV) (t2 : AV) (t3 : AV) (h : List AObj) (K : AOut → List AObj → Prop) : Prop :=
 aM (fun (J1 : List AObj → Prop) =>
 aR false c (.fn (.func 46) [] []) [t0, t1] h (fun t22 h =>
 runD (aW t22 0) h fun t23 h =>
 runD (aW t22 1) h fun t24 h =>
 cQ bA h fun t10 h =>
 runH (aP bA h t10 t23) h fun _ h =>
 runD (binD cN .neq t24 (.int .i64 0)) h fun t27 h =>
 aM (fun (J2 : AV → AV → List AObj → Prop) =>
 aX t27 false
 (runD (aC bA t10 0) h fun t29 h =>
 runD (fitD aB (aD h t29)) h fun t30 h =>
 runD (binD aB .lss t30 t3) h fun t32 h =>
 J2 (.bool false) t32 h)
 (J2 (.bool true) .und h))
 (fun t28 t32 h => runD (bO t28 (.bool true) t32) h fun t33 h =>
 aU t33
 (J1 h)
 (runD (aC bA t10 2) h fun t34 h =>
 runD (fitD aB (aD h t34)) h fun t35 h =>
 runD (binD aB .neq t35 (.int .i64 0)) h fun t36 h =>
 aM (fun (J3 : List AObj → Prop) =>
 aU t36
 (runD (aC bA t10 2) h fun t39 h =>
 runD (fitD aB (aD h t39)) h fun t40 h =>
 aR false c (.fn (.func 81) [] []) [t0, t40] h (fun t41 h =>
 runD (aW t41 0) h fun t42 h =>
 runD (aW t41 1) h fun t43 h =>
 runD (aW t41 2) h fun t44 h =>
 runD (aC bA t10 2) h fun t45 h =>
 runD (fitD aB (aD h t45)) h fun t46 h =>
 runD (binD aB .eql t46 t1) h fun t48 h =>
 aM (fun (J4 : AV → AV → List AObj → Prop) =>
 aX t48 false
 (runD (unD .not t44) h fun t51 h =>
 J4 (.bool false) t51 h)
 (J4 (.bool true) .und h))
 (fun t49 t51 h => runD (bO t49 (.bool true) t51) h fun t52 h =>
 aM (fun (J5 : AV → AV → List AObj → Prop) =>
 aX t52 false
 (runD (aC bA t10 0) h fun t55 h =>
 runD (fitD aB (aD h t55)) h fun t56 h =>
 runD (binD aB .neq t42 t56) h fun t57 h =>
 J5 (.bool false) t57 h)
 (J5 (.bool true) .und h))
 (fun t53 t57 h => runD (bO t53 (.bool true) t57) h fun t58 h =>
 aU t58
 (J1 h)
 (runD (binD bT .leq t43 t2) h fun t61 h =>
 aU t61
 (runD (aC bA t10 2) h fun t62 h =>
 runD (fitD aB (aD h t62)) h fun t63 h =>
 K (.ret (.tup [t63, (.int .i64 0)])) h)
 (J3 h)))))
 (fun v h => K (.pan v) h))
 (J3 h))
 (fun h => runD (aC bA t10 0) h fun t64 h =>
 runD (fitD aB (aD h t64)) h fun t65 h =>
 runD (binD aB .gtr t65 t3) h fun t67 h =>
 aM (fun (J6 : AV → List AObj → Prop) =>
 aU t67
 (runD (fitD bA (aD h t10)) h fun t69 h =>
 aR false c (.fn (.func 82) [] []) [t0, t69, t2] h (fun t71 h =>
 aR false c (.fn (.func 81) [] []) [t0, t71] h (fun t75 h =>
 runD (aW t75 0) h fun t76 h =>
 runD (aW t75 1) h fun t77 h =>
 runD (aW t75 2) h fun t78 h =>
 runD (binD aB .eql t71 (.int .i64 0)) h fun t80 h =>
 aM (fun (J7 : AV → AV → List AObj → Prop) =>
 aX t80 false
 (runD (unD .not t78) h fun t83 h =>
 J7 (.bool false) t83 h)
 (J7 (.bool true) .und h))
 (fun t81 t83 h => runD (bO t81 (.bool true) t83) h fun t84 h =>
 aM (fun (J8 : AV → AV → List AObj → Prop) =>
 aX t84 false
 (runD (aC bA t10 0) h fun t87 h =>
 runD (fitD aB (aD h t87)) h fun t88 h =>
 runD (binD aB .sub t88 (.int .i64 1)) h fun t89 h =>
 runD (binD aB .neq t76 t89) h fun t90 h =>
 J8 (.bool false) t90 h)
 (J8 (.bool true) .und h))
 (fun t85 t90 h => runD (bO t85 (.bool true) t90) h fun t91 h =>
 aM (fun (J9 : AV → AV → List AObj → Prop) =>
 aX t91 false
 (runD (binD bT .gtr t77 t2) h fun t95 h =>
 J9 (.bool false) t95 h)
 (J9 (.bool true) .und h))
 (fun t92 t95 h => runD (bO t92 (.bool true) t95) h fun t96 h =>
 aU t96
 (J1 h)
 (J6 t71 h)))))
 (fun v h => K (.pan v) h))
 (fun v h => K (.pan v) h))
 (J6 t1 h))
 (fun t12 h => K (.ret (.tup [t12, (.int .i64 0)])) h)))))
 (fun v h => K (.pan v) h))
 (fun h => K (.ret (.tup [(.int .i64 0), (.int .i64 90)])) h)
def dM.loops : Nat → bW
 | _ => ⟨[], [], [], [], [], []⟩
def dM.H (c : Ctx) (t0 : AV) (t1 : AV) (h : List AObj) (K : AOut → List AObj → Prop) : Prop :=
 aR false c (.fn (.func 46) [] []) [t0, t1] h (fun t12 h =>
 runD (aW t12 0) h fun t13 h =>
 runD (aW t12 1) h fun t14 h =>
 cQ bA h fun t7 h =>
 runH (aP bA h t7 t13) h fun _ h =>
 runD (binD cN .neq t14 (.int .i64 0)) h fun t16 h =>
 aU t16
 (K (.ret (.tup [(.int .i64 0), (.str []), (.bool false)])) h)
 (aR false c (.fn (.func 47) [] []) [t0, t1] h (fun t20 h =>
 runD (aW t20 0) h fun t21 h =>
 runD (aW t20 1) h fun t22 h =>
 runD (aC bA t7 0) h fun t23 h =>
 runD (fitD aB (aD h t23)) h fun t24 h =>
 runD (binD cN .eql t22 (.int .i64 0)) h fun t26 h =>
 K (.ret (.tup [t24, t21, t26])) h)
 (fun v h => K (.pan v) h)))
 (fun v h => K (.pan v) h)
def eE.loops : Nat → bW
 | 2 => ⟨[6, 14], [false, false], [0, 2, 12, 13], [], [], []⟩
 | 5 => ⟨[], [], [], [(3, none), (3, some [26, 29]), (2, none), (4, some [31, 35])], [], []⟩
 | _ => ⟨[], [], [], [], [], []⟩
def eE.L1 (c : Ctx) (J1 : AV → List AObj → Prop) (K : AOut → List AObj → Prop) (lv : List AV) (h0 : List AObj) (n0 : Nat) (c0 : AV) (c2 : AV) (c12 : AV) (c13 : AV) : Prop :=
 ∃ I : Nat → List AV → List AObj → Prop, (∃ n, I n lv h0) ∧ ∀ n h, ∀ t6, ∀ t14, I n [t6, t14] h →
 runD (binD aB .lss t14 c13) h fun t15 h =>
 aU t15
 (runD (aH aK h c12 t14) h fun t16 h =>
 runD (fitD aB (aD h t16)) h fun t17 h =>
 aR false c (.fn (.func 79) [] []) [c0, t17] h (fun t21 h =>
 runD (aW t21 0) h fun t22 h =>
 runD (aW t21 1) h fun t23 h =>
 cQ aI h fun t9 h =>
 runH (aP aI h t9 t22) h fun _ h =>
 runD (binD cN .eql t23 (.int .i64 0)) h fun t25 h =>
 aM (fun (J2 : AV → AV → List AObj → Prop) =>
 aX t25 true
 (runD (aC aI t9 0) h fun t27 h =>
 runD (fitD aB (aD h t27)) h fun t28 h =>
 runD (binD aB .eql t28 (.int .i64 2)) h fun t29 h =>
 J2 (.bool true) t29 h)
 (J2 (.bool false) .und h))
 (fun t26 t29 h => runD (bO t26 t29 (.bool false)) h fun t30 h =>
 aM (fun (J3 : AV → AV → List AObj → Prop) =>
 aX t30 true
 (runD (aC aI t9 1) h fun t32 h =>
 runD (fitD bT (aD h t32)) h fun t33 h =>
 runD (binD bT .leq t33 c2) h fun t35 h =>
 J3 (.bool true) t35 h)
 (J3 (.bool false) .und h))
 (fun t31 t35 h => runD (bO t31 t35 (.bool false)) h fun t36 h =>
 aM (fun (J4 : AV → List AObj → Prop) =>
 aU t36
 (runD (aC aI t9 3) h fun t37 h =>
 runD (fitD aB (aD h t37)) h fun t38 h =>
 J4 t38 h)
 (J4 t6 h))
 (fun t6 h => runD (binD aB .add t14 (.int .i64 1)) h fun t39 h =>
 (∃ m, m < n ∧ I m (AV.norms n0 h [t6, t39]) (cH n0 h)) ∧ AV.norms n0 h [c0, c2, c12, c13] = [c0, c2, c12, c13]))))
 (fun v h => K (.pan v) h))
 (J1 t6 h)
def eE.H (c : Ctx) (t0 : AV) (t1 : AV) (t2 : AV) (h : List AObj) (K : AOut → List AObj → Prop) : Prop :=
 boxW bA t1 h fun t4 h =>
 runD (aC bA t4 4) h fun t11 h =>
 runD (fitD aK (aD h t11)) h fun t12 h =>
 runD (lenD aK h t12) h fun t13 h =>
 aM (fun (J1 : AV → List AObj → Prop) =>
 dC [false, false] [(.int .i64 0), (.int .i64 0)] h fun lv h => eE.L1 c J1 K (AV.norms h.length h lv) (cH h.length h) h.length (AV.norm h.length h t0) (AV.norm h.length h t2) (AV.norm h.length h t12) (AV.norm h.length h t13))
 (fun t6 h => K (.ret t6) h)
theorem dW.eq (F : List (FuncId × aE)) (S : List (FuncId × Con)) (t0 t1 t2 t3 : AV) (h : List AObj) (K : AOut → List AObj → Prop) : funW (ctx F S dW.loops) Tryz.f49 [t0, t1, t2, t3] h K = dW.H (ctx F S dW.loops) t0 t1 t2 t3 h K := by kernel_rfl
theorem dM.eq (F : List (FuncId × aE)) (S : List (FuncId × Con)) (t0 t1 : AV) (h : List AObj) (K : AOut → List AObj → Prop) : funW (ctx F S dM.loops) Tryz.f81 [t0, t1] h K = dM.H (ctx F S dM.loops) t0 t1 h K := by kernel_rfl
theorem eE.eq (F : List (FuncId × aE)) (S : List (FuncId × Con)) (t0 t1 t2 : AV) (h : List AObj) (K : AOut → List AObj → Prop) : funW (ctx F S eE.loops) Tryz.f82 [t0, t1, t2] h K = eE.H (ctx F S eE.loops) t0 t1 t2 h K := by kernel_rfl
theorem dW.at : Tryz.prog.funcs[49]? = some Tryz.f49 := by kernel_rfl
theorem dW.nm : (Tryz.f49.name == "runtime.NumGoroutine") = false := by kernel_rfl
theorem dW.bd : Tryz.f49.body.isNone = false := by kernel_rfl
theorem dM.at : Tryz.prog.funcs[81]? = some Tryz.f81 := by kernel_rfl
theorem dM.nm : (Tryz.f81.name == "runtime.NumGoroutine") = false := by kernel_rfl
theorem dM.bd : Tryz.f81.body.isNone = false := by kernel_rfl
theorem eE.at : Tryz.prog.funcs[82]? = some Tryz.f82 := by kernel_rfl
theorem eE.nm : (Tryz.f82.name == "runtime.NumGoroutine") = false := by kernel_rfl
theorem eE.bd : Tryz.f82.body.isNone = false := by kernel_rfl
end Lam
namespace Lam
open Go Go.Proofs
def aDt (w : List Int) (b : Int) : AV := match dF w b with
  | none => .tup [.int .i64 0, .str [], .bool false]
  | some n => match lowO w n with
    | none => .tup [.int .i64 n.level, .str [], .bool false]
    | some l => .tup [.int .i64 n.level, .str l, .bool true]
def dM.C : aE
  | [.sl _ (.ints .i64 w), .int .i64 b] => some (false, pD (iG w) (aDt w b))
  | _ => none
theorem dM.spec : bI Tryz.prog 81 dM.C := by
  refine bI.of (bQ (F := [(46, cM.C), (47, dB.C)]) (S := []) (by simpa using ⟨cM.spec, dB.spec⟩) (by simp) dM.loops) dM.at dM.nm dM.bd ?_
  intro vs b S v news e hS
  unfold dM.C at e
  split at e
  rotate_left
  · cases e
  cases e
  rw [dM.eq]
  unfold dM.H
  simp (maxSteps := 4000000) only [go_sem, reduceEqDiff, Nat.reduceLT, reduceAdd, reduceSub, reduceLeDiff, reduceReplicate, reduceToNat, cM.C, dB.C]
  rename_i w b
  have hr := iG.roomy hS
  unfold aDt
  cases hn : dF w b with
  | none =>
    obtain ⟨e, he, h⟩ := nT hn
    simp only [h, jH, he, decide_false, aA, aA, gq, reduceEq, reduceLT, reduceLE, implies_true, reduceCtorEq, if_true, if_false, go_sem, reduceEqDiff, Nat.reduceLT, reduceAdd, reduceSub, reduceLeDiff, reduceReplicate, reduceToNat]
    exact ⟨hr, aG rfl rfl⟩
  | some n =>
    obtain ⟨n1, n2, n3, n4, n5⟩ := n
    cases hl : lowO w ⟨n1, n2, n3, n4, n5⟩ with
    | none =>
      have hlv : lowV w b = .tup [.str [], .int .i64 110] := by unfold lowV; rw [hn]; simp only [Option.bind_some, hl]
      simp only [iM hn, hlv, hl, decide_false, aA, aA, gq, reduceEq, reduceLT, reduceLE, implies_true, reduceCtorEq, if_true, if_false, go_sem, reduceEqDiff, Nat.reduceLT, reduceAdd, reduceSub, reduceLeDiff, reduceReplicate, reduceToNat]
      exact ⟨hr, hS, aG rfl rfl⟩
    | some l =>
      have hlv : lowV w b = .tup [.str l, .int .i64 0] := by unfold lowV; rw [hn]; simp only [Option.bind_some, hl]
      simp only [iM hn, hlv, hl, decide_true, aA, aA, gq, reduceEq, reduceLT, reduceLE, implies_true, reduceCtorEq, if_true, if_false, go_sem, reduceEqDiff, Nat.reduceLT, reduceAdd, reduceSub, reduceLeDiff, reduceReplicate, reduceToNat]
      exact ⟨hr, hS, aG rfl rfl⟩
def eE.C : aE
  | [.sl _ (.ints .i64 w), .agg [.int .i64 a, .int .i64 b, .int .i64 c, .int .i64 d, .sl _ (.ints .i64 l)], .str key] => some (false, pD (roomy w.length ∧ l.length ≤ 1000) (.int .i64 (aAE w key ⟨a, b, c, d, l⟩)))
  | _ => none
theorem eE.spec : bI Tryz.prog 82 eE.C := by
  refine bI.of (bQ (F := [(79, dQ.C)]) (S := []) (by simpa using dQ.spec) (by simp) eE.loops) eE.at eE.nm eE.bd ?_
  intro vs b S v news e hS
  unfold eE.C at e
  split at e
  rotate_left
  · cases e
  cases e
  rw [eE.eq]
  unfold eE.H
  simp (maxSteps := 4000000) only [go_sem, reduceEqDiff, Nat.reduceLT, reduceAdd, reduceSub, reduceLeDiff, reduceReplicate, reduceToNat, dQ.C]
  rename_i w a b c d _ l key
  obtain ⟨hw, hl⟩ := hS
  rw [aA]
  unfold eE.L1
  refine oI (σ := Nat) (fun k => .int .i64 ((l.take k).foldl (xP w key) 0)) (fun k => .int .i64 k) (fun k => [.box (.agg [.int .i64 a, .int .i64 b, .int .i64 c, .int .i64 d, .sl false (.ints .i64 l)])]) (fun k => l.length - k) (fun k => k ≤ l.length) 0 rfl rfl (Nat.zero_le _) ?_
  intro I back k hk
  by_cases hlt : k < l.length
  · have hb := @back (l.length - k) [.int .i64 (xP w key ((l.take k).foldl (xP w key) 0) (l.getD k 0)), .int .i64 ((k + 1 : Nat) : Int)] [.box (.agg [.int .i64 a, .int .i64 b, .int .i64 c, .int .i64 d, .sl false (.ints .i64 l)])] (k + 1) (by omega) (by rw [gP l k 0 hlt, List.foldl_append]; rfl) rfl (by omega)
    clear back
    generalize (l.take k).foldl (xP w key) 0 = out at *
    have d1 : decide ((k : Int) < (l.length : Int)) = true := decide_eq_true (by omega)
    unfold xP at hb
    cases hx : recO w (l.getD k 0) with
    | none =>
      obtain ⟨e, he, hr⟩ := sU hx
      rw [hx] at hb
      simp only [dQ.C, hr, kB, he, d1, decide_false, aA, eG (show k < 4611686018427387904 by omega), aA, gq, reduceEq, reduceLT, reduceLE, implies_true, reduceCtorEq, if_true, if_false, go_sem, reduceEqDiff, Nat.reduceLT, reduceAdd, reduceSub, reduceLeDiff, reduceReplicate, reduceToNat]
      exact ⟨⟨by omega, by omega⟩, hw, hb⟩
    | some y =>
      obtain ⟨y1, y2, y3, y4⟩ := y
      rw [hx] at hb
      simp only at hb
      simp only [dQ.C, sT hx, d1, decide_true, aA, eG (show k < 4611686018427387904 by omega), aA, gq, reduceEq, reduceLT, reduceLE, implies_true, reduceCtorEq, if_true, if_false, go_sem, reduceEqDiff, Nat.reduceLT, reduceAdd, reduceSub, reduceLeDiff, reduceReplicate, reduceToNat]
      refine ⟨⟨by omega, by omega⟩, hw, ?_⟩
      by_cases hy : y1 = 2
      · simp only [hy, decide_true, aA, gq, reduceEq, reduceLT, reduceLE, implies_true, reduceCtorEq, if_true, if_false, go_sem, reduceEqDiff, Nat.reduceLT, reduceAdd, reduceSub, reduceLeDiff, reduceReplicate, reduceToNat]
        refine ⟨fun h => ?_, fun h => ?_⟩
        · rw [if_pos ⟨hy, h⟩] at hb; exact hb
        · rw [if_neg (fun h' => by rw [h] at h'; cases h'.2)] at hb; exact hb
      · rw [if_neg (fun h' => hy h'.1)] at hb
        simp only [hy, decide_false, aA, gq, reduceEq, reduceLT, reduceLE, implies_true, reduceCtorEq, if_true, if_false, go_sem, reduceEqDiff, Nat.reduceLT, reduceAdd, reduceSub, reduceLeDiff, reduceReplicate, reduceToNat]
        exact hb
  · obtain rfl : k = l.length := by omega
    have d1 : decide ((l.length : Int) < (l.length : Int)) = false := decide_eq_false (by omega)
    clear back
    rw [List.take_length]
    simp only [d1, aA, aA, gq, reduceEq, reduceLT, reduceLE, implies_true, reduceCtorEq, if_true, if_false, go_sem, reduceEqDiff, Nat.reduceLT, reduceAdd, reduceSub, reduceLeDiff, reduceReplicate, reduceToNat]
    exact aG rfl rfl
def mQ (w : List Int) (b : Int) (key : bD) (level : Int) : AV := match lG w b key level with
  | none => .tup [.int .i64 0, .int .i64 90]
  | some t => .tup [.int .i64 t, .int .i64 0]
theorem aDu (w : List Int) (b : Int) : (∃ lv lo, aBc w b = none ∧ aDt w b = .tup [.int .i64 lv, .str lo, .bool false]) ∨ ∃ lv lo, aBc w b = some (lv, lo) ∧ aDt w b = .tup [.int .i64 lv, .str lo, .bool true] := by
  unfold aBc aDt
  cases dF w b with
  | none => exact .inl ⟨_, _, rfl, rfl⟩
  | some n =>
    simp only
    cases lowO w n with
    | none => exact .inl ⟨_, _, rfl, rfl⟩
    | some l => exact .inr ⟨_, _, rfl, rfl⟩
def dW.C : aE
  | [.sl _ (.ints .i64 w), .int .i64 b, .str key, .int .i64 level] => some (false, pD (iG w) (mQ w b key level))
  | _ => none
theorem dW.spec : bI Tryz.prog 49 dW.C := by
  refine bI.of (bQ (F := [(46, cM.C), (81, dM.C), (82, eE.C)]) (S := []) (by simpa using ⟨cM.spec, dM.spec, eE.spec⟩) (by simp) dW.loops) dW.at dW.nm dW.bd ?_
  intro vs b S v news e hS
  unfold dW.C at e
  split at e
  rotate_left
  · cases e
  cases e
  rw [dW.eq]
  unfold dW.H
  simp (maxSteps := 4000000) only [go_sem, reduceEqDiff, Nat.reduceLT, reduceAdd, reduceSub, reduceLeDiff, reduceReplicate, reduceToNat, cM.C, dM.C, eE.C]
  rename_i w b key level
  have hr := iG.roomy hS
  have hno : ∀ ao h, lG w b key level = none → ao = .ret (.tup [.int .i64 0, .int .i64 90]) → Post false (mQ w b key level) [] ao h := fun ao h e1 e2 => by
    rw [e2]; unfold mQ; rw [e1]; exact aG rfl rfl
  have hyes : ∀ ao h t, lG w b key level = some t → ao = .ret (.tup [.int .i64 t, .int .i64 0]) → Post false (mQ w b key level) [] ao h := fun ao h t e1 e2 => by
    rw [e2]; unfold mQ; rw [e1]; exact aG rfl rfl
  rw [aA]
  cases hn : dF w b with
  | none =>
    obtain ⟨e, he, h⟩ := nT hn
    simp only [h, jH, he, decide_false, aA, aA, gq, reduceEq, reduceLT, reduceLE, implies_true, reduceCtorEq, if_true, if_false, go_sem, reduceEqDiff, Nat.reduceLT, reduceAdd, reduceSub, reduceLeDiff, reduceReplicate, reduceToNat]
    exact ⟨hr, hno _ _ (by unfold lG; rw [hn]) rfl⟩
  | some n =>
    have hok := (lQ hn).1
    obtain ⟨n1, n2, n3, n4, n5⟩ := n
    have h13 : n5.length ≤ 13 := hok.2.2.2.2.2.2.1
    have hlv : 0 ≤ n1 ∧ n1 ≤ 9 := ⟨hok.1, hok.2.1⟩
    simp only [iM hn, decide_true, gq, reduceEq, reduceLT, reduceLE, implies_true, reduceCtorEq, if_true, if_false, go_sem, reduceEqDiff, Nat.reduceLT, reduceAdd, reduceSub, reduceLeDiff, reduceReplicate, reduceToNat]
    refine ⟨hr, ?_⟩
    by_cases hlt : n1 < level
    · have hd : lG w b key level = none := by unfold lG; rw [hn]; exact if_pos hlt
      simp only [hlt, decide_true, aA, aA, gq, reduceEq, reduceLT, reduceLE, implies_true, reduceCtorEq, if_true, if_false, go_sem, reduceEqDiff, Nat.reduceLT, reduceAdd, reduceSub, reduceLeDiff, reduceReplicate, reduceToNat]
      exact hno _ _ hd rfl
    have hd : lG w b key level = if n3 = 0 then aBd w b key level ⟨n1, n2, n3, n4, n5⟩ else match aBc w n3 with
      | none => none
      | some (lv, lo) => if n3 = b ∨ lv ≠ n1 then none else if ltB key lo = false then some n3 else aBd w b key level ⟨n1, n2, n3, n4, n5⟩ := by
      unfold lG; rw [hn]; exact if_neg hlt
    rw [aA]
    simp only [hlt, decide_false, gq, reduceEq, reduceLT, reduceLE, implies_true, reduceCtorEq, if_true, if_false, go_sem, reduceEqDiff, Nat.reduceLT, reduceAdd, reduceSub, reduceLeDiff, reduceReplicate, reduceToNat]
    refine nH fun k3 hk3 => ?_
    have rest3 : lG w b key level = aBd w b key level ⟨n1, n2, n3, n4, n5⟩ → k3 [.box (.agg [.int .i64 n1, .int .i64 n2, .int .i64 n3, .int .i64 n4, .sl false (.ints .i64 n5)])] := fun hd2 => by
      unfold aBd at hd2
      rw [hk3]
      simp only [eE.C, gq, reduceEq, reduceLT, reduceLE, implies_true, reduceCtorEq, if_true, if_false, go_sem, reduceEqDiff, Nat.reduceLT, reduceAdd, reduceSub, reduceLeDiff, reduceReplicate, reduceToNat]
      rw [aA]
      refine ⟨fun hl => ⟨⟨hr, by omega⟩, ?_⟩, fun hl => hyes _ _ _ (by rw [hd2, if_neg hl]) rfl⟩
      rw [if_pos hl] at hd2
      unfold aKD at hd2
      have e1 : IntKind.i64.wrap (n1 - 1) = n1 - 1 := w64 (by omega) (by omega)
      obtain ⟨ch, hch⟩ : ∃ ch, aAE w key ⟨n1, n2, n3, n4, n5⟩ = ch := ⟨_, rfl⟩
      rw [hch] at hd2
      rcases aDu w ch with ⟨lv, lo, hf, hv⟩ | ⟨lv, lo, hf, hv⟩
      · rw [hf] at hd2
        by_cases h0 : ch = 0
        · simp only [hch, dM.C, hv, h0, decide_true, aA, aA, gq, reduceEq, reduceLT, reduceLE, implies_true, reduceCtorEq, if_true, if_false, go_sem, reduceEqDiff, Nat.reduceLT, reduceAdd, reduceSub, reduceLeDiff, reduceReplicate, reduceToNat]
          rw [h0] at hv
          simp only [hv, aA, aA, gq, reduceEq, reduceLT, reduceLE, implies_true, reduceCtorEq, if_true, if_false, go_sem, reduceEqDiff, Nat.reduceLT, reduceAdd, reduceSub, reduceLeDiff, reduceReplicate, reduceToNat]
          exact ⟨hS, hno _ _ hd2 rfl⟩
        · simp only [hch, dM.C, hv, h0, decide_false, aA, aA, gq, reduceEq, reduceLT, reduceLE, implies_true, reduceCtorEq, if_true, if_false, go_sem, reduceEqDiff, Nat.reduceLT, reduceAdd, reduceSub, reduceLeDiff, reduceReplicate, reduceToNat]
          exact ⟨hS, hno _ _ hd2 rfl⟩
      · rw [hf] at hd2
        simp only at hd2
        by_cases h0 : ch = 0
        · rw [if_pos (.inl h0)] at hd2
          rw [h0] at hv
          simp only [hch, dM.C, h0, decide_true, aA, aA, gq, reduceEq, reduceLT, reduceLE, implies_true, reduceCtorEq, if_true, if_false, go_sem, reduceEqDiff, Nat.reduceLT, reduceAdd, reduceSub, reduceLeDiff, reduceReplicate, reduceToNat]
          simp only [hv, aA, aA, gq, reduceEq, reduceLT, reduceLE, implies_true, reduceCtorEq, if_true, if_false, go_sem, reduceEqDiff, Nat.reduceLT, reduceAdd, reduceSub, reduceLeDiff, reduceReplicate, reduceToNat]
          exact ⟨hS, hno _ _ hd2 rfl⟩
        · by_cases h1 : lv = n1 - 1
          · cases h2 : ltB key lo with
            | true =>
              rw [if_pos (.inr (.inr h2))] at hd2
              simp only [hch, dM.C, hv, h0, e1, h1, h2, decide_false, decide_true, aA, aA, gq, reduceEq, reduceLT, reduceLE, implies_true, reduceCtorEq, if_true, if_false, go_sem, reduceEqDiff, Nat.reduceLT, reduceAdd, reduceSub, reduceLeDiff, reduceReplicate, reduceToNat]
              exact ⟨hS, hno _ _ hd2 rfl⟩
            | false =>
              rw [if_neg (by
                rintro (h | h | h)
                · exact h0 h
                · exact h h1
                · rw [h2] at h; cases h)] at hd2
              simp only [hch, dM.C, hv, h0, e1, h1, h2, decide_false, decide_true, aA, aA, gq, reduceEq, reduceLT, reduceLE, implies_true, reduceCtorEq, if_true, if_false, go_sem, reduceEqDiff, Nat.reduceLT, reduceAdd, reduceSub, reduceLeDiff, reduceReplicate, reduceToNat]
              exact ⟨hS, hyes _ _ _ hd2 rfl⟩
          · rw [if_pos (.inr (.inl h1))] at hd2
            simp only [hch, dM.C, hv, h0, e1, h1, decide_false, decide_true, aA, aA, gq, reduceEq, reduceLT, reduceLE, implies_true, reduceCtorEq, if_true, if_false, go_sem, reduceEqDiff, Nat.reduceLT, reduceAdd, reduceSub, reduceLeDiff, reduceReplicate, reduceToNat]
            exact ⟨hS, hno _ _ hd2 rfl⟩
    clear hk3
    rw [aA]
    refine ⟨fun hn3 => ?_, fun hn3 => rest3 (by rw [hd, if_pos hn3])⟩
    rw [if_neg hn3] at hd
    rcases aDu w n3 with ⟨lv, lo, hf, hv⟩ | ⟨lv, lo, hf, hv⟩
    · rw [hf] at hd
      by_cases h0 : n3 = b
      · simp only [dM.C, hv, h0, decide_true, aA, aA, gq, reduceEq, reduceLT, reduceLE, implies_true, reduceCtorEq, if_true, if_false, go_sem, reduceEqDiff, Nat.reduceLT, reduceAdd, reduceSub, reduceLeDiff, reduceReplicate, reduceToNat]
        rw [h0] at hv
        simp only [hv, aA, aA, gq, reduceEq, reduceLT, reduceLE, implies_true, reduceCtorEq, if_true, if_false, go_sem, reduceEqDiff, Nat.reduceLT, reduceAdd, reduceSub, reduceLeDiff, reduceReplicate, reduceToNat]
        exact ⟨hS, hno _ _ hd rfl⟩
      · simp only [dM.C, hv, h0, decide_false, aA, aA, gq, reduceEq, reduceLT, reduceLE, implies_true, reduceCtorEq, if_true, if_false, go_sem, reduceEqDiff, Nat.reduceLT, reduceAdd, reduceSub, reduceLeDiff, reduceReplicate, reduceToNat]
        exact ⟨hS, hno _ _ hd rfl⟩
    · rw [hf] at hd
      simp only at hd
      by_cases h0 : n3 = b
      · rw [if_pos (.inl h0)] at hd
        rw [h0] at hv
        simp only [dM.C, h0, decide_true, aA, aA, gq, reduceEq, reduceLT, reduceLE, implies_true, reduceCtorEq, if_true, if_false, go_sem, reduceEqDiff, Nat.reduceLT, reduceAdd, reduceSub, reduceLeDiff, reduceReplicate, reduceToNat]
        simp only [hv, aA, aA, gq, reduceEq, reduceLT, reduceLE, implies_true, reduceCtorEq, if_true, if_false, go_sem, reduceEqDiff, Nat.reduceLT, reduceAdd, reduceSub, reduceLeDiff, reduceReplicate, reduceToNat]
        exact ⟨hS, hno _ _ hd rfl⟩
      · by_cases h1 : lv = n1
        · rw [if_neg (by
            rintro (h | h)
            · exact h0 h
            · exact h h1)] at hd
          cases h2 : ltB key lo with
          | true =>
            rw [h2] at hd
            simp only [dM.C, hv, h0, h1, h2, decide_false, decide_true, aA, aA, gq, reduceEq, reduceLT, reduceLE, implies_true, reduceCtorEq, if_true, if_false, go_sem, reduceEqDiff, Nat.reduceLT, reduceAdd, reduceSub, reduceLeDiff, reduceReplicate, reduceToNat]
            exact ⟨hS, rest3 (by rw [hd]; rfl)⟩
          | false =>
            rw [if_pos h2] at hd
            simp only [dM.C, hv, h0, h1, h2, decide_false, decide_true, aA, aA, gq, reduceEq, reduceLT, reduceLE, implies_true, reduceCtorEq, if_true, if_false, go_sem, reduceEqDiff, Nat.reduceLT, reduceAdd, reduceSub, reduceLeDiff, reduceReplicate, reduceToNat]
            exact ⟨hS, hyes _ _ _ hd rfl⟩
        · rw [if_pos (.inr h1)] at hd
          simp only [dM.C, hv, h0, h1, decide_false, decide_true, aA, aA, gq, reduceEq, reduceLT, reduceLE, implies_true, reduceCtorEq, if_true, if_false, go_sem, reduceEqDiff, Nat.reduceLT, reduceAdd, reduceSub, reduceLeDiff, reduceReplicate, reduceToNat]
          exact ⟨hS, hno _ _ hd rfl⟩
end Lam
namespace Lam
open Go
def qJ (a lo hi : Nat) (l : List RecT) : Prop := ∀ i c, lo ≤ i → (c = 2 * i + 1 ∨ c = 2 * i + 2) → c < hi → leB (kyL l (a + c)) (kyL l (a + i))
def uM (a lo r hi : Nat) (l : List RecT) : Prop :=
  (∀ i c, lo ≤ i → i ≠ r → (c = 2 * i + 1 ∨ c = 2 * i + 2) → c < hi → leB (kyL l (a + c)) (kyL l (a + i))) ∧
  ∀ i c, lo ≤ i → (r = 2 * i + 1 ∨ r = 2 * i + 2) → (c = 2 * r + 1 ∨ c = 2 * r + 2) → c < hi → leB (kyL l (a + c)) (kyL l (a + i))
theorem uM.begin {a lo hi : Nat} {l : List RecT} (h : qJ a (lo + 1) hi l) : uM a lo lo hi l :=
  ⟨fun i c h1 h2 h3 h4 => h i c (by omega) h3 h4, fun i c h1 h2 h3 h4 => by omega⟩
theorem uM.done {a lo r hi : Nat} {l : List RecT} (h : uM a lo r hi l) (hc : ∀ c, (c = 2 * r + 1 ∨ c = 2 * r + 2) → c < hi → leB (kyL l (a + c)) (kyL l (a + r))) : qJ a lo hi l := fun i c h1 h2 h3 => by
  by_cases e : i = r
  · subst e; exact hc c h2 h3
  · exact h.1 i c h1 e h2 h3
theorem uM.step {a lo r hi c : Nat} {l : List RecT} (h : uM a lo r hi l) (hr : lo ≤ r) (hc : c = 2 * r + 1 ∨ c = 2 * r + 2) (hch : c < hi) (hl : a + hi ≤ l.length) (hlt : leB (kyL l (a + r)) (kyL l (a + c))) (ho : ∀ d, (d = 2 * r + 1 ∨ d = 2 * r + 2) → d < hi → leB (kyL l (a + d)) (kyL l (a + c))) : uM a lo c hi (gR l (a + r) (a + c)) := by
  obtain ⟨h1, h2⟩ := h
  have hrl : a + r < l.length := by omega
  have hcl : a + c < l.length := by omega
  have e : ∀ k, kyL (gR l (a + r) (a + c)) (a + k) = if k = c then kyL l (a + r) else if k = r then kyL l (a + c) else kyL l (a + k) := fun k => by
    rw [jJ hrl hcl]
    by_cases e1 : k = c
    · rw [if_pos (by omega), if_pos e1]
    · rw [if_neg (by omega), if_neg e1]
      by_cases e2 : k = r
      · rw [if_pos (by omega), if_pos e2]
      · rw [if_neg (by omega), if_neg e2]
  refine ⟨fun i d q1 q2 q3 q4 => ?_, fun i d q1 q2 q3 q4 => ?_⟩
  · rw [e, e, if_neg q2]
    by_cases hir : i = r
    · subst hir
      rw [if_pos rfl]
      by_cases hd : d = c
      · rw [if_pos hd]; exact hlt
      · rw [if_neg hd, if_neg (by omega)]; exact ho d q3 q4
    · rw [if_neg hir]
      by_cases hd : d = r
      · subst hd
        rw [if_neg (by omega), if_pos rfl]; exact h2 i c q1 q3 hc hch
      · rw [if_neg (show ¬ d = c by omega), if_neg hd]; exact h1 i d q1 hir q3 q4
  · obtain rfl : i = r := by omega
    rw [e, e, if_neg (show ¬ d = c by omega), if_neg (show ¬ d = i by omega), if_neg (show ¬ i = c by omega), if_pos rfl]
    exact h1 c d (by omega) (by omega) q3 q4
theorem qJ.top {a hi : Nat} {l : List RecT} (h : qJ a 0 hi l) (k : Nat) : k < hi → leB (kyL l (a + k)) (kyL l a) := by
  induction k using Nat.strongRecOn with
  | _ k ih =>
    intro hk
    cases k with
    | zero => exact yY _
    | succ k => exact nI (h (k / 2) (k + 1) (Nat.zero_le _) (by omega) hk) (ih (k / 2) (by omega) (by omega))
def qK (a n b : Nat) (l : List RecT) : Prop := qJ a 0 n l ∧ SegS (a + n) b l ∧ ∀ p q, p < n → a + n ≤ q → q < b → leB (kyL l (a + p)) (kyL l q)
theorem qK.begin {a b : Nat} {l : List RecT} (hab : a ≤ b) (h : qJ a 0 (b - a) l) : qK a (b - a) b l :=
  ⟨h, SegS.one (by omega), fun p q h1 h2 h3 => by omega⟩
theorem qK.heap {a n b : Nat} {l : List RecT} (h : qK a (n + 1) b l) (hb : a + n < b) (hl : b ≤ l.length) : qJ a 1 n (gR l a (a + n)) := fun i c h1 h2 h3 => by
  rw [jJ (by omega) (by omega), jJ (by omega) (by omega), if_neg (by omega), if_neg (by omega), if_neg (by omega), if_neg (by omega)]
  exact h.1 i c (Nat.zero_le _) h2 (by omega)
theorem qK.next {a n b : Nat} {l l2 : List RecT} (h : qK a (n + 1) b l) (hb : a + n < b) (hl : b ≤ l.length) (hs : SegP a (a + n) (gR l a (a + n)) l2) (hh : qJ a 0 n l2) : qK a n b l2 := by
  obtain ⟨h1, h2, h3⟩ := h
  have hal : a < l.length := by omega
  have hnl : a + n < l.length := by omega
  have e1 : kyL l2 (a + n) = kyL l a := by rw [hs.same (by omega), jJ hal hnl, if_pos rfl]
  have e2 : ∀ q, a + n < q → kyL l2 q = kyL l q := fun q hq => by rw [hs.same (by omega), jJ hal hnl, if_neg (by omega), if_neg (by omega)]
  have e3 : ∀ p, p < n → ∃ p', p' < n + 1 ∧ kyL l2 (a + p) = kyL l (a + p') := fun p hp => by
    obtain ⟨k', q1, q2, e⟩ := hs.from (k := a + p) (by omega) (by omega)
    rw [e, jJ hal hnl, if_neg (by omega)]
    by_cases hk : k' = a
    · rw [if_pos hk]; exact ⟨n, by omega, rfl⟩
    · rw [if_neg hk]; exact ⟨k' - a, by omega, by rw [show a + (k' - a) = k' by omega]⟩
  have htop : ∀ p', p' < n + 1 → leB (kyL l (a + p')) (kyL l a) := fun p' hp => h1.top p' hp
  refine ⟨hh, fun p q p1 p2 p3 => ?_, fun p q p1 p2 p3 => ?_⟩
  · rw [e2 q (by omega)]
    by_cases hp : p = a + n
    · subst hp; rw [e1]; exact h3 0 q (by omega) (by omega) p3
    · rw [e2 p (by omega)]; exact h2 p q (by omega) p2 p3
  · obtain ⟨p', g1, g2⟩ := e3 p p1
    rw [g2]
    by_cases hq : q = a + n
    · subst hq; rw [e1]; exact htop p' g1
    · rw [e2 q (by omega)]; exact h3 p' q g1 (by omega) p3
theorem qK.fin {a b : Nat} {l : List RecT} (h : qK a 0 b l) : SegS a b l := h.2.1
theorem SegP.le {a b : Nat} {l l' : List RecT} (h : SegP a b l l') {x : bD} (hx : ∀ k, a ≤ k → k < b → leB x (kyL l k)) : ∀ k, a ≤ k → k < b → leB x (kyL l' k) := fun k h1 h2 => by
  obtain ⟨k', q1, q2, e⟩ := h.from h1 h2
  rw [e]; exact hx k' q1 q2
end Lam
namespace Lam
open Go Go.Proofs
def bF.loops : Nat → bW
 | _ => ⟨[], [], [], [], [], []⟩
def bF.H (c : Ctx) (t0 : AV) (t1 : AV) (h : List AObj) (K : AOut → List AObj → Prop) : Prop :=
 runD (lenD aT h t0) h fun t6 h =>
 runD (jL h aB rS t6) h fun t10 h =>
 aR false c (.fn (.func 120) [] []) [t10] h (fun t11 h =>
 aR false c (.fn (.func 119) [] []) [t0, (.int .i64 0), t6, t11, t1] h (fun t13 h =>
 K (.ret (.tup [])) h)
 (fun v h => K (.pan v) h))
 (fun v h => K (.pan v) h)
def bS.loops : Nat → bW
 | 2 => ⟨[1, 2, 3, 10, 11], [false, false, false, false, false], [0, 4], [], [], []⟩
 | 15 => ⟨[], [], [], [(2, none), (1, some [69, 70]), (2, none), (2, some [72, 74])], [], []⟩
 | _ => ⟨[], [], [], [], [], []⟩
def bS.L1 (c : Ctx) (K : AOut → List AObj → Prop) (lv : List AV) (h0 : List AObj) (n0 : Nat) (c0 : AV) (c4 : AV) : Prop :=
 ∃ I : Nat → List AV → List AObj → Prop, (∃ n, I n lv h0) ∧ ∀ n h, ∀ t1, ∀ t2, ∀ t3, ∀ t10, ∀ t11, I n [t1, t2, t3, t10, t11] h →
 aM (fun (J2 : AV → AV → AV → AV → AV → List AObj → Prop) =>
 runD (binD aB .sub t2 t1) h fun t23 h =>
 runD (binD aB .leq t23 (.int .i64 12)) h fun t25 h =>
 aU t25
 (aR false c (.fn (.func 126) [] []) [c0, t1, t2, c4] h (fun t30 h =>
 K (.ret (.tup [])) h)
 (fun v h => K (.pan v) h))
 (runD (binD aB .eql t3 (.int .i64 0)) h fun t32 h =>
 aU t32
 (aR false c (.fn (.func 127) [] []) [c0, t1, t2, c4] h (fun t37 h =>
 K (.ret (.tup [])) h)
 (fun v h => K (.pan v) h))
 (runD (unD .not t10) h fun t39 h =>
 aM (fun (J3 : AV → List AObj → Prop) =>
 aU t39
 (aR false c (.fn (.func 128) [] []) [c0, t1, t2, c4] h (fun t44 h =>
 runD (binD aB .sub t3 (.int .i64 1)) h fun t46 h =>
 J3 t46 h)
 (fun v h => K (.pan v) h))
 (J3 t3 h))
 (fun t3 h => aR false c (.fn (.func 129) [] []) [c0, t1, t2, c4] h (fun t52 h =>
 runD (aW t52 0) h fun t53 h =>
 runD (aW t52 1) h fun t54 h =>
 runD (binD mA .eql t54 (.int .i64 2)) h fun t56 h =>
 aM (fun (J4 : AV → AV → List AObj → Prop) =>
 aU t56
 (aR false c (.fn (.func 130) [] []) [c0, t1, t2, c4] h (fun t61 h =>
 runD (binD aB .sub t2 (.int .i64 1)) h fun t63 h =>
 runD (binD aB .sub t53 t1) h fun t66 h =>
 runD (binD aB .sub t63 t66) h fun t67 h =>
 J4 t67 (.int .i64 1) h)
 (fun v h => K (.pan v) h))
 (J4 t53 t54 h))
 (fun t13 t14 h => aM (fun (J5 : AV → AV → List AObj → Prop) =>
 aX t10 true
 (J5 (.bool true) t11 h)
 (J5 (.bool false) .und h))
 (fun t69 t70 h => runD (bO t69 t70 (.bool false)) h fun t71 h =>
 aM (fun (J6 : AV → AV → List AObj → Prop) =>
 aX t71 true
 (runD (binD mA .eql t14 (.int .i64 1)) h fun t74 h =>
 J6 (.bool true) t74 h)
 (J6 (.bool false) .und h))
 (fun t72 t74 h => runD (bO t72 t74 (.bool false)) h fun t75 h =>
 aM (fun (J7 : List AObj → Prop) =>
 aU t75
 (aR false c (.fn (.func 131) [] []) [c0, t1, t2, c4] h (fun t80 h =>
 aU t80
 (K (.ret (.tup [])) h)
 (J7 h))
 (fun v h => K (.pan v) h))
 (J7 h))
 (fun h => runD (binD aB .gtr t1 (.int .i64 0)) h fun t82 h =>
 aM (fun (J8 : AV → AV → List AObj → Prop) =>
 aX t82 true
 (runD (binD aB .sub t1 (.int .i64 1)) h fun t87 h =>
 runD (aH aT h c0 t87) h fun t88 h =>
 runD (fitD aI (aD h t88)) h fun t89 h =>
 runD (aH aT h c0 t13) h fun t92 h =>
 runD (fitD aI (aD h t92)) h fun t93 h =>
 aR false c.noS c4 [t89, t93] h (fun t94 h =>
 runD (binD aB .lss t94 (.int .i64 0)) h fun t95 h =>
 runD (unD .not t95) h fun t96 h =>
 J8 (.bool true) t96 h)
 (fun _ _ => False))
 (J8 (.bool false) .und h))
 (fun t83 t96 h => runD (bO t83 t96 (.bool false)) h fun t97 h =>
 aU t97
 (aR false c (.fn (.func 132) [] []) [c0, t1, t2, t13, c4] h (fun t103 h =>
 J2 t103 t2 t3 t10 t11 h)
 (fun v h => K (.pan v) h))
 (aR false c (.fn (.func 133) [] []) [c0, t1, t2, t13, c4] h (fun t111 h =>
 runD (aW t111 0) h fun t112 h =>
 runD (aW t111 1) h fun t113 h =>
 runD (binD aB .sub t112 t1) h fun t117 h =>
 runD (binD aB .sub t2 t112) h fun t120 h =>
 runD (binD aB .quo t23 (.int .i64 8)) h fun t122 h =>
 runD (binD aB .lss t117 t120) h fun t125 h =>
 aM (fun (J9 : AV → AV → AV → List AObj → Prop) =>
 aU t125
 (runD (binD aB .geq t117 t122) h fun t128 h =>
 aR false c (.fn (.func 119) [] []) [c0, t1, t112, t3, c4] h (fun t134 h =>
 runD (binD aB .add t112 (.int .i64 1)) h fun t136 h =>
 J9 t136 t2 t128 h)
 (fun v h => K (.pan v) h))
 (runD (binD aB .geq t120 t122) h fun t139 h =>
 runD (binD aB .add t112 (.int .i64 1)) h fun t142 h =>
 aR false c (.fn (.func 119) [] []) [c0, t142, t2, t3, c4] h (fun t146 h =>
 J9 t1 t112 t139 h)
 (fun v h => K (.pan v) h)))
 (fun t1 t2 t10 h => J2 t1 t2 t3 t10 t113 h))
 (fun v h => K (.pan v) h))))))))
 (fun v h => K (.pan v) h)))))
 (fun t1 t2 t3 t10 t11 h => (∃ m, m < n ∧ I m (AV.norms n0 h [t1, t2, t3, t10, t11]) (cH n0 h)) ∧ AV.norms n0 h [c0, c4] = [c0, c4])
def bS.H (c : Ctx) (t0 : AV) (t1 : AV) (t2 : AV) (t3 : AV) (t4 : AV) (h : List AObj) (K : AOut → List AObj → Prop) : Prop :=
 aM (fun (J1 : List AObj → Prop) =>
 dC [false, false, false, false, false] [t1, t2, t3, (.bool true), (.bool true)] h fun lv h => bS.L1 c K (AV.norms h.length h lv) (cH h.length h) h.length (AV.norm h.length h t0) (AV.norm h.length h t4))
 (fun h => K (.ret (.tup [])) h)
def bK.loops : Nat → bW
 | _ => ⟨[], [], [], [], [], []⟩
def bK.H (c : Ctx) (t0 : AV) (t1 : AV) (t2 : AV) (t3 : AV) (h : List AObj) (K : AOut → List AObj → Prop) : Prop :=
 runD (binD aB .sub t2 t1) h fun t17 h =>
 cQ aB h fun t11 h =>
 runD (binD aB .quo t17 (.int .i64 4)) h fun t20 h =>
 runD (binD aB .mul t20 (.int .i64 1)) h fun t21 h =>
 runD (binD aB .add t1 t21) h fun t22 h =>
 runD (binD aB .quo t17 (.int .i64 4)) h fun t25 h =>
 runD (binD aB .mul t25 (.int .i64 2)) h fun t26 h =>
 runD (binD aB .add t1 t26) h fun t27 h =>
 runD (binD aB .quo t17 (.int .i64 4)) h fun t30 h =>
 runD (binD aB .mul t30 (.int .i64 3)) h fun t31 h =>
 runD (binD aB .add t1 t31) h fun t32 h =>
 runD (binD aB .geq t17 (.int .i64 8)) h fun t34 h =>
 aM (fun (J1 : AV → List AObj → Prop) =>
 aU t34
 (runD (binD aB .geq t17 (.int .i64 50)) h fun t36 h =>
 aM (fun (J2 : AV → AV → AV → List AObj → Prop) =>
 aU t36
 (aR false c (.fn (.func 145) [] []) [t0, t22, t11, t3] h (fun t40 h =>
 aR false c (.fn (.func 145) [] []) [t0, t27, t11, t3] h (fun t44 h =>
 aR false c (.fn (.func 145) [] []) [t0, t32, t11, t3] h (fun t48 h =>
 J2 t40 t44 t48 h)
 (fun v h => K (.pan v) h))
 (fun v h => K (.pan v) h))
 (fun v h => K (.pan v) h))
 (J2 t22 t27 t32 h))
 (fun t12 t13 t14 h => aR false c (.fn (.func 146) [] []) [t0, t12, t13, t14, t11, t3] h (fun t54 h =>
 J1 t54 h)
 (fun v h => K (.pan v) h)))
 (J1 t27 h))
 (fun t13 h => runD (fitD aB (aD h t11)) h fun t55 h =>
 runD (binD aB .eql t55 (.int .i64 0)) h fun t58 h =>
 aU t58
 (K (.ret (.tup [t13, (.int .i64 1)])) h)
 (runD (binD aB .eql t55 (.int .i64 12)) h fun t61 h =>
 aU t61
 (K (.ret (.tup [t13, (.int .i64 2)])) h)
 (K (.ret (.tup [t13, (.int .i64 0)])) h)))
def aF.loops : Nat → bW
 | 3 => ⟨[9, 10], [false, false], [0, 1, 2, 3], [], [], []⟩
 | 5 => ⟨[9], [false], [0, 1, 2, 3, 10], [], [], []⟩
 | 14 => ⟨[11], [false], [0, 1, 2, 3, 9, 10], [], [], []⟩
 | 20 => ⟨[12], [false], [0, 1, 2, 3, 9, 10], [], [], []⟩
 | _ => ⟨[], [], [], [], [], []⟩
def aF.L2 (c : Ctx) (J3 : AV → AV → AV → AV → AV → AV → List AObj → Prop) (K : AOut → List AObj → Prop) (lv : List AV) (h0 : List AObj) (n0 : Nat) (c0 : AV) (c1 : AV) (c2 : AV) (c3 : AV) (c10 : AV) : Prop :=
 ∃ I : Nat → List AV → List AObj → Prop, (∃ n, I n lv h0) ∧ ∀ n h, ∀ t9, I n [t9] h →
 runD (binD aB .lss t9 c2) h fun t21 h =>
 aM (fun (J4 : AV → AV → List AObj → Prop) =>
 aX t21 true
 (runD (aH aT h c0 t9) h fun t26 h =>
 runD (fitD aI (aD h t26)) h fun t27 h =>
 runD (binD aB .sub t9 (.int .i64 1)) h fun t30 h =>
 runD (aH aT h c0 t30) h fun t31 h =>
 runD (fitD aI (aD h t31)) h fun t32 h =>
 aR false c.noS c3 [t27, t32] h (fun t33 h =>
 runD (binD aB .lss t33 (.int .i64 0)) h fun t34 h =>
 runD (unD .not t34) h fun t35 h =>
 J4 (.bool true) t35 h)
 (fun _ _ => False))
 (J4 (.bool false) .und h))
 (fun t22 t35 h => runD (bO t22 t35 (.bool false)) h fun t36 h =>
 aU t36
 (runD (binD aB .add t9 (.int .i64 1)) h fun t38 h =>
 (∃ m, m < n ∧ I m (AV.norms n0 h [t38]) (cH n0 h)) ∧ AV.norms n0 h [c0, c1, c2, c3, c10] = [c0, c1, c2, c3, c10])
 (J3 c0 c1 c2 c3 t9 c10 h))
def aF.L3 (c : Ctx) (J6 : AV → AV → AV → AV → AV → AV → List AObj → Prop) (K : AOut → List AObj → Prop) (lv : List AV) (h0 : List AObj) (n0 : Nat) (c0 : AV) (c1 : AV) (c2 : AV) (c3 : AV) (c9 : AV) (c10 : AV) : Prop :=
 ∃ I : Nat → List AV → List AObj → Prop, (∃ n, I n lv h0) ∧ ∀ n h, ∀ t11, I n [t11] h →
 runD (binD aB .geq t11 (.int .i64 1)) h fun t69 h =>
 aU t69
 (runD (aH aT h c0 t11) h fun t75 h =>
 runD (fitD aI (aD h t75)) h fun t76 h =>
 runD (binD aB .sub t11 (.int .i64 1)) h fun t79 h =>
 runD (aH aT h c0 t79) h fun t80 h =>
 runD (fitD aI (aD h t80)) h fun t81 h =>
 aR false c.noS c3 [t76, t81] h (fun t82 h =>
 runD (binD aB .lss t82 (.int .i64 0)) h fun t83 h =>
 runD (unD .not t83) h fun t84 h =>
 aU t84
 (J6 c0 c1 c2 c3 c9 c10 h)
 (runD (binD aB .sub t11 (.int .i64 1)) h fun t89 h =>
 runD (binD aB .sub t11 (.int .i64 1)) h fun t92 h =>
 runD (aH aT h c0 t92) h fun t93 h =>
 runD (fitD aI (aD h t93)) h fun t94 h =>
 runD (aH aT h c0 t11) h fun t97 h =>
 runD (fitD aI (aD h t97)) h fun t98 h =>
 runD (aH aT h c0 t11) h fun t99 h =>
 runH (aP aI h t99 t94) h fun _ h =>
 runD (aH aT h c0 t89) h fun t100 h =>
 runH (aP aI h t100 t98) h fun _ h =>
 runD (binD aB .sub t11 (.int .i64 1)) h fun t71 h =>
 (∃ m, m < n ∧ I m (AV.norms n0 h [t71]) (cH n0 h)) ∧ AV.norms n0 h [c0, c1, c2, c3, c9, c10] = [c0, c1, c2, c3, c9, c10]))
 (fun _ _ => False))
 (J6 c0 c1 c2 c3 c9 c10 h)
def aF.L4 (c : Ctx) (J8 : AV → AV → AV → AV → AV → AV → List AObj → Prop) (K : AOut → List AObj → Prop) (lv : List AV) (h0 : List AObj) (n0 : Nat) (c0 : AV) (c1 : AV) (c2 : AV) (c3 : AV) (c9 : AV) (c10 : AV) : Prop :=
 ∃ I : Nat → List AV → List AObj → Prop, (∃ n, I n lv h0) ∧ ∀ n h, ∀ t12, I n [t12] h →
 runD (binD aB .lss t12 c2) h fun t109 h =>
 aU t109
 (runD (aH aT h c0 t12) h fun t115 h =>
 runD (fitD aI (aD h t115)) h fun t116 h =>
 runD (binD aB .sub t12 (.int .i64 1)) h fun t119 h =>
 runD (aH aT h c0 t119) h fun t120 h =>
 runD (fitD aI (aD h t120)) h fun t121 h =>
 aR false c.noS c3 [t116, t121] h (fun t122 h =>
 runD (binD aB .lss t122 (.int .i64 0)) h fun t123 h =>
 runD (unD .not t123) h fun t124 h =>
 aU t124
 (J8 c0 c1 c2 c3 c9 c10 h)
 (runD (binD aB .sub t12 (.int .i64 1)) h fun t129 h =>
 runD (binD aB .sub t12 (.int .i64 1)) h fun t132 h =>
 runD (aH aT h c0 t132) h fun t133 h =>
 runD (fitD aI (aD h t133)) h fun t134 h =>
 runD (aH aT h c0 t12) h fun t137 h =>
 runD (fitD aI (aD h t137)) h fun t138 h =>
 runD (aH aT h c0 t12) h fun t139 h =>
 runH (aP aI h t139 t134) h fun _ h =>
 runD (aH aT h c0 t129) h fun t140 h =>
 runH (aP aI h t140 t138) h fun _ h =>
 runD (binD aB .add t12 (.int .i64 1)) h fun t111 h =>
 (∃ m, m < n ∧ I m (AV.norms n0 h [t111]) (cH n0 h)) ∧ AV.norms n0 h [c0, c1, c2, c3, c9, c10] = [c0, c1, c2, c3, c9, c10]))
 (fun _ _ => False))
 (J8 c0 c1 c2 c3 c9 c10 h)
def aF.L1 (c : Ctx) (J1 : List AObj → Prop) (K : AOut → List AObj → Prop) (lv : List AV) (h0 : List AObj) (n0 : Nat) (c0 : AV) (c1 : AV) (c2 : AV) (c3 : AV) : Prop :=
 ∃ I : Nat → List AV → List AObj → Prop, (∃ n, I n lv h0) ∧ ∀ n h, ∀ t9, ∀ t10, I n [t9, t10] h →
 runD (binD aB .lss t10 (.int .i64 5)) h fun t16 h =>
 aU t16
 (aM (fun (J2 : AV → AV → AV → AV → AV → AV → List AObj → Prop) =>
 aM (fun (J3 : AV → AV → AV → AV → AV → AV → List AObj → Prop) =>
 dC [false] [t9] h fun lv h => aF.L2 c J3 K (AV.norms h.length h lv) (cH h.length h) h.length (AV.norm h.length h c0) (AV.norm h.length h c1) (AV.norm h.length h c2) (AV.norm h.length h c3) (AV.norm h.length h t10))
 (fun t0 t1 t2 t3 t9 t10 h => runD (binD aB .eql t9 t2) h fun t41 h =>
 aU t41
 (K (.ret (.bool true)) h)
 (runD (binD aB .sub t2 t1) h fun t44 h =>
 runD (binD aB .lss t44 (.int .i64 50)) h fun t45 h =>
 aU t45
 (K (.ret (.bool false)) h)
 (runD (binD aB .sub t9 (.int .i64 1)) h fun t50 h =>
 runD (binD aB .sub t9 (.int .i64 1)) h fun t53 h =>
 runD (aH aT h t0 t53) h fun t54 h =>
 runD (fitD aI (aD h t54)) h fun t55 h =>
 runD (aH aT h t0 t9) h fun t58 h =>
 runD (fitD aI (aD h t58)) h fun t59 h =>
 runD (aH aT h t0 t9) h fun t60 h =>
 runH (aP aI h t60 t55) h fun _ h =>
 runD (aH aT h t0 t50) h fun t61 h =>
 runH (aP aI h t61 t59) h fun _ h =>
 runD (binD aB .sub t9 t1) h fun t64 h =>
 runD (binD aB .geq t64 (.int .i64 2)) h fun t65 h =>
 aM (fun (J5 : AV → AV → AV → AV → AV → AV → List AObj → Prop) =>
 aU t65
 (runD (binD aB .sub t9 (.int .i64 1)) h fun t67 h =>
 aM (fun (J6 : AV → AV → AV → AV → AV → AV → List AObj → Prop) =>
 dC [false] [t67] h fun lv h => aF.L3 c J6 K (AV.norms h.length h lv) (cH h.length h) h.length (AV.norm h.length h t0) (AV.norm h.length h t1) (AV.norm h.length h t2) (AV.norm h.length h t3) (AV.norm h.length h t9) (AV.norm h.length h t10))
 (fun t0 t1 t2 t3 t9 t10 h => J5 t0 t1 t2 t3 t9 t10 h))
 (J5 t0 t1 t2 t3 t9 t10 h))
 (fun t0 t1 t2 t3 t9 t10 h => runD (binD aB .sub t2 t9) h fun t103 h =>
 runD (binD aB .geq t103 (.int .i64 2)) h fun t104 h =>
 aM (fun (J7 : AV → AV → AV → AV → AV → AV → List AObj → Prop) =>
 aU t104
 (runD (binD aB .add t9 (.int .i64 1)) h fun t106 h =>
 aM (fun (J8 : AV → AV → AV → AV → AV → AV → List AObj → Prop) =>
 dC [false] [t106] h fun lv h => aF.L4 c J8 K (AV.norms h.length h lv) (cH h.length h) h.length (AV.norm h.length h t0) (AV.norm h.length h t1) (AV.norm h.length h t2) (AV.norm h.length h t3) (AV.norm h.length h t9) (AV.norm h.length h t10))
 (fun t0 t1 t2 t3 t9 t10 h => J7 t0 t1 t2 t3 t9 t10 h))
 (J7 t0 t1 t2 t3 t9 t10 h))
 (fun t0 t1 t2 t3 t9 t10 h => J2 t0 t1 t2 t3 t9 t10 h))))))
 (fun t0 t1 t2 t3 t9 t10 h => runD (binD aB .add t10 (.int .i64 1)) h fun t18 h =>
 (∃ m, m < n ∧ I m (AV.norms n0 h [t9, t18]) (cH n0 h)) ∧ AV.norms n0 h [t0, t1, t2, t3] = [c0, c1, c2, c3]))
 (J1 h)
def aF.H (c : Ctx) (t0 : AV) (t1 : AV) (t2 : AV) (t3 : AV) (h : List AObj) (K : AOut → List AObj → Prop) : Prop :=
 runD (binD aB .add t1 (.int .i64 1)) h fun t14 h =>
 aM (fun (J1 : List AObj → Prop) =>
 dC [false, false] [t14, (.int .i64 0)] h fun lv h => aF.L1 c J1 K (AV.norms h.length h lv) (cH h.length h) h.length (AV.norm h.length h t0) (AV.norm h.length h t1) (AV.norm h.length h t2) (AV.norm h.length h t3))
 (fun h => K (.ret (.bool false)) h)
def aL.loops : Nat → bW
 | 3 => ⟨[12], [false], [0, 1, 4, 13], [], [], []⟩
 | 5 => ⟨[13], [false], [0, 1, 4, 12], [], [], []⟩
 | 13 => ⟨[12], [false], [0, 1, 4, 13], [], [], []⟩
 | 15 => ⟨[13], [false], [0, 1, 4, 12], [], [], []⟩
 | 1013 => ⟨[12, 13], [false, false], [0, 1, 4], [], [], []⟩
 | _ => ⟨[], [], [], [], [], []⟩
def aL.L1 (c : Ctx) (J1 : AV → AV → AV → AV → AV → List AObj → Prop) (K : AOut → List AObj → Prop) (lv : List AV) (h0 : List AObj) (n0 : Nat) (c0 : AV) (c1 : AV) (c4 : AV) (c13 : AV) : Prop :=
 ∃ I : Nat → List AV → List AObj → Prop, (∃ n, I n lv h0) ∧ ∀ n h, ∀ t12, I n [t12] h →
 runD (binD aB .leq t12 c13) h fun t34 h =>
 aM (fun (J2 : AV → AV → List AObj → Prop) =>
 aX t34 true
 (runD (aH aT h c0 t12) h fun t39 h =>
 runD (fitD aI (aD h t39)) h fun t40 h =>
 runD (aH aT h c0 c1) h fun t43 h =>
 runD (fitD aI (aD h t43)) h fun t44 h =>
 aR false c.noS c4 [t40, t44] h (fun t45 h =>
 runD (binD aB .lss t45 (.int .i64 0)) h fun t46 h =>
 J2 (.bool true) t46 h)
 (fun _ _ => False))
 (J2 (.bool false) .und h))
 (fun t35 t46 h => runD (bO t35 t46 (.bool false)) h fun t47 h =>
 aU t47
 (runD (binD aB .add t12 (.int .i64 1)) h fun t49 h =>
 (∃ m, m < n ∧ I m (AV.norms n0 h [t49]) (cH n0 h)) ∧ AV.norms n0 h [c0, c1, c4, c13] = [c0, c1, c4, c13])
 (J1 c0 c1 c4 t12 c13 h))
def aL.L2 (c : Ctx) (J3 : AV → AV → AV → AV → AV → List AObj → Prop) (K : AOut → List AObj → Prop) (lv : List AV) (h0 : List AObj) (n0 : Nat) (c0 : AV) (c1 : AV) (c4 : AV) (c12 : AV) : Prop :=
 ∃ I : Nat → List AV → List AObj → Prop, (∃ n, I n lv h0) ∧ ∀ n h, ∀ t13, I n [t13] h →
 runD (binD aB .leq c12 t13) h fun t52 h =>
 aM (fun (J4 : AV → AV → List AObj → Prop) =>
 aX t52 true
 (runD (aH aT h c0 t13) h fun t57 h =>
 runD (fitD aI (aD h t57)) h fun t58 h =>
 runD (aH aT h c0 c1) h fun t61 h =>
 runD (fitD aI (aD h t61)) h fun t62 h =>
 aR false c.noS c4 [t58, t62] h (fun t63 h =>
 runD (binD aB .lss t63 (.int .i64 0)) h fun t64 h =>
 runD (unD .not t64) h fun t65 h =>
 J4 (.bool true) t65 h)
 (fun _ _ => False))
 (J4 (.bool false) .und h))
 (fun t53 t65 h => runD (bO t53 t65 (.bool false)) h fun t66 h =>
 aU t66
 (runD (binD aB .sub t13 (.int .i64 1)) h fun t68 h =>
 (∃ m, m < n ∧ I m (AV.norms n0 h [t68]) (cH n0 h)) ∧ AV.norms n0 h [c0, c1, c4, c12] = [c0, c1, c4, c12])
 (J3 c0 c1 c4 c12 t13 h))
def aL.L4 (c : Ctx) (J7 : AV → AV → AV → AV → AV → List AObj → Prop) (K : AOut → List AObj → Prop) (lv : List AV) (h0 : List AObj) (n0 : Nat) (c0 : AV) (c1 : AV) (c4 : AV) (c13 : AV) : Prop :=
 ∃ I : Nat → List AV → List AObj → Prop, (∃ n, I n lv h0) ∧ ∀ n h, ∀ t12, I n [t12] h →
 runD (binD aB .leq t12 c13) h fun t107 h =>
 aM (fun (J8 : AV → AV → List AObj → Prop) =>
 aX t107 true
 (runD (aH aT h c0 t12) h fun t112 h =>
 runD (fitD aI (aD h t112)) h fun t113 h =>
 runD (aH aT h c0 c1) h fun t116 h =>
 runD (fitD aI (aD h t116)) h fun t117 h =>
 aR false c.noS c4 [t113, t117] h (fun t118 h =>
 runD (binD aB .lss t118 (.int .i64 0)) h fun t119 h =>
 J8 (.bool true) t119 h)
 (fun _ _ => False))
 (J8 (.bool false) .und h))
 (fun t108 t119 h => runD (bO t108 t119 (.bool false)) h fun t120 h =>
 aU t120
 (runD (binD aB .add t12 (.int .i64 1)) h fun t122 h =>
 (∃ m, m < n ∧ I m (AV.norms n0 h [t122]) (cH n0 h)) ∧ AV.norms n0 h [c0, c1, c4, c13] = [c0, c1, c4, c13])
 (J7 c0 c1 c4 t12 c13 h))
def aL.L5 (c : Ctx) (J9 : AV → AV → AV → AV → AV → List AObj → Prop) (K : AOut → List AObj → Prop) (lv : List AV) (h0 : List AObj) (n0 : Nat) (c0 : AV) (c1 : AV) (c4 : AV) (c12 : AV) : Prop :=
 ∃ I : Nat → List AV → List AObj → Prop, (∃ n, I n lv h0) ∧ ∀ n h, ∀ t13, I n [t13] h →
 runD (binD aB .leq c12 t13) h fun t125 h =>
 aM (fun (J10 : AV → AV → List AObj → Prop) =>
 aX t125 true
 (runD (aH aT h c0 t13) h fun t130 h =>
 runD (fitD aI (aD h t130)) h fun t131 h =>
 runD (aH aT h c0 c1) h fun t134 h =>
 runD (fitD aI (aD h t134)) h fun t135 h =>
 aR false c.noS c4 [t131, t135] h (fun t136 h =>
 runD (binD aB .lss t136 (.int .i64 0)) h fun t137 h =>
 runD (unD .not t137) h fun t138 h =>
 J10 (.bool true) t138 h)
 (fun _ _ => False))
 (J10 (.bool false) .und h))
 (fun t126 t138 h => runD (bO t126 t138 (.bool false)) h fun t139 h =>
 aU t139
 (runD (binD aB .sub t13 (.int .i64 1)) h fun t141 h =>
 (∃ m, m < n ∧ I m (AV.norms n0 h [t141]) (cH n0 h)) ∧ AV.norms n0 h [c0, c1, c4, c12] = [c0, c1, c4, c12])
 (J9 c0 c1 c4 c12 t13 h))
def aL.L3 (c : Ctx) (J5 : AV → AV → AV → List AObj → Prop) (K : AOut → List AObj → Prop) (lv : List AV) (h0 : List AObj) (n0 : Nat) (c0 : AV) (c1 : AV) (c4 : AV) : Prop :=
 ∃ I : Nat → List AV → List AObj → Prop, (∃ n, I n lv h0) ∧ ∀ n h, ∀ t12, ∀ t13, I n [t12, t13] h →
 aM (fun (J6 : AV → AV → AV → AV → AV → List AObj → Prop) =>
 aM (fun (J7 : AV → AV → AV → AV → AV → List AObj → Prop) =>
 dC [false] [t12] h fun lv h => aL.L4 c J7 K (AV.norms h.length h lv) (cH h.length h) h.length (AV.norm h.length h c0) (AV.norm h.length h c1) (AV.norm h.length h c4) (AV.norm h.length h t13))
 (fun t0 t1 t4 t12 t13 h => aM (fun (J9 : AV → AV → AV → AV → AV → List AObj → Prop) =>
 dC [false] [t13] h fun lv h => aL.L5 c J9 K (AV.norms h.length h lv) (cH h.length h) h.length (AV.norm h.length h t0) (AV.norm h.length h t1) (AV.norm h.length h t4) (AV.norm h.length h t12))
 (fun t0 t1 t4 t12 t13 h => runD (binD aB .gtr t12 t13) h fun t144 h =>
 aU t144
 (J5 t0 t1 t13 h)
 (runD (aH aT h t0 t13) h fun t151 h =>
 runD (fitD aI (aD h t151)) h fun t152 h =>
 runD (aH aT h t0 t12) h fun t155 h =>
 runD (fitD aI (aD h t155)) h fun t156 h =>
 runD (aH aT h t0 t12) h fun t157 h =>
 runH (aP aI h t157 t152) h fun _ h =>
 runD (aH aT h t0 t13) h fun t158 h =>
 runH (aP aI h t158 t156) h fun _ h =>
 runD (binD aB .add t12 (.int .i64 1)) h fun t160 h =>
 runD (binD aB .sub t13 (.int .i64 1)) h fun t162 h =>
 J6 t0 t1 t4 t160 t162 h))))
 (fun t0 t1 t4 t12 t13 h => (∃ m, m < n ∧ I m (AV.norms n0 h [t12, t13]) (cH n0 h)) ∧ AV.norms n0 h [t0, t1, t4] = [c0, c1, c4])
def aL.H (c : Ctx) (t0 : AV) (t1 : AV) (t2 : AV) (t3 : AV) (t4 : AV) (h : List AObj) (K : AOut → List AObj → Prop) : Prop :=
 runD (aH aT h t0 t3) h fun t20 h =>
 runD (fitD aI (aD h t20)) h fun t21 h =>
 runD (aH aT h t0 t1) h fun t24 h =>
 runD (fitD aI (aD h t24)) h fun t25 h =>
 runD (aH aT h t0 t1) h fun t26 h =>
 runH (aP aI h t26 t21) h fun _ h =>
 runD (aH aT h t0 t3) h fun t27 h =>
 runH (aP aI h t27 t25) h fun _ h =>
 runD (binD aB .add t1 (.int .i64 1)) h fun t29 h =>
 runD (binD aB .sub t2 (.int .i64 1)) h fun t31 h =>
 aM (fun (J1 : AV → AV → AV → AV → AV → List AObj → Prop) =>
 dC [false] [t29] h fun lv h => aL.L1 c J1 K (AV.norms h.length h lv) (cH h.length h) h.length (AV.norm h.length h t0) (AV.norm h.length h t1) (AV.norm h.length h t4) (AV.norm h.length h t31))
 (fun t0 t1 t4 t12 t13 h => aM (fun (J3 : AV → AV → AV → AV → AV → List AObj → Prop) =>
 dC [false] [t13] h fun lv h => aL.L2 c J3 K (AV.norms h.length h lv) (cH h.length h) h.length (AV.norm h.length h t0) (AV.norm h.length h t1) (AV.norm h.length h t4) (AV.norm h.length h t12))
 (fun t0 t1 t4 t12 t13 h => runD (binD aB .gtr t12 t13) h fun t71 h =>
 aU t71
 (runD (aH aT h t0 t1) h fun t78 h =>
 runD (fitD aI (aD h t78)) h fun t79 h =>
 runD (aH aT h t0 t13) h fun t82 h =>
 runD (fitD aI (aD h t82)) h fun t83 h =>
 runD (aH aT h t0 t13) h fun t84 h =>
 runH (aP aI h t84 t79) h fun _ h =>
 runD (aH aT h t0 t1) h fun t85 h =>
 runH (aP aI h t85 t83) h fun _ h =>
 K (.ret (.tup [t13, (.bool true)])) h)
 (runD (aH aT h t0 t13) h fun t93 h =>
 runD (fitD aI (aD h t93)) h fun t94 h =>
 runD (aH aT h t0 t12) h fun t97 h =>
 runD (fitD aI (aD h t97)) h fun t98 h =>
 runD (aH aT h t0 t12) h fun t99 h =>
 runH (aP aI h t99 t94) h fun _ h =>
 runD (aH aT h t0 t13) h fun t100 h =>
 runH (aP aI h t100 t98) h fun _ h =>
 runD (binD aB .add t12 (.int .i64 1)) h fun t102 h =>
 runD (binD aB .sub t13 (.int .i64 1)) h fun t104 h =>
 aM (fun (J5 : AV → AV → AV → List AObj → Prop) =>
 dC [false, false] [t102, t104] h fun lv h => aL.L3 c J5 K (AV.norms h.length h lv) (cH h.length h) h.length (AV.norm h.length h t0) (AV.norm h.length h t1) (AV.norm h.length h t4))
 (fun t0 t1 t13 h => runD (aH aT h t0 t1) h fun t169 h =>
 runD (fitD aI (aD h t169)) h fun t170 h =>
 runD (aH aT h t0 t13) h fun t173 h =>
 runD (fitD aI (aD h t173)) h fun t174 h =>
 runD (aH aT h t0 t13) h fun t175 h =>
 runH (aP aI h t175 t170) h fun _ h =>
 runD (aH aT h t0 t1) h fun t176 h =>
 runH (aP aI h t176 t174) h fun _ h =>
 K (.ret (.tup [t13, (.bool false)])) h))))
def bL.loops : Nat → bW
 | _ => ⟨[], [], [], [], [], []⟩
def bL.H (c : Ctx) (t0 : AV) (t1 : AV) (t2 : AV) (t3 : AV) (t4 : AV) (t5 : AV) (h : List AObj) (K : AOut → List AObj → Prop) : Prop :=
 aR false c (.fn (.func 151) [] []) [t0, t1, t2, t4, t5] h (fun t19 h =>
 runD (aW t19 0) h fun t20 h =>
 runD (aW t19 1) h fun t21 h =>
 aR false c (.fn (.func 151) [] []) [t0, t21, t3, t4, t5] h (fun t28 h =>
 runD (aW t28 0) h fun t29 h =>
 runD (aW t28 1) h fun t30 h =>
 aR false c (.fn (.func 151) [] []) [t0, t20, t29, t4, t5] h (fun t37 h =>
 runD (aW t37 0) h fun t38 h =>
 runD (aW t37 1) h fun t39 h =>
 K (.ret t39) h)
 (fun v h => K (.pan v) h))
 (fun v h => K (.pan v) h))
 (fun v h => K (.pan v) h)
def bR.loops : Nat → bW
 | _ => ⟨[], [], [], [], [], []⟩
def bR.H (c : Ctx) (t0 : AV) (t1 : AV) (t2 : AV) (t3 : AV) (t4 : AV) (h : List AObj) (K : AOut → List AObj → Prop) : Prop :=
 runD (aH aT h t0 t2) h fun t15 h =>
 runD (fitD aI (aD h t15)) h fun t16 h =>
 runD (aH aT h t0 t1) h fun t19 h =>
 runD (fitD aI (aD h t19)) h fun t20 h =>
 aR false c.noS t4 [t16, t20] h (fun t21 h =>
 runD (binD aB .lss t21 (.int .i64 0)) h fun t22 h =>
 aU t22
 (runD (cV t3) h fun t24 h =>
 runD (fitD aB (aD h t24)) h fun t25 h =>
 runD (binD aB .add t25 (.int .i64 1)) h fun t26 h =>
 runD (cV t3) h fun t27 h =>
 runH (aP aB h t27 t26) h fun _ h =>
 K (.ret (.tup [t2, t1])) h)
 (K (.ret (.tup [t1, t2])) h))
 (fun _ _ => False)
theorem bF.eq (F : List (FuncId × aE)) (S : List (FuncId × Con)) (t0 t1 : AV) (h : List AObj) (K : AOut → List AObj → Prop) : funW (ctx F S bF.loops) Tryz.f108 [t0, t1] h K = bF.H (ctx F S bF.loops) t0 t1 h K := by kernel_rfl
theorem bS.eq (F : List (FuncId × aE)) (S : List (FuncId × Con)) (t0 t1 t2 t3 t4 : AV) (h : List AObj) (K : AOut → List AObj → Prop) : funW (ctx F S bS.loops) Tryz.f119 [t0, t1, t2, t3, t4] h K = bS.H (ctx F S bS.loops) t0 t1 t2 t3 t4 h K := by kernel_rfl
theorem bK.eq (F : List (FuncId × aE)) (S : List (FuncId × Con)) (t0 t1 t2 t3 : AV) (h : List AObj) (K : AOut → List AObj → Prop) : funW (ctx F S bK.loops) Tryz.f129 [t0, t1, t2, t3] h K = bK.H (ctx F S bK.loops) t0 t1 t2 t3 h K := by kernel_rfl
theorem aF.eq (F : List (FuncId × aE)) (S : List (FuncId × Con)) (t0 t1 t2 t3 : AV) (h : List AObj) (K : AOut → List AObj → Prop) : funW (ctx F S aF.loops) Tryz.f131 [t0, t1, t2, t3] h K = aF.H (ctx F S aF.loops) t0 t1 t2 t3 h K := by kernel_rfl
theorem aL.eq (F : List (FuncId × aE)) (S : List (FuncId × Con)) (t0 t1 t2 t3 t4 : AV) (h : List AObj) (K : AOut → List AObj → Prop) : funW (ctx F S aL.loops) Tryz.f133 [t0, t1, t2, t3, t4] h K = aL.H (ctx F S aL.loops) t0 t1 t2 t3 t4 h K := by kernel_rfl
theorem bL.eq (F : List (FuncId × aE)) (S : List (FuncId × Con)) (t0 t1 t2 t3 t4 t5 : AV) (h : List AObj) (K : AOut → List AObj → Prop) : funW (ctx F S bL.loops) Tryz.f146 [t0, t1, t2, t3, t4, t5] h K = bL.H (ctx F S bL.loops) t0 t1 t2 t3 t4 t5 h K := by kernel_rfl
theorem bR.eq (F : List (FuncId × aE)) (S : List (FuncId × Con)) (t0 t1 t2 t3 t4 : AV) (h : List AObj) (K : AOut → List AObj → Prop) : funW (ctx F S bR.loops) Tryz.f151 [t0, t1, t2, t3, t4] h K = bR.H (ctx F S bR.loops) t0 t1 t2 t3 t4 h K := by kernel_rfl
theorem bF.at : Tryz.prog.funcs[108]? = some Tryz.f108 := by kernel_rfl
theorem bF.nm : (Tryz.f108.name == "runtime.NumGoroutine") = false := by kernel_rfl
theorem bF.bd : Tryz.f108.body.isNone = false := by kernel_rfl
theorem bS.at : Tryz.prog.funcs[119]? = some Tryz.f119 := by kernel_rfl
theorem bS.nm : (Tryz.f119.name == "runtime.NumGoroutine") = false := by kernel_rfl
theorem bS.bd : Tryz.f119.body.isNone = false := by kernel_rfl
theorem bK.at : Tryz.prog.funcs[129]? = some Tryz.f129 := by kernel_rfl
theorem bK.nm : (Tryz.f129.name == "runtime.NumGoroutine") = false := by kernel_rfl
theorem bK.bd : Tryz.f129.body.isNone = false := by kernel_rfl
theorem aF.at : Tryz.prog.funcs[131]? = some Tryz.f131 := by kernel_rfl
theorem aF.nm : (Tryz.f131.name == "runtime.NumGoroutine") = false := by kernel_rfl
theorem aF.bd : Tryz.f131.body.isNone = false := by kernel_rfl
theorem aL.at : Tryz.prog.funcs[133]? = some Tryz.f133 := by kernel_rfl
theorem aL.nm : (Tryz.f133.name == "runtime.NumGoroutine") = false := by kernel_rfl
theorem aL.bd : Tryz.f133.body.isNone = false := by kernel_rfl
theorem bL.at : Tryz.prog.funcs[146]? = some Tryz.f146 := by kernel_rfl
theorem bL.nm : (Tryz.f146.name == "runtime.NumGoroutine") = false := by kernel_rfl
theorem bL.bd : Tryz.f146.body.isNone = false := by kernel_rfl
theorem bR.at : Tryz.prog.funcs[151]? = some Tryz.f151 := by kernel_rfl
theorem bR.nm : (Tryz.f151.name == "runtime.NumGoroutine") = false := by kernel_rfl
theorem bR.bd : Tryz.f151.body.isNone = false := by kernel_rfl
end Lam
namespace Lam
open Go Go.Proofs
def aQ.loops : Nat → bW
 | 1 => ⟨[8], [false], [0, 1, 2, 3], [], [], []⟩
 | 4 => ⟨[9], [false], [0, 1, 2, 3, 8], [], [], []⟩
 | _ => ⟨[], [], [], [], [], []⟩
def aQ.L2 (c : Ctx) (J3 : AV → AV → AV → AV → AV → List AObj → Prop) (K : AOut → List AObj → Prop) (lv : List AV) (h0 : List AObj) (n0 : Nat) (c0 : AV) (c1 : AV) (c2 : AV) (c3 : AV) (c8 : AV) : Prop :=
 ∃ I : Nat → List AV → List AObj → Prop, (∃ n, I n lv h0) ∧ ∀ n h, ∀ t9, I n [t9] h →
 runD (binD aB .gtr t9 c1) h fun t20 h =>
 aM (fun (J4 : AV → AV → List AObj → Prop) =>
 aX t20 true
 (runD (aH aT h c0 t9) h fun t25 h =>
 runD (fitD aI (aD h t25)) h fun t26 h =>
 runD (binD aB .sub t9 (.int .i64 1)) h fun t29 h =>
 runD (aH aT h c0 t29) h fun t30 h =>
 runD (fitD aI (aD h t30)) h fun t31 h =>
 aR false c.noS c3 [t26, t31] h (fun t32 h =>
 runD (binD aB .lss t32 (.int .i64 0)) h fun t33 h =>
 J4 (.bool true) t33 h)
 (fun _ _ => False))
 (J4 (.bool false) .und h))
 (fun t21 t33 h => runD (bO t21 t33 (.bool false)) h fun t34 h =>
 aU t34
 (runD (binD aB .sub t9 (.int .i64 1)) h fun t41 h =>
 runD (binD aB .sub t9 (.int .i64 1)) h fun t44 h =>
 runD (aH aT h c0 t44) h fun t45 h =>
 runD (fitD aI (aD h t45)) h fun t46 h =>
 runD (aH aT h c0 t9) h fun t49 h =>
 runD (fitD aI (aD h t49)) h fun t50 h =>
 runD (aH aT h c0 t9) h fun t51 h =>
 runH (aP aI h t51 t46) h fun _ h =>
 runD (aH aT h c0 t41) h fun t52 h =>
 runH (aP aI h t52 t50) h fun _ h =>
 runD (binD aB .sub t9 (.int .i64 1)) h fun t36 h =>
 (∃ m, m < n ∧ I m (AV.norms n0 h [t36]) (cH n0 h)) ∧ AV.norms n0 h [c0, c1, c2, c3, c8] = [c0, c1, c2, c3, c8])
 (J3 c0 c1 c2 c3 c8 h))
def aQ.L1 (c : Ctx) (J1 : List AObj → Prop) (K : AOut → List AObj → Prop) (lv : List AV) (h0 : List AObj) (n0 : Nat) (c0 : AV) (c1 : AV) (c2 : AV) (c3 : AV) : Prop :=
 ∃ I : Nat → List AV → List AObj → Prop, (∃ n, I n lv h0) ∧ ∀ n h, ∀ t8, I n [t8] h →
 runD (binD aB .lss t8 c2) h fun t14 h =>
 aU t14
 (aM (fun (J2 : AV → AV → AV → AV → AV → List AObj → Prop) =>
 aM (fun (J3 : AV → AV → AV → AV → AV → List AObj → Prop) =>
 dC [false] [t8] h fun lv h => aQ.L2 c J3 K (AV.norms h.length h lv) (cH h.length h) h.length (AV.norm h.length h c0) (AV.norm h.length h c1) (AV.norm h.length h c2) (AV.norm h.length h c3) (AV.norm h.length h t8))
 (fun t0 t1 t2 t3 t8 h => J2 t0 t1 t2 t3 t8 h))
 (fun t0 t1 t2 t3 t8 h => runD (binD aB .add t8 (.int .i64 1)) h fun t16 h =>
 (∃ m, m < n ∧ I m (AV.norms n0 h [t16]) (cH n0 h)) ∧ AV.norms n0 h [t0, t1, t2, t3] = [c0, c1, c2, c3]))
 (J1 h)
def aQ.H (c : Ctx) (t0 : AV) (t1 : AV) (t2 : AV) (t3 : AV) (h : List AObj) (K : AOut → List AObj → Prop) : Prop :=
 runD (binD aB .add t1 (.int .i64 1)) h fun t11 h =>
 aM (fun (J1 : List AObj → Prop) =>
 dC [false] [t11] h fun lv h => aQ.L1 c J1 K (AV.norms h.length h lv) (cH h.length h) h.length (AV.norm h.length h t0) (AV.norm h.length h t1) (AV.norm h.length h t2) (AV.norm h.length h t3))
 (fun h => K (.ret (.tup [])) h)
theorem aQ.eq (F : List (FuncId × aE)) (S : List (FuncId × Con)) (t0 t1 t2 t3 : AV) (h : List AObj) (K : AOut → List AObj → Prop) : funW (ctx F S aQ.loops) Tryz.f126 [t0, t1, t2, t3] h K = aQ.H (ctx F S aQ.loops) t0 t1 t2 t3 h K := by kernel_rfl
theorem aQ.at : Tryz.prog.funcs[126]? = some Tryz.f126 := by kernel_rfl
theorem aQ.nm : (Tryz.f126.name == "runtime.NumGoroutine") = false := by kernel_rfl
theorem aQ.bd : Tryz.f126.body.isNone = false := by kernel_rfl
end Lam
namespace Lam
open Go Go.Proofs
def bC.loops : Nat → bW
 | 4 => ⟨[11], [false], [0, 3, 8, 9, 10], [], [], []⟩
 | 8 => ⟨[12], [false], [0, 3, 8, 9], [], [], []⟩
 | _ => ⟨[], [], [], [], [], []⟩
def bC.L1 (c : Ctx) (J1 : AV → AV → AV → AV → AV → List AObj → Prop) (K : AOut → List AObj → Prop) (lv : List AV) (h0 : List AObj) (n0 : Nat) (c0 : AV) (c3 : AV) (c8 : AV) (c9 : AV) (c10 : AV) : Prop :=
 ∃ I : Nat → List AV → List AObj → Prop, (∃ n, I n lv h0) ∧ ∀ n h, ∀ t11, I n [t11] h →
 runD (binD aB .geq t11 (.int .i64 0)) h fun t21 h =>
 aU t21
 (aR false c (.fn (.func 142) [] []) [c0, t11, c10, c8, c3] h (fun t29 h =>
 runD (binD aB .sub t11 (.int .i64 1)) h fun t23 h =>
 (∃ m, m < n ∧ I m (AV.norms n0 h [t23]) (cH n0 h)) ∧ AV.norms n0 h [c0, c3, c8, c9, c10] = [c0, c3, c8, c9, c10])
 (fun v h => K (.pan v) h))
 (J1 c0 c3 c8 c9 c10 h)
def bC.L2 (c : Ctx) (J2 : List AObj → Prop) (K : AOut → List AObj → Prop) (lv : List AV) (h0 : List AObj) (n0 : Nat) (c0 : AV) (c3 : AV) (c8 : AV) (c9 : AV) : Prop :=
 ∃ I : Nat → List AV → List AObj → Prop, (∃ n, I n lv h0) ∧ ∀ n h, ∀ t12, I n [t12] h →
 runD (binD aB .geq t12 (.int .i64 0)) h fun t33 h =>
 aU t33
 (runD (binD aB .add c8 t12) h fun t41 h =>
 runD (binD aB .add c8 t12) h fun t45 h =>
 runD (aH aT h c0 t45) h fun t46 h =>
 runD (fitD aI (aD h t46)) h fun t47 h =>
 runD (aH aT h c0 c8) h fun t50 h =>
 runD (fitD aI (aD h t50)) h fun t51 h =>
 runD (aH aT h c0 c8) h fun t52 h =>
 runH (aP aI h t52 t47) h fun _ h =>
 runD (aH aT h c0 t41) h fun t53 h =>
 runH (aP aI h t53 t51) h fun _ h =>
 aR false c (.fn (.func 142) [] []) [c0, c9, t12, c8, c3] h (fun t59 h =>
 runD (binD aB .sub t12 (.int .i64 1)) h fun t35 h =>
 (∃ m, m < n ∧ I m (AV.norms n0 h [t35]) (cH n0 h)) ∧ AV.norms n0 h [c0, c3, c8, c9] = [c0, c3, c8, c9])
 (fun v h => K (.pan v) h))
 (J2 h)
def bC.H (c : Ctx) (t0 : AV) (t1 : AV) (t2 : AV) (t3 : AV) (h : List AObj) (K : AOut → List AObj → Prop) : Prop :=
 runD (binD aB .sub t2 t1) h fun t16 h =>
 runD (binD aB .sub t16 (.int .i64 1)) h fun t18 h =>
 runD (binD aB .quo t18 (.int .i64 2)) h fun t19 h =>
 aM (fun (J1 : AV → AV → AV → AV → AV → List AObj → Prop) =>
 dC [false] [t19] h fun lv h => bC.L1 c J1 K (AV.norms h.length h lv) (cH h.length h) h.length (AV.norm h.length h t0) (AV.norm h.length h t3) (AV.norm h.length h t1) (AV.norm h.length h (.int .i64 0)) (AV.norm h.length h t16))
 (fun t0 t3 t8 t9 t10 h => runD (binD aB .sub t10 (.int .i64 1)) h fun t31 h =>
 aM (fun (J2 : List AObj → Prop) =>
 dC [false] [t31] h fun lv h => bC.L2 c J2 K (AV.norms h.length h lv) (cH h.length h) h.length (AV.norm h.length h t0) (AV.norm h.length h t3) (AV.norm h.length h t8) (AV.norm h.length h t9))
 (fun h => K (.ret (.tup [])) h))
def aV.loops : Nat → bW
 | 5 => ⟨[11], [false], [0, 1, 8, 9, 10], [], [], []⟩
 | _ => ⟨[], [], [], [], [], []⟩
def aV.L1 (c : Ctx) (J2 : List AObj → Prop) (K : AOut → List AObj → Prop) (lv : List AV) (h0 : List AObj) (n0 : Nat) (c0 : AV) (c1 : AV) (c8 : AV) (c9 : AV) (c10 : AV) : Prop :=
 ∃ I : Nat → List AV → List AObj → Prop, (∃ n, I n lv h0) ∧ ∀ n h, ∀ t11, I n [t11] h →
 runD (binD aB .quo c8 (.int .i64 4)) h fun t31 h =>
 runD (binD aB .mul t31 (.int .i64 2)) h fun t32 h =>
 runD (binD aB .add c1 t32) h fun t33 h =>
 runD (binD aB .add t33 (.int .i64 1)) h fun t34 h =>
 runD (binD aB .leq t11 t34) h fun t35 h =>
 aU t35
 (aR false c (.fn (.func 144) [] []) [c9] h (fun t38 h =>
 runD (binD rS .sub c10 (.int .u64 1)) h fun t40 h =>
 runD (binD rS .and t38 t40) h fun t41 h =>
 runD (jL h rS aB t41) h fun t42 h =>
 runD (binD aB .geq t42 c8) h fun t45 h =>
 aM (fun (J3 : AV → List AObj → Prop) =>
 aU t45
 (runD (binD aB .sub t42 c8) h fun t48 h =>
 J3 t48 h)
 (J3 t42 h))
 (fun t12 h => runD (binD aB .add c1 t12) h fun t54 h =>
 runD (binD aB .add c1 t12) h fun t58 h =>
 runD (aH aT h c0 t58) h fun t59 h =>
 runD (fitD aI (aD h t59)) h fun t60 h =>
 runD (aH aT h c0 t11) h fun t63 h =>
 runD (fitD aI (aD h t63)) h fun t64 h =>
 runD (aH aT h c0 t11) h fun t65 h =>
 runH (aP aI h t65 t60) h fun _ h =>
 runD (aH aT h c0 t54) h fun t66 h =>
 runH (aP aI h t66 t64) h fun _ h =>
 runD (binD aB .add t11 (.int .i64 1)) h fun t37 h =>
 (∃ m, m < n ∧ I m (AV.norms n0 h [t37]) (cH n0 h)) ∧ AV.norms n0 h [c0, c1, c8, c9, c10] = [c0, c1, c8, c9, c10]))
 (fun v h => K (.pan v) h))
 (J2 h)
def aV.H (c : Ctx) (t0 : AV) (t1 : AV) (t2 : AV) (t3 : AV) (h : List AObj) (K : AOut → List AObj → Prop) : Prop :=
 runD (binD aB .sub t2 t1) h fun t15 h =>
 runD (binD aB .geq t15 (.int .i64 8)) h fun t17 h =>
 aM (fun (J1 : List AObj → Prop) =>
 aU t17
 (runD (jL h aB cZ t15) h fun t19 h =>
 cQ cZ h fun t9 h =>
 runH (aP cZ h t9 t19) h fun _ h =>
 aR false c (.fn (.func 143) [] []) [t15] h (fun t21 h =>
 runD (binD aB .quo t15 (.int .i64 4)) h fun t24 h =>
 runD (binD aB .mul t24 (.int .i64 2)) h fun t25 h =>
 runD (binD aB .add t1 t25) h fun t26 h =>
 runD (binD aB .sub t26 (.int .i64 1)) h fun t27 h =>
 aM (fun (J2 : List AObj → Prop) =>
 dC [false] [t27] h fun lv h => aV.L1 c J2 K (AV.norms h.length h lv) (cH h.length h) h.length (AV.norm h.length h t0) (AV.norm h.length h t1) (AV.norm h.length h t15) (AV.norm h.length h t9) (AV.norm h.length h t21))
 (fun h => J1 h))
 (fun v h => K (.pan v) h))
 (J1 h))
 (fun h => K (.ret (.tup [])) h)
def aY.loops : Nat → bW
 | 2 => ⟨[8, 9], [false, false], [0], [], [], []⟩
 | _ => ⟨[], [], [], [], [], []⟩
def aY.L1 (c : Ctx) (J1 : List AObj → Prop) (K : AOut → List AObj → Prop) (lv : List AV) (h0 : List AObj) (n0 : Nat) (c0 : AV) : Prop :=
 ∃ I : Nat → List AV → List AObj → Prop, (∃ n, I n lv h0) ∧ ∀ n h, ∀ t8, ∀ t9, I n [t8, t9] h →
 runD (binD aB .lss t8 t9) h fun t15 h =>
 aU t15
 (runD (aH aT h c0 t9) h fun t22 h =>
 runD (fitD aI (aD h t22)) h fun t23 h =>
 runD (aH aT h c0 t8) h fun t26 h =>
 runD (fitD aI (aD h t26)) h fun t27 h =>
 runD (aH aT h c0 t8) h fun t28 h =>
 runH (aP aI h t28 t23) h fun _ h =>
 runD (aH aT h c0 t9) h fun t29 h =>
 runH (aP aI h t29 t27) h fun _ h =>
 runD (binD aB .add t8 (.int .i64 1)) h fun t31 h =>
 runD (binD aB .sub t9 (.int .i64 1)) h fun t33 h =>
 (∃ m, m < n ∧ I m (AV.norms n0 h [t31, t33]) (cH n0 h)) ∧ AV.norms n0 h [c0] = [c0])
 (J1 h)
def aY.H (c : Ctx) (t0 : AV) (t1 : AV) (t2 : AV) (t3 : AV) (h : List AObj) (K : AOut → List AObj → Prop) : Prop :=
 runD (binD aB .sub t2 (.int .i64 1)) h fun t12 h =>
 aM (fun (J1 : List AObj → Prop) =>
 dC [false, false] [t1, t12] h fun lv h => aY.L1 c J1 K (AV.norms h.length h lv) (cH h.length h) h.length (AV.norm h.length h t0))
 (fun h => K (.ret (.tup [])) h)
def bG.loops : Nat → bW
 | 1 => ⟨[10], [false], [0, 2, 3, 4], [], [], []⟩
 | _ => ⟨[], [], [], [], [], []⟩
def bG.L1 (c : Ctx) (J1 : List AObj → Prop) (K : AOut → List AObj → Prop) (lv : List AV) (h0 : List AObj) (n0 : Nat) (c0 : AV) (c2 : AV) (c3 : AV) (c4 : AV) : Prop :=
 ∃ I : Nat → List AV → List AObj → Prop, (∃ n, I n lv h0) ∧ ∀ n h, ∀ t10, I n [t10] h →
 runD (binD aB .mul (.int .i64 2) t10) h fun t14 h =>
 runD (binD aB .add t14 (.int .i64 1)) h fun t15 h =>
 runD (binD aB .geq t15 c2) h fun t18 h =>
 aU t18
 (J1 h)
 (runD (binD aB .add t15 (.int .i64 1)) h fun t20 h =>
 runD (binD aB .lss t20 c2) h fun t22 h =>
 aM (fun (J2 : AV → AV → List AObj → Prop) =>
 aX t22 true
 (runD (binD aB .add c3 t15) h fun t28 h =>
 runD (aH aT h c0 t28) h fun t29 h =>
 runD (fitD aI (aD h t29)) h fun t30 h =>
 runD (binD aB .add c3 t15) h fun t34 h =>
 runD (binD aB .add t34 (.int .i64 1)) h fun t35 h =>
 runD (aH aT h c0 t35) h fun t36 h =>
 runD (fitD aI (aD h t36)) h fun t37 h =>
 aR false c.noS c4 [t30, t37] h (fun t38 h =>
 runD (binD aB .lss t38 (.int .i64 0)) h fun t39 h =>
 J2 (.bool true) t39 h)
 (fun _ _ => False))
 (J2 (.bool false) .und h))
 (fun t23 t39 h => runD (bO t23 t39 (.bool false)) h fun t40 h =>
 aM (fun (J3 : AV → List AObj → Prop) =>
 aU t40
 (runD (binD aB .add t15 (.int .i64 1)) h fun t42 h =>
 J3 t42 h)
 (J3 t15 h))
 (fun t11 h => runD (binD aB .add c3 t10) h fun t47 h =>
 runD (aH aT h c0 t47) h fun t48 h =>
 runD (fitD aI (aD h t48)) h fun t49 h =>
 runD (binD aB .add c3 t11) h fun t53 h =>
 runD (aH aT h c0 t53) h fun t54 h =>
 runD (fitD aI (aD h t54)) h fun t55 h =>
 aR false c.noS c4 [t49, t55] h (fun t56 h =>
 runD (binD aB .lss t56 (.int .i64 0)) h fun t57 h =>
 runD (unD .not t57) h fun t58 h =>
 aU t58
 (K (.ret (.tup [])) h)
 (runD (binD aB .add c3 t10) h fun t62 h =>
 runD (binD aB .add c3 t11) h fun t66 h =>
 runD (binD aB .add c3 t11) h fun t70 h =>
 runD (aH aT h c0 t70) h fun t71 h =>
 runD (fitD aI (aD h t71)) h fun t72 h =>
 runD (binD aB .add c3 t10) h fun t76 h =>
 runD (aH aT h c0 t76) h fun t77 h =>
 runD (fitD aI (aD h t77)) h fun t78 h =>
 runD (aH aT h c0 t62) h fun t79 h =>
 runH (aP aI h t79 t72) h fun _ h =>
 runD (aH aT h c0 t66) h fun t80 h =>
 runH (aP aI h t80 t78) h fun _ h =>
 (∃ m, m < n ∧ I m (AV.norms n0 h [t11]) (cH n0 h)) ∧ AV.norms n0 h [c0, c2, c3, c4] = [c0, c2, c3, c4]))
 (fun _ _ => False))))
def bG.H (c : Ctx) (t0 : AV) (t1 : AV) (t2 : AV) (t3 : AV) (t4 : AV) (h : List AObj) (K : AOut → List AObj → Prop) : Prop :=
 aM (fun (J1 : List AObj → Prop) =>
 dC [false] [t1] h fun lv h => bG.L1 c J1 K (AV.norms h.length h lv) (cH h.length h) h.length (AV.norm h.length h t0) (AV.norm h.length h t2) (AV.norm h.length h t3) (AV.norm h.length h t4))
 (fun h => K (.ret (.tup [])) h)
def cO.loops : Nat → bW
 | _ => ⟨[], [], [], [], [], []⟩
def cO.H (c : Ctx) (t0 : AV) (h : List AObj) (K : AOut → List AObj → Prop) : Prop :=
 runD (jL h aB rS t0) h fun t4 h =>
 aR false c (.fn (.func 120) [] []) [t4] h (fun t5 h =>
 runD (binD rS .shl (.int .u64 1) t5) h fun t6 h =>
 K (.ret t6) h)
 (fun v h => K (.pan v) h)
def cL.loops : Nat → bW
 | _ => ⟨[], [], [], [], [], []⟩
def cL.H (c : Ctx) (t0 : AV) (h : List AObj) (K : AOut → List AObj → Prop) : Prop :=
 runD (cV t0) h fun t4 h =>
 runD (fitD cZ (aD h t4)) h fun t5 h =>
 runD (cV t0) h fun t7 h =>
 runD (fitD cZ (aD h t7)) h fun t8 h =>
 runD (binD cZ .shl t8 (.int .u64 13)) h fun t9 h =>
 runD (binD cZ .xor t5 t9) h fun t10 h =>
 runD (cV t0) h fun t11 h =>
 runH (aP cZ h t11 t10) h fun _ h =>
 runD (cV t0) h fun t13 h =>
 runD (fitD cZ (aD h t13)) h fun t14 h =>
 runD (cV t0) h fun t16 h =>
 runD (fitD cZ (aD h t16)) h fun t17 h =>
 runD (binD cZ .shr t17 (.int .u64 7)) h fun t18 h =>
 runD (binD cZ .xor t14 t18) h fun t19 h =>
 runD (cV t0) h fun t20 h =>
 runH (aP cZ h t20 t19) h fun _ h =>
 runD (cV t0) h fun t22 h =>
 runD (fitD cZ (aD h t22)) h fun t23 h =>
 runD (cV t0) h fun t25 h =>
 runD (fitD cZ (aD h t25)) h fun t26 h =>
 runD (binD cZ .shl t26 (.int .u64 17)) h fun t27 h =>
 runD (binD cZ .xor t23 t27) h fun t28 h =>
 runD (cV t0) h fun t29 h =>
 runH (aP cZ h t29 t28) h fun _ h =>
 runD (cV t0) h fun t31 h =>
 runD (fitD cZ (aD h t31)) h fun t32 h =>
 K (.ret t32) h
def bB.loops : Nat → bW
 | _ => ⟨[], [], [], [], [], []⟩
def bB.H (c : Ctx) (t0 : AV) (t1 : AV) (t2 : AV) (t3 : AV) (h : List AObj) (K : AOut → List AObj → Prop) : Prop :=
 runD (binD aB .sub t1 (.int .i64 1)) h fun t11 h =>
 runD (binD aB .add t1 (.int .i64 1)) h fun t14 h =>
 aR false c (.fn (.func 146) [] []) [t0, t11, t1, t14, t2, t3] h (fun t17 h =>
 K (.ret t17) h)
 (fun v h => K (.pan v) h)
theorem bC.eq (F : List (FuncId × aE)) (S : List (FuncId × Con)) (t0 t1 t2 t3 : AV) (h : List AObj) (K : AOut → List AObj → Prop) : funW (ctx F S bC.loops) Tryz.f127 [t0, t1, t2, t3] h K = bC.H (ctx F S bC.loops) t0 t1 t2 t3 h K := by kernel_rfl
theorem aV.eq (F : List (FuncId × aE)) (S : List (FuncId × Con)) (t0 t1 t2 t3 : AV) (h : List AObj) (K : AOut → List AObj → Prop) : funW (ctx F S aV.loops) Tryz.f128 [t0, t1, t2, t3] h K = aV.H (ctx F S aV.loops) t0 t1 t2 t3 h K := by kernel_rfl
theorem aY.eq (F : List (FuncId × aE)) (S : List (FuncId × Con)) (t0 t1 t2 t3 : AV) (h : List AObj) (K : AOut → List AObj → Prop) : funW (ctx F S aY.loops) Tryz.f130 [t0, t1, t2, t3] h K = aY.H (ctx F S aY.loops) t0 t1 t2 t3 h K := by kernel_rfl
theorem bG.eq (F : List (FuncId × aE)) (S : List (FuncId × Con)) (t0 t1 t2 t3 t4 : AV) (h : List AObj) (K : AOut → List AObj → Prop) : funW (ctx F S bG.loops) Tryz.f142 [t0, t1, t2, t3, t4] h K = bG.H (ctx F S bG.loops) t0 t1 t2 t3 t4 h K := by kernel_rfl
theorem cO.eq (F : List (FuncId × aE)) (S : List (FuncId × Con)) (t0 : AV) (h : List AObj) (K : AOut → List AObj → Prop) : funW (ctx F S cO.loops) Tryz.f143 [t0] h K = cO.H (ctx F S cO.loops) t0 h K := by kernel_rfl
theorem cL.eq (F : List (FuncId × aE)) (S : List (FuncId × Con)) (t0 : AV) (h : List AObj) (K : AOut → List AObj → Prop) : funW (ctx F S cL.loops) Tryz.f144 [t0] h K = cL.H (ctx F S cL.loops) t0 h K := by kernel_rfl
theorem bB.eq (F : List (FuncId × aE)) (S : List (FuncId × Con)) (t0 t1 t2 t3 : AV) (h : List AObj) (K : AOut → List AObj → Prop) : funW (ctx F S bB.loops) Tryz.f145 [t0, t1, t2, t3] h K = bB.H (ctx F S bB.loops) t0 t1 t2 t3 h K := by kernel_rfl
theorem bC.at : Tryz.prog.funcs[127]? = some Tryz.f127 := by kernel_rfl
theorem bC.nm : (Tryz.f127.name == "runtime.NumGoroutine") = false := by kernel_rfl
theorem bC.bd : Tryz.f127.body.isNone = false := by kernel_rfl
theorem aV.at : Tryz.prog.funcs[128]? = some Tryz.f128 := by kernel_rfl
theorem aV.nm : (Tryz.f128.name == "runtime.NumGoroutine") = false := by kernel_rfl
theorem aV.bd : Tryz.f128.body.isNone = false := by kernel_rfl
theorem aY.at : Tryz.prog.funcs[130]? = some Tryz.f130 := by kernel_rfl
theorem aY.nm : (Tryz.f130.name == "runtime.NumGoroutine") = false := by kernel_rfl
theorem aY.bd : Tryz.f130.body.isNone = false := by kernel_rfl
theorem bG.at : Tryz.prog.funcs[142]? = some Tryz.f142 := by kernel_rfl
theorem bG.nm : (Tryz.f142.name == "runtime.NumGoroutine") = false := by kernel_rfl
theorem bG.bd : Tryz.f142.body.isNone = false := by kernel_rfl
theorem cO.at : Tryz.prog.funcs[143]? = some Tryz.f143 := by kernel_rfl
theorem cO.nm : (Tryz.f143.name == "runtime.NumGoroutine") = false := by kernel_rfl
theorem cO.bd : Tryz.f143.body.isNone = false := by kernel_rfl
theorem cL.at : Tryz.prog.funcs[144]? = some Tryz.f144 := by kernel_rfl
theorem cL.nm : (Tryz.f144.name == "runtime.NumGoroutine") = false := by kernel_rfl
theorem cL.bd : Tryz.f144.body.isNone = false := by kernel_rfl
theorem bB.at : Tryz.prog.funcs[145]? = some Tryz.f145 := by kernel_rfl
theorem bB.nm : (Tryz.f145.name == "runtime.NumGoroutine") = false := by kernel_rfl
theorem bB.bd : Tryz.f145.body.isNone = false := by kernel_rfl
end Lam
namespace Lam
open Go Go.Proofs
def cW.loops : Nat → bW
 | _ => ⟨[], [], [], [], [], []⟩
def cW.H (c : Ctx) (t0 : AV) (t1 : AV) (h : List AObj) (K : AOut → List AObj → Prop) : Prop :=
 aR false c (.fn (.func 121) [] []) [t0] h (fun t8 h =>
 aR false c (.fn (.func 121) [] []) [t1] h (fun t10 h =>
 aU t8
 (aU t10
 (K (.ret (.int .i64 0)) h)
 (K (.ret (.int .i64 (-1))) h))
 (aU t10
 (K (.ret (.int .i64 1)) h)
 (runD (binD bT .lss t0 t1) h fun t16 h =>
 aU t16
 (K (.ret (.int .i64 (-1))) h)
 (runD (binD bT .gtr t0 t1) h fun t19 h =>
 aU t19
 (K (.ret (.int .i64 1)) h)
 (K (.ret (.int .i64 0)) h)))))
 (fun v h => K (.pan v) h))
 (fun v h => K (.pan v) h)
def dI.loops : Nat → bW
 | _ => ⟨[], [], [], [], [], []⟩
def dI.H (c : Ctx) (t0 : AV) (h : List AObj) (K : AOut → List AObj → Prop) : Prop :=
 runD (binD bT .neq t0 t0) h fun t5 h =>
 K (.ret t5) h
theorem cW.eq (F : List (FuncId × aE)) (S : List (FuncId × Con)) (t0 t1 : AV) (h : List AObj) (K : AOut → List AObj → Prop) : funW (ctx F S cW.loops) Tryz.f110 [t0, t1] h K = cW.H (ctx F S cW.loops) t0 t1 h K := by kernel_rfl
theorem dI.eq (F : List (FuncId × aE)) (S : List (FuncId × Con)) (t0 : AV) (h : List AObj) (K : AOut → List AObj → Prop) : funW (ctx F S dI.loops) Tryz.f121 [t0] h K = dI.H (ctx F S dI.loops) t0 h K := by kernel_rfl
theorem cW.at : Tryz.prog.funcs[110]? = some Tryz.f110 := by kernel_rfl
theorem cW.nm : (Tryz.f110.name == "runtime.NumGoroutine") = false := by kernel_rfl
theorem cW.bd : Tryz.f110.body.isNone = false := by kernel_rfl
theorem dI.at : Tryz.prog.funcs[121]? = some Tryz.f121 := by kernel_rfl
theorem dI.nm : (Tryz.f121.name == "runtime.NumGoroutine") = false := by kernel_rfl
theorem dI.bd : Tryz.f121.body.isNone = false := by kernel_rfl
end Lam
namespace Lam
open Go Go.Proofs
def dJ.loops : Nat → bW
 | _ => ⟨[], [], [], [], [], []⟩
def dJ.H (c : Ctx) (t0 : AV) (h : List AObj) (K : AOut → List AObj → Prop) : Prop :=
 aU (.bool false)
 (runD (jL h rS kD t0) h fun t4 h =>
 aR false c (.fn (.func 134) [] []) [t4] h (fun t5 h =>
 K (.ret t5) h)
 (fun v h => K (.pan v) h))
 (aR false c (.fn (.func 135) [] []) [t0] h (fun t7 h =>
 K (.ret t7) h)
 (fun v h => K (.pan v) h))
def dR.loops : Nat → bW
 | _ => ⟨[], [], [], [], [], []⟩
def dR.H (c : Ctx) (t0 : AV) (h : List AObj) (K : AOut → List AObj → Prop) : Prop :=
 runD (binD lJ .geq t0 (.int .u64 4294967296)) h fun t4 h =>
 aM (fun (J1 : AV → AV → List AObj → Prop) =>
 aU t4
 (runD (binD lJ .shr t0 (.int .u64 32)) h fun t6 h =>
 J1 t6 (.int .i64 32) h)
 (J1 t0 (.int .i64 0) h))
 (fun t0 t2 h => runD (binD lJ .geq t0 (.int .u64 65536)) h fun t8 h =>
 aM (fun (J2 : AV → AV → List AObj → Prop) =>
 aU t8
 (runD (binD lJ .shr t0 (.int .u64 16)) h fun t10 h =>
 runD (binD aB .add t2 (.int .i64 16)) h fun t12 h =>
 J2 t10 t12 h)
 (J2 t0 t2 h))
 (fun t0 t2 h => runD (binD lJ .geq t0 (.int .u64 256)) h fun t14 h =>
 aM (fun (J3 : AV → AV → List AObj → Prop) =>
 aU t14
 (runD (binD lJ .shr t0 (.int .u64 8)) h fun t16 h =>
 runD (binD aB .add t2 (.int .i64 8)) h fun t18 h =>
 J3 t16 t18 h)
 (J3 t0 t2 h))
 (fun t0 t2 h => runD (jL h lJ nD t0) h fun t21 h =>
 runD (sV bT (.str [0, 1, 2, 2, 3, 3, 3, 3, 4, 4, 4, 4, 4, 4, 4, 4, 5, 5, 5, 5, 5, 5, 5, 5, 5, 5, 5, 5, 5, 5, 5, 5, 6, 6, 6, 6, 6, 6, 6, 6, 6, 6, 6, 6, 6, 6, 6, 6, 6, 6, 6, 6, 6, 6, 6, 6, 6, 6, 6, 6, 6, 6, 6, 6, 7, 7, 7, 7, 7, 7, 7, 7, 7, 7, 7, 7, 7, 7, 7, 7, 7, 7, 7, 7, 7, 7, 7, 7, 7, 7, 7, 7, 7, 7, 7, 7, 7, 7, 7, 7, 7, 7, 7, 7, 7, 7, 7, 7, 7, 7, 7, 7, 7, 7, 7, 7, 7, 7, 7, 7, 7, 7, 7, 7, 7, 7, 7, 7, 8, 8, 8, 8, 8, 8, 8, 8, 8, 8, 8, 8, 8, 8, 8, 8, 8, 8, 8, 8, 8, 8, 8, 8, 8, 8, 8, 8, 8, 8, 8, 8, 8, 8, 8, 8, 8, 8, 8, 8, 8, 8, 8, 8, 8, 8, 8, 8, 8, 8, 8, 8, 8, 8, 8, 8, 8, 8, 8, 8, 8, 8, 8, 8, 8, 8, 8, 8, 8, 8, 8, 8, 8, 8, 8, 8, 8, 8, 8, 8, 8, 8, 8, 8, 8, 8, 8, 8, 8, 8, 8, 8, 8, 8, 8, 8, 8, 8, 8, 8, 8, 8, 8, 8, 8, 8, 8, 8, 8, 8, 8, 8, 8, 8, 8, 8, 8, 8, 8, 8, 8, 8, 8, 8, 8, 8, 8, 8]) t21) h fun t22 h =>
 runD (jL h nD aB t22) h fun t23 h =>
 runD (binD aB .add t2 t23) h fun t24 h =>
 K (.ret t24) h)))
theorem dJ.eq (F : List (FuncId × aE)) (S : List (FuncId × Con)) (t0 : AV) (h : List AObj) (K : AOut → List AObj → Prop) : funW (ctx F S dJ.loops) Tryz.f120 [t0] h K = dJ.H (ctx F S dJ.loops) t0 h K := by kernel_rfl
theorem dR.eq (F : List (FuncId × aE)) (S : List (FuncId × Con)) (t0 : AV) (h : List AObj) (K : AOut → List AObj → Prop) : funW (ctx F S dR.loops) Tryz.f135 [t0] h K = dR.H (ctx F S dR.loops) t0 h K := by kernel_rfl
theorem dJ.at : Tryz.prog.funcs[120]? = some Tryz.f120 := by kernel_rfl
theorem dJ.nm : (Tryz.f120.name == "runtime.NumGoroutine") = false := by kernel_rfl
theorem dJ.bd : Tryz.f120.body.isNone = false := by kernel_rfl
theorem dR.at : Tryz.prog.funcs[135]? = some Tryz.f135 := by kernel_rfl
theorem dR.nm : (Tryz.f135.name == "runtime.NumGoroutine") = false := by kernel_rfl
theorem dR.bd : Tryz.f135.body.isNone = false := by kernel_rfl
end Lam
