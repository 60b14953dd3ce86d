/- What functions of the program come to, each proved from its code. -/
import Derived.Test.YtdnhjeoacanbcacLm6
namespace Lam
open Go Go.Proofs
set_option linter.unusedVariables false
def lamplighterref06_Plain.loops : Nat → LInfo
  | 3 => ⟨[3, 4], [true, false], [0], [], [], []⟩
  | _ => ⟨[], [], [], [], [], []⟩
def lamplighterref06_Plain.L1 (c : Ctx) (J1 : AV → List AObj → Prop) (K : AOut → List AObj → Prop) (lv : List AV) (h0 : List AObj) (n0 : Nat) (c0 : AV) : Prop :=
  ∃ I : Nat → List AV → List AObj → Prop, (∃ n, I n lv h0) ∧ ∀ n h, ∀ t3, ∀ t4, I n [t3, t4] h →
    runD (lenD T_sl_int h c0) h fun t7 h =>
    runD (binD T_int .lss t4 t7) h fun t8 h =>
    condW t8
    (runD (binD T_int .eql t4 (.int .i64 0)) h fun t12 h =>
    joinW (fun (J2 : AV → AV → List AObj → Prop) =>
    guardW t12 false
    (runD (indexAddrD T_sl_int h c0 t4) h fun t16 h =>
      runD (fitD T_int (loadD h t16)) h fun t17 h =>
      runD (binD T_int .sub t4 (.int .i64 1)) h fun t20 h =>
      runD (indexAddrD T_sl_int h c0 t20) h fun t21 h =>
      runD (fitD T_int (loadD h t21)) h fun t22 h =>
      runD (binD T_int .neq t17 t22) h fun t23 h =>
      J2 (.bool false) t23 h)
    (J2 (.bool true) .und h))
    (fun t13 t23 h => runD (pickD t13 (.bool true) t23) h fun t24 h =>
    joinW (fun (J3 : AV → List AObj → Prop) =>
    condW t24
    (runD (indexAddrD T_sl_int h c0 t4) h fun t28 h =>
      runD (fitD T_int (loadD h t28)) h fun t29 h =>
      runD (buildSliceD T_sl_int 1 [(0, t29)] h.length) h fun t30 h =>
      runDM (appendD T_sl_int h t3 t30 h.length) (appendH T_sl_int h t3 t30) h fun t31 h =>
      J3 t31 h)
    (J3 t3 h))
    (fun t3 h => runD (binD T_int .add t4 (.int .i64 1)) h fun t10 h =>
    (∃ m, m < n ∧ I m (AV.norms n0 h [t3, t10]) (normH n0 h)) ∧ AV.norms n0 h [c0] = [c0])))
    (J1 t3 h)
def lamplighterref06_Plain.H (c : Ctx) (t0 : AV) (h : List AObj) (K : AOut → List AObj → Prop) : Prop :=
  joinW (fun (J1 : AV → List AObj → Prop) =>
  promV [true, false] [(.sl true (.ints .i64 [])), (.int .i64 0)] h fun lv h => lamplighterref06_Plain.L1 c J1 K (AV.norms h.length h lv) (normH h.length h) h.length (AV.norm h.length h t0))
  (fun t3 h => K (.ret t3) h)
def lamplighterref06_Without.loops : Nat → LInfo
  | _ => ⟨[], [], [], [], [], []⟩
def lamplighterref06_Without.H (c : Ctx) (t0 : AV) (t1 : AV) (h : List AObj) (K : AOut → List AObj → Prop) : Prop :=
  runD (buildSliceD T_sl_int 0 [] h.length) h fun t5 h =>
  runD (sliceD T_sl_int h t0 none (some t1) none) h fun t8 h =>
  runDM (appendD T_sl_int h t5 t8 h.length) (appendH T_sl_int h t5 t8) h fun t9 h =>
  runD (binD T_int .add t1 (.int .i64 1)) h fun t12 h =>
  runD (sliceD T_sl_int h t0 (some t12) none none) h fun t13 h =>
  runDM (appendD T_sl_int h t9 t13 h.length) (appendH T_sl_int h t9 t13) h fun t14 h =>
  sepB t5 [t0, t12] = true ∧ K (.ret t14) h
def lamplighterref06_With.loops : Nat → LInfo
  | _ => ⟨[], [], [], [], [], []⟩
def lamplighterref06_With.H (c : Ctx) (t0 : AV) (t1 : AV) (t2 : AV) (h : List AObj) (K : AOut → List AObj → Prop) : Prop :=
  runD (buildSliceD T_sl_int 0 [] h.length) h fun t8 h =>
  runD (sliceD T_sl_int h t0 none (some t1) none) h fun t11 h =>
  runDM (appendD T_sl_int h t8 t11 h.length) (appendH T_sl_int h t8 t11) h fun t12 h =>
  runD (buildSliceD T_sl_int 1 [(0, t2)] h.length) h fun t15 h =>
  runDM (appendD T_sl_int h t12 t15 h.length) (appendH T_sl_int h t12 t15) h fun t16 h =>
  runD (sliceD T_sl_int h t0 (some t1) none none) h fun t20 h =>
  runDM (appendD T_sl_int h t16 t20 h.length) (appendH T_sl_int h t16 t20) h fun t21 h =>
  K (.ret t21) h
theorem lamplighterref06_Plain.eq (F : List (FuncId × Contract)) (S : List (FuncId × Con)) (t0 : AV) (h : List AObj) (K : AOut → List AObj → Prop) : funW (ctx F S lamplighterref06_Plain.loops) Try.f36 [t0] h K = lamplighterref06_Plain.H (ctx F S lamplighterref06_Plain.loops) t0 h K := by kernel_rfl
theorem lamplighterref06_Without.eq (F : List (FuncId × Contract)) (S : List (FuncId × Con)) (t0 t1 : AV) (h : List AObj) (K : AOut → List AObj → Prop) : funW (ctx F S lamplighterref06_Without.loops) Try.f43 [t0, t1] h K = lamplighterref06_Without.H (ctx F S lamplighterref06_Without.loops) t0 t1 h K := by kernel_rfl
theorem lamplighterref06_With.eq (F : List (FuncId × Contract)) (S : List (FuncId × Con)) (t0 t1 t2 : AV) (h : List AObj) (K : AOut → List AObj → Prop) : funW (ctx F S lamplighterref06_With.loops) Try.f45 [t0, t1, t2] h K = lamplighterref06_With.H (ctx F S lamplighterref06_With.loops) t0 t1 t2 h K := by kernel_rfl
theorem lamplighterref06_Plain.at : Try.prog.funcs[36]? = some Try.f36 := by kernel_rfl
theorem lamplighterref06_Plain.nm : (Try.f36.name == "runtime.NumGoroutine") = false := by kernel_rfl
theorem lamplighterref06_Plain.bd : Try.f36.body.isNone = false := by kernel_rfl
end Lam
namespace Lam
open Go Go.Proofs
set_option linter.unusedVariables false
set_option linter.unnecessarySimpa false
set_option linter.unusedSimpArgs false
def lamplighterref06_Plain.C : Contract
  | [.sl _ (.ints .i64 l)] => some (false, pD (roomy l.length) (.sl false (.ints .i64 (plain l))))
  | _ => none
set_option maxRecDepth 20000 in
theorem lamplighterref06_Plain.spec : FSpec Try.prog 36 lamplighterref06_Plain.C := by
  refine FSpec.of (ctx_ok (F := []) (S := []) (by simp) (by simp) lamplighterref06_Plain.loops) lamplighterref06_Plain.at lamplighterref06_Plain.nm lamplighterref06_Plain.bd ?_
  intro vs b S v news e hS
  unfold lamplighterref06_Plain.C at e
  split at e
  rotate_left
  · cases e
  cases e
  rw [lamplighterref06_Plain.eq]
  unfold lamplighterref06_Plain.H
  simp (maxSteps := 4000000) only [go_sem, Nat.reduceEqDiff, Nat.reduceLT, Nat.reduceAdd, Nat.reduceSub, Nat.reduceLeDiff, List.reduceReplicate, Int.reduceToNat]
  rename_i _ l
  have hr := hS
  unfold roomy at hr
  rw [joinW_eq]
  unfold lamplighterref06_Plain.L1
  refine loop2 (σ := Nat) (fun k => .sref false 0 (plain (l.take k)).length 0 (plain (l.take k)).length) (fun k => .int .i64 k) (fun k => [.row .own (plain (l.take k)).length (.ints .i64 (plain (l.take k)))]) (fun k => l.length - k) (fun k => k ≤ l.length) 0 rfl rfl (Nat.zero_le _) ?_
  intro I back k hk
  by_cases hlt : k < l.length
  · have hb : ∀ (n : Nat) (lv : List AV) (h : List AObj), _ := fun n lv h => @back n lv h (k + 1)
    have hpl := plain_len (l.take k)
    rw [List.length_take] at hpl
    have d0 : decide ((k : Int) < (l.length : Int)) = true := decide_eq_true (by omega)
    by_cases hk0 : k = 0
    · subst hk0
      rw [plain_take1 hlt] at hb
      simp only [joinW_eq, List.take_zero, plain, joinW_eq, guard_tt, guard_tf, guard_ft, guard_ff, Int.reduceEq, Int.reduceLT, Int.reduceLE, decide_false, decide_true, Bool.not_false, Bool.not_true, Bool.not_not, not_true_eq_false, not_false_eq_true, true_implies, false_implies, implies_true, and_true, true_and, reduceCtorEq, Bool.and_self, Bool.or_self, Bool.and_true, Bool.true_and, Bool.false_eq_true, if_true, if_false, go_sem, Nat.reduceEqDiff, Nat.reduceLT, Nat.reduceAdd, Nat.reduceSub, Nat.reduceLeDiff, List.reduceReplicate, Int.reduceToNat]
      exact ⟨fun _ => ⟨by omega, by unfold roomy; omega, hb _ _ _ (by omega) (by rw [show IntKind.i64.wrap (0 + 1) = ((0 + 1 : Nat) : Int) from by decide +kernel]; rfl) rfl (by omega)⟩, fun h => absurd h (by omega)⟩
    · have hk1 : decide ((k : Int) = 0) = false := decide_eq_false (by omega)
      have e1 : IntKind.i64.wrap ((k : Int) - 1) = ((k - 1 : Nat) : Int) := by rw [w64 (by omega) (by omega)]; omega
      rw [plain_take (by omega) hlt] at hb
      generalize plain (l.take k) = out at *
      by_cases he : l.getD k 0 = l.getD (k - 1) 0
      · rw [if_pos he] at hb
        simp only [joinW_eq, hk1, e1, he, Int.toNat_natCast, joinW_eq, guard_tt, guard_tf, guard_ft, guard_ff, Int.reduceEq, Int.reduceLT, Int.reduceLE, decide_false, decide_true, Bool.not_false, Bool.not_true, Bool.not_not, not_true_eq_false, not_false_eq_true, true_implies, false_implies, implies_true, and_true, true_and, reduceCtorEq, Bool.and_self, Bool.or_self, Bool.and_true, Bool.true_and, Bool.false_eq_true, if_true, if_false, go_sem, Nat.reduceEqDiff, Nat.reduceLT, Nat.reduceAdd, Nat.reduceSub, Nat.reduceLeDiff, List.reduceReplicate, Int.reduceToNat]
        exact ⟨fun _ => ⟨⟨by omega, by omega⟩, ⟨by omega, by omega⟩, hb _ _ _ (by omega) (by rw [wnext (by omega)]) rfl (by omega)⟩, fun h => absurd h (by omega)⟩
      · rw [if_neg he] at hb
        have hl1 : (out ++ [l.getD k 0]).length = out.length + 1 := by simp
        simp only [joinW_eq, hk1, e1, he, Int.toNat_natCast, joinW_eq, guard_tt, guard_tf, guard_ft, guard_ff, Int.reduceEq, Int.reduceLT, Int.reduceLE, decide_false, decide_true, Bool.not_false, Bool.not_true, Bool.not_not, not_true_eq_false, not_false_eq_true, true_implies, false_implies, implies_true, and_true, true_and, reduceCtorEq, Bool.and_self, Bool.or_self, Bool.and_true, Bool.true_and, Bool.false_eq_true, if_true, if_false, go_sem, Nat.reduceEqDiff, Nat.reduceLT, Nat.reduceAdd, Nat.reduceSub, Nat.reduceLeDiff, List.reduceReplicate, Int.reduceToNat]
        exact ⟨fun _ => ⟨⟨by omega, by omega⟩, ⟨by omega, by omega⟩, ⟨by omega, by omega⟩, by rw [hl1]; unfold roomy; omega, hb _ _ _ (by omega) (by rw [wnext (by omega), hl1]) (by rw [hl1]) (by omega)⟩, fun h => absurd h (by omega)⟩
  · obtain rfl : k = l.length := by omega
    simp only [joinW_eq, guard_tt, guard_tf, guard_ft, guard_ff, Int.reduceEq, Int.reduceLT, Int.reduceLE, decide_false, decide_true, Bool.not_false, Bool.not_true, Bool.not_not, not_true_eq_false, not_false_eq_true, true_implies, false_implies, implies_true, and_true, true_and, reduceCtorEq, Bool.and_self, Bool.or_self, Bool.and_true, Bool.true_and, Bool.false_eq_true, if_true, if_false, go_sem, Nat.reduceEqDiff, Nat.reduceLT, Nat.reduceAdd, Nat.reduceSub, Nat.reduceLeDiff, List.reduceReplicate, Int.reduceToNat]
    refine ⟨fun h => absurd h (by omega), fun _ => ?_⟩
    refine post_val ?_ rfl
    simp only [List.take_length, go_sem, Nat.reduceEqDiff, Nat.reduceLT, Nat.reduceAdd, Nat.reduceSub, Nat.reduceLeDiff, List.reduceReplicate, Int.reduceToNat]
end Lam
namespace Lam
open Go Go.Proofs
set_option linter.unusedVariables false
def lamplighterref13_Begin.loops : Nat → LInfo
  | 2 => ⟨[], [], [], [(3, none), (2, some [17, 19])], [], []⟩
  | _ => ⟨[], [], [], [], [], []⟩
def lamplighterref13_Begin.H (c : Ctx) (t0 : AV) (t1 : AV) (h : List AObj) (K : AOut → List AObj → Prop) : Prop :=
  allocW T_api_Seek h fun t4 h =>
  callW false c (.fn (.func 62) [] []) [t0, t1] h (fun t12 h =>
  runD (extractD t12 0) h fun t13 h =>
  runD (extractD t12 1) h fun t14 h =>
  allocW T_api_Node h fun t6 h =>
  runH (storeH T_api_Node h t6 t13) h fun _ h =>
  runD (binD T_api_Errno .neq t14 (.int .i64 0)) h fun t16 h =>
  joinW (fun (J1 : AV → AV → List AObj → Prop) =>
  guardW t16 false
  (runD (binD T_int .gtr t1 (.int .i64 255)) h fun t19 h =>
    J1 (.bool false) t19 h)
  (J1 (.bool true) .und h))
  (fun t17 t19 h => runD (pickD t17 (.bool true) t19) h fun t20 h =>
  condW t20
  (runD (buildD T_api_Seek []) h fun t21 h =>
    runH (storeH T_api_Seek h t4 t21) h fun _ h =>
    loadRes (fitD T_api_Seek (loadD h t4)) fun r0 => K (.ret (.tup [r0, (.int .i64 90)])) h)
  (runD (fieldAddrD T_api_Node t6 1) h fun t23 h =>
  runD (fitD T_int (loadD h t23)) h fun t24 h =>
  runD (buildD T_api_Seek [(0, t1), (1, t24)]) h fun t25 h =>
  allocW T_api_Seek h fun t8 h =>
  runH (storeH T_api_Seek h t8 t25) h fun _ h =>
  runD (fieldAddrD T_api_Node t6 1) h fun t26 h =>
  runD (fitD T_int (loadD h t26)) h fun t27 h =>
  runD (binD T_int .rem t27 (.int .i64 2)) h fun t28 h =>
  runD (binD T_int .eql t28 (.int .i64 1)) h fun t29 h =>
  joinW (fun (J2 : List AObj → Prop) =>
  condW t29
  (runD (fieldAddrD T_api_Seek t8 2) h fun t30 h =>
    runH (storeH T_int h t30 (.int .i64 12)) h fun _ h =>
    J2 h)
  (J2 h))
  (fun h => runD (fitD T_api_Seek (loadD h t8)) h fun t31 h =>
  runH (storeH T_api_Seek h t4 t31) h fun _ h =>
  loadRes (fitD T_api_Seek (loadD h t4)) fun r0 => K (.ret (.tup [r0, (.int .i64 0)])) h))))
  (fun v h => K (.pan v) h)
def lamplighterref13_Same.loops : Nat → LInfo
  | 1 => ⟨[], [], [], [(6, none), (5, some [10, 15]), (2, none), (5, some [17, 22]), (2, none), (5, some [24, 29]), (2, none), (5, some [31, 36])], [], []⟩
  | _ => ⟨[], [], [], [], [], []⟩
def lamplighterref13_Same.H (c : Ctx) (t0 : AV) (t1 : AV) (h : List AObj) (K : AOut → List AObj → Prop) : Prop :=
  boxW T_api_Seek t0 h fun t2 h =>
  boxW T_api_Seek t1 h fun t3 h =>
  runD (fieldAddrD T_api_Seek t2 0) h fun t5 h =>
  runD (fitD T_int (loadD h t5)) h fun t6 h =>
  runD (fieldAddrD T_api_Seek t3 0) h fun t7 h =>
  runD (fitD T_int (loadD h t7)) h fun t8 h =>
  runD (binD T_int .eql t6 t8) h fun t9 h =>
  joinW (fun (J1 : AV → AV → List AObj → Prop) =>
  guardW t9 true
  (runD (fieldAddrD T_api_Seek t2 1) h fun t11 h =>
    runD (fitD T_int (loadD h t11)) h fun t12 h =>
    runD (fieldAddrD T_api_Seek t3 1) h fun t13 h =>
    runD (fitD T_int (loadD h t13)) h fun t14 h =>
    runD (binD T_int .eql t12 t14) h fun t15 h =>
    J1 (.bool true) t15 h)
  (J1 (.bool false) .und h))
  (fun t10 t15 h => runD (pickD t10 t15 (.bool false)) h fun t16 h =>
  joinW (fun (J2 : AV → AV → List AObj → Prop) =>
  guardW t16 true
  (runD (fieldAddrD T_api_Seek t2 2) h fun t18 h =>
    runD (fitD T_int (loadD h t18)) h fun t19 h =>
    runD (fieldAddrD T_api_Seek t3 2) h fun t20 h =>
    runD (fitD T_int (loadD h t20)) h fun t21 h =>
    runD (binD T_int .eql t19 t21) h fun t22 h =>
    J2 (.bool true) t22 h)
  (J2 (.bool false) .und h))
  (fun t17 t22 h => runD (pickD t17 t22 (.bool false)) h fun t23 h =>
  joinW (fun (J3 : AV → AV → List AObj → Prop) =>
  guardW t23 true
  (runD (fieldAddrD T_api_Seek t2 4) h fun t25 h =>
    runD (fitD T_bool (loadD h t25)) h fun t26 h =>
    runD (fieldAddrD T_api_Seek t3 4) h fun t27 h =>
    runD (fitD T_bool (loadD h t27)) h fun t28 h =>
    runD (binD T_bool .eql t26 t28) h fun t29 h =>
    J3 (.bool true) t29 h)
  (J3 (.bool false) .und h))
  (fun t24 t29 h => runD (pickD t24 t29 (.bool false)) h fun t30 h =>
  joinW (fun (J4 : AV → AV → List AObj → Prop) =>
  guardW t30 true
  (runD (fieldAddrD T_api_Seek t2 3) h fun t32 h =>
    runD (fitD T_sl_int (loadD h t32)) h fun t33 h =>
    runD (fieldAddrD T_api_Seek t3 3) h fun t34 h =>
    runD (fitD T_sl_int (loadD h t34)) h fun t35 h =>
    callW false c (.fn (.func 20) [] []) [t33, t35] h (fun t36 h =>
    J4 (.bool true) t36 h)
    (fun v h => K (.pan v) h))
  (J4 (.bool false) .und h))
  (fun t31 t36 h => runD (pickD t31 t36 (.bool false)) h fun t37 h =>
  K (.ret t37) h))))
def lamplighterref13_Step.loops : Nat → LInfo
  | 1 => ⟨[], [], [], [(3, none), (3, some [10, 13]), (2, none), (3, some [15, 18]), (2, none), (7, some [20, 27]), (2, none), (3, some [29, 32]), (2, none), (3, some [34, 37])], [], []⟩
  | 6 => ⟨[], [], [], [(3, none), (16, some [67, 83])], [], []⟩
  | 8 => ⟨[], [], [], [(2, none), (3, some [92, 95]), (2, none), (11, some [97, 108])], [], []⟩
  | _ => ⟨[], [], [], [], [], []⟩
def lamplighterref13_Step.H (c : Ctx) (t0 : AV) (t1 : AV) (h : List AObj) (K : AOut → List AObj → Prop) : Prop :=
  boxW T_api_Seek t1 h fun t3 h =>
  allocW T_api_Seek h fun t4 h =>
  runD (fieldAddrD T_api_Seek t3 4) h fun t8 h =>
  runD (fitD T_bool (loadD h t8)) h fun t9 h =>
  joinW (fun (J1 : AV → AV → List AObj → Prop) =>
  guardW t9 false
  (runD (fieldAddrD T_api_Seek t3 0) h fun t11 h =>
    runD (fitD T_int (loadD h t11)) h fun t12 h =>
    runD (binD T_int .lss t12 (.int .i64 0)) h fun t13 h =>
    J1 (.bool false) t13 h)
  (J1 (.bool true) .und h))
  (fun t10 t13 h => runD (pickD t10 (.bool true) t13) h fun t14 h =>
  joinW (fun (J2 : AV → AV → List AObj → Prop) =>
  guardW t14 false
  (runD (fieldAddrD T_api_Seek t3 0) h fun t16 h =>
    runD (fitD T_int (loadD h t16)) h fun t17 h =>
    runD (binD T_int .gtr t17 (.int .i64 255)) h fun t18 h =>
    J2 (.bool false) t18 h)
  (J2 (.bool true) .und h))
  (fun t15 t18 h => runD (pickD t15 (.bool true) t18) h fun t19 h =>
  joinW (fun (J3 : AV → AV → List AObj → Prop) =>
  guardW t19 false
  (runD (fieldAddrD T_api_Seek t3 0) h fun t21 h =>
    runD (fitD T_int (loadD h t21)) h fun t22 h =>
    runD (binD T_int .mul (.int .i64 16) t22) h fun t23 h =>
    runD (binD T_int .add t23 (.int .i64 16)) h fun t24 h =>
    runD (lenD T_sl_int h t0) h fun t26 h =>
    runD (binD T_int .gtr t24 t26) h fun t27 h =>
    J3 (.bool false) t27 h)
  (J3 (.bool true) .und h))
  (fun t20 t27 h => runD (pickD t20 (.bool true) t27) h fun t28 h =>
  joinW (fun (J4 : AV → AV → List AObj → Prop) =>
  guardW t28 false
  (runD (fieldAddrD T_api_Seek t3 2) h fun t30 h =>
    runD (fitD T_int (loadD h t30)) h fun t31 h =>
    runD (binD T_int .lss t31 (.int .i64 0)) h fun t32 h =>
    J4 (.bool false) t32 h)
  (J4 (.bool true) .und h))
  (fun t29 t32 h => runD (pickD t29 (.bool true) t32) h fun t33 h =>
  joinW (fun (J5 : AV → AV → List AObj → Prop) =>
  guardW t33 false
  (runD (fieldAddrD T_api_Seek t3 2) h fun t35 h =>
    runD (fitD T_int (loadD h t35)) h fun t36 h =>
    runD (binD T_int .gtr t36 (.int .i64 12)) h fun t37 h =>
    J5 (.bool false) t37 h)
  (J5 (.bool true) .und h))
  (fun t34 t37 h => runD (pickD t34 (.bool true) t37) h fun t38 h =>
  condW t38
  (runD (fitD T_api_Seek (loadD h t3)) h fun t39 h =>
    runH (storeH T_api_Seek h t4 t39) h fun _ h =>
    loadRes (fitD T_api_Seek (loadD h t4)) fun r0 => K (.ret r0) h)
  (runD (fieldAddrD T_api_Seek t3 0) h fun t41 h =>
  runD (fitD T_int (loadD h t41)) h fun t42 h =>
  runD (binD T_int .mul (.int .i64 16) t42) h fun t43 h =>
  runD (binD T_int .add t43 (.int .i64 3)) h fun t44 h =>
  runD (fieldAddrD T_api_Seek t3 2) h fun t45 h =>
  runD (fitD T_int (loadD h t45)) h fun t46 h =>
  runD (binD T_int .add t44 t46) h fun t47 h =>
  runD (indexAddrD T_sl_int h t0 t47) h fun t48 h =>
  runD (fitD T_int (loadD h t48)) h fun t49 h =>
  runD (fieldAddrD T_api_Seek t3 1) h fun t50 h =>
  runD (fitD T_int (loadD h t50)) h fun t51 h =>
  runD (binD T_int .rem t51 (.int .i64 2)) h fun t52 h =>
  runD (binD T_int .neq t52 (.int .i64 0)) h fun t53 h =>
  runD (fieldAddrD T_api_Seek t3 0) h fun t54 h =>
  runD (fitD T_int (loadD h t54)) h fun t55 h =>
  runD (fieldAddrD T_api_Seek t3 1) h fun t56 h =>
  runD (fitD T_int (loadD h t56)) h fun t57 h =>
  runD (fieldAddrD T_api_Seek t3 2) h fun t58 h =>
  runD (fitD T_int (loadD h t58)) h fun t59 h =>
  runD (buildSliceD T_sl_int 0 [] h.length) h fun t60 h =>
  runD (fieldAddrD T_api_Seek t3 3) h fun t61 h =>
  runD (fitD T_sl_int (loadD h t61)) h fun t62 h =>
  runDM (appendD T_sl_int h t60 t62 h.length) (appendH T_sl_int h t60 t62) h fun t63 h =>
  runD (buildD T_api_Seek [(0, t55), (1, t57), (2, t59), (3, t63)]) h fun t64 h =>
  allocW T_api_Seek h fun t7 h =>
  runH (storeH T_api_Seek h t7 t64) h fun _ h =>
  sepB t60 [t54] = true ∧ sepB t60 [t56] = true ∧ sepB t60 [t58] = true ∧ runD (binD T_int .gtr t49 (.int .i64 0)) h fun t66 h =>
  joinW (fun (J6 : AV → AV → List AObj → Prop) =>
  guardW t66 true
  (runD (fieldAddrD T_api_Seek t3 3) h fun t68 h =>
    runD (fitD T_sl_int (loadD h t68)) h fun t69 h =>
    runD (lenD T_sl_int h t69) h fun t70 h =>
    runD (binD T_int .eql t70 (.int .i64 0)) h fun t71 h =>
    joinW (fun (J7 : AV → AV → List AObj → Prop) =>
    guardW t71 false
    (runD (fieldAddrD T_api_Seek t3 3) h fun t73 h =>
      runD (fitD T_sl_int (loadD h t73)) h fun t74 h =>
      runD (fieldAddrD T_api_Seek t3 3) h fun t75 h =>
      runD (fitD T_sl_int (loadD h t75)) h fun t76 h =>
      runD (lenD T_sl_int h t76) h fun t77 h =>
      runD (binD T_int .sub t77 (.int .i64 1)) h fun t78 h =>
      runD (indexAddrD T_sl_int h t74 t78) h fun t79 h =>
      runD (fitD T_int (loadD h t79)) h fun t80 h =>
      runD (binD T_int .neq t80 t49) h fun t82 h =>
      J7 (.bool false) t82 h)
    (J7 (.bool true) .und h))
    (fun t72 t82 h => runD (pickD t72 (.bool true) t82) h fun t83 h =>
    J6 (.bool true) t83 h))
  (J6 (.bool false) .und h))
  (fun t67 t83 h => runD (pickD t67 t83 (.bool false)) h fun t84 h =>
  joinW (fun (J8 : List AObj → Prop) =>
  condW t84
  (runD (fieldAddrD T_api_Seek t7 3) h fun t85 h =>
    runD (fitD T_sl_int (loadD h t85)) h fun t86 h =>
    runD (buildSliceD T_sl_int 1 [(0, t49)] h.length) h fun t88 h =>
    runDM (appendD T_sl_int h t86 t88 h.length) (appendH T_sl_int h t86 t88) h fun t89 h =>
    runD (fieldAddrD T_api_Seek t7 3) h fun t90 h =>
    runH (storeH T_sl_int h t90 t89) h fun _ h =>
    J8 h)
  (J8 h))
  (fun h => joinW (fun (J9 : AV → AV → List AObj → Prop) =>
  guardW t53 true
  (runD (fieldAddrD T_api_Seek t3 2) h fun t93 h =>
    runD (fitD T_int (loadD h t93)) h fun t94 h =>
    runD (binD T_int .eql t94 (.int .i64 0)) h fun t95 h =>
    J9 (.bool true) t95 h)
  (J9 (.bool false) .und h))
  (fun t92 t95 h => runD (pickD t92 t95 (.bool false)) h fun t96 h =>
  joinW (fun (J10 : AV → AV → List AObj → Prop) =>
  guardW t96 false
  (runD (unD .not t53) h fun t99 h =>
    joinW (fun (J11 : AV → AV → List AObj → Prop) =>
    guardW t99 true
    (runD (fieldAddrD T_api_Seek t3 2) h fun t101 h =>
      runD (fitD T_int (loadD h t101)) h fun t102 h =>
      runD (binD T_int .eql t102 (.int .i64 12)) h fun t103 h =>
      joinW (fun (J12 : AV → AV → List AObj → Prop) =>
      guardW t103 false
      (runD (binD T_int .leq t49 (.int .i64 0)) h fun t106 h =>
        J12 (.bool false) t106 h)
      (J12 (.bool true) .und h))
      (fun t104 t106 h => runD (pickD t104 (.bool true) t106) h fun t107 h =>
      J11 (.bool true) t107 h))
    (J11 (.bool false) .und h))
    (fun t100 t107 h => runD (pickD t100 t107 (.bool false)) h fun t108 h =>
    J10 (.bool false) t108 h))
  (J10 (.bool true) .und h))
  (fun t97 t108 h => runD (pickD t97 (.bool true) t108) h fun t109 h =>
  condW t109
  (runD (fieldAddrD T_api_Seek t7 4) h fun t110 h =>
    runH (storeH T_bool h t110 (.bool true)) h fun _ h =>
    runD (fitD T_api_Seek (loadD h t7)) h fun t111 h =>
    runH (storeH T_api_Seek h t4 t111) h fun _ h =>
    loadRes (fitD T_api_Seek (loadD h t4)) fun r0 => K (.ret r0) h)
  (joinW (fun (J13 : List AObj → Prop) =>
  condW t53
  (runD (fieldAddrD T_api_Seek t3 2) h fun t113 h =>
    runD (fitD T_int (loadD h t113)) h fun t114 h =>
    runD (binD T_int .sub t114 (.int .i64 1)) h fun t115 h =>
    runD (fieldAddrD T_api_Seek t7 2) h fun t116 h =>
    runH (storeH T_int h t116 t115) h fun _ h =>
    J13 h)
  (runD (fieldAddrD T_api_Seek t3 2) h fun t117 h =>
    runD (fitD T_int (loadD h t117)) h fun t118 h =>
    runD (binD T_int .add t118 (.int .i64 1)) h fun t119 h =>
    runD (fieldAddrD T_api_Seek t7 2) h fun t120 h =>
    runH (storeH T_int h t120 t119) h fun _ h =>
    J13 h))
  (fun h => runD (fitD T_api_Seek (loadD h t7)) h fun t121 h =>
  runH (storeH T_api_Seek h t4 t121) h fun _ h =>
  loadRes (fitD T_api_Seek (loadD h t4)) fun r0 => K (.ret r0) h))))))))))))
def lamplighterref13_Holds.loops : Nat → LInfo
  | 2 => ⟨[], [], [], [(3, none), (5, some [16, 21])], [], []⟩
  | _ => ⟨[], [], [], [], [], []⟩
def lamplighterref13_Holds.H (c : Ctx) (t0 : AV) (t1 : AV) (h : List AObj) (K : AOut → List AObj → Prop) : Prop :=
  boxW T_api_Seek t1 h fun t3 h =>
  runD (fieldAddrD T_api_Seek t3 0) h fun t9 h =>
  runD (fitD T_int (loadD h t9)) h fun t10 h =>
  callW false c (.fn (.func 62) [] []) [t0, t10] h (fun t11 h =>
  runD (extractD t11 0) h fun t12 h =>
  runD (extractD t11 1) h fun t13 h =>
  allocW T_api_Node h fun t5 h =>
  runH (storeH T_api_Node h t5 t12) h fun _ h =>
  runD (binD T_api_Errno .eql t13 (.int .i64 0)) h fun t15 h =>
  joinW (fun (J1 : AV → AV → List AObj → Prop) =>
  guardW t15 true
  (runD (fieldAddrD T_api_Node t5 1) h fun t17 h =>
    runD (fitD T_int (loadD h t17)) h fun t18 h =>
    runD (fieldAddrD T_api_Seek t3 1) h fun t19 h =>
    runD (fitD T_int (loadD h t19)) h fun t20 h =>
    runD (binD T_int .eql t18 t20) h fun t21 h =>
    J1 (.bool true) t21 h)
  (J1 (.bool false) .und h))
  (fun t16 t21 h => runD (pickD t16 t21 (.bool false)) h fun t22 h =>
  K (.ret t22) h))
  (fun v h => K (.pan v) h)
def lamplighterref13_Recs.loops : Nat → LInfo
  | 4 => ⟨[5], [false], [0, 1], [], [], []⟩
  | _ => ⟨[], [], [], [], [], []⟩
def lamplighterref13_Recs.L1 (c : Ctx) (J1 : List AObj → Prop) (K : AOut → List AObj → Prop) (lv : List AV) (h0 : List AObj) (n0 : Nat) (c0 : AV) (c1 : AV) : Prop :=
  ∃ I : Nat → List AV → List AObj → Prop, (∃ n, I n lv h0) ∧ ∀ n h, ∀ t5, I n [t5] h →
    runD (lenD T_sl_api_Rec h c0) h fun t13 h =>
    runD (binD T_int .lss t5 t13) h fun t14 h =>
    condW t14
    (runD (indexAddrD T_sl_api_Rec h c0 t5) h fun t19 h =>
    runD (fitD T_api_Rec (loadD h t19)) h fun t20 h =>
    runD (indexAddrD T_sl_api_Rec h c1 t5) h fun t23 h =>
    runD (fitD T_api_Rec (loadD h t23)) h fun t24 h =>
    runD (binD T_api_Rec .neq t20 t24) h fun t25 h =>
    condW t25
    (K (.ret (.bool false)) h)
    (runD (binD T_int .add t5 (.int .i64 1)) h fun t16 h =>
    (∃ m, m < n ∧ I m (AV.norms n0 h [t16]) (normH n0 h)) ∧ AV.norms n0 h [c0, c1] = [c0, c1]))
    (J1 h)
def lamplighterref13_Recs.H (c : Ctx) (t0 : AV) (t1 : AV) (h : List AObj) (K : AOut → List AObj → Prop) : Prop :=
  runD (lenD T_sl_api_Rec h t0) h fun t7 h =>
  runD (lenD T_sl_api_Rec h t1) h fun t9 h =>
  runD (binD T_int .neq t7 t9) h fun t10 h =>
  condW t10
  (K (.ret (.bool false)) h)
  (joinW (fun (J1 : List AObj → Prop) =>
  promV [false] [(.int .i64 0)] h fun lv h => lamplighterref13_Recs.L1 c J1 K (AV.norms h.length h lv) (normH h.length h) h.length (AV.norm h.length h t0) (AV.norm h.length h t1))
  (fun h => K (.ret (.bool true)) h))
def lamplighterref13_Hits.loops : Nat → LInfo
  | 3 => ⟨[5, 6], [false, false], [0, 3], [], [], []⟩
  | 10 => ⟨[9, 10, 11], [false, false, false], [0, 3, 5, 6, 7], [], [], []⟩
  | _ => ⟨[], [], [], [], [], []⟩
def lamplighterref13_Hits.L2 (c : Ctx) (J3 : AV → AV → AV → AV → AV → AV → AV → List AObj → Prop) (K : AOut → List AObj → Prop) (lv : List AV) (h0 : List AObj) (n0 : Nat) (c0 : AV) (c3 : AV) (c5 : AV) (c6 : AV) (c7 : AV) : Prop :=
  ∃ I : Nat → List AV → List AObj → Prop, (∃ n, I n lv h0) ∧ ∀ n h, ∀ t9, ∀ t10, ∀ t11, I n [t9, t10, t11] h →
    runD (lenD T_sl_api_Rec h c5) h fun t33 h =>
    runD (binD T_int .lss t11 t33) h fun t34 h =>
    condW t34
    (runD (indexAddrD T_sl_api_Rec h c5 t11) h fun t39 h =>
    runD (fieldAddrD T_api_Rec t39 1) h fun t40 h =>
    runD (fitD T_string (loadD h t40)) h fun t41 h =>
    runD (fieldAddrD T_api_Rec c7 1) h fun t42 h =>
    runD (fitD T_string (loadD h t42)) h fun t43 h =>
    runD (binD T_string .eql t41 t43) h fun t44 h =>
    joinW (fun (J4 : AV → List AObj → Prop) =>
    condW t44
    (J4 (.bool true) h)
    (J4 t10 h))
    (fun t10 h => runD (indexAddrD T_sl_api_Rec h c5 t11) h fun t47 h =>
    runD (fieldAddrD T_api_Rec t47 1) h fun t48 h =>
    runD (fitD T_string (loadD h t48)) h fun t49 h =>
    runD (fieldAddrD T_api_Rec c7 1) h fun t50 h =>
    runD (fitD T_string (loadD h t50)) h fun t51 h =>
    runD (binD T_string .lss t49 t51) h fun t52 h =>
    joinW (fun (J5 : AV → List AObj → Prop) =>
    condW t52
    (runD (binD T_int .add t11 (.int .i64 1)) h fun t54 h =>
      J5 t54 h)
    (J5 t9 h))
    (fun t9 h => runD (binD T_int .add t11 (.int .i64 1)) h fun t36 h =>
    (∃ m, m < n ∧ I m (AV.norms n0 h [t9, t10, t36]) (normH n0 h)) ∧ AV.norms n0 h [c0, c3, c5, c6, c7] = [c0, c3, c5, c6, c7])))
    (J3 c0 c3 c5 c6 c7 t9 t10 h)
def lamplighterref13_Hits.L1 (c : Ctx) (J1 : AV → List AObj → Prop) (K : AOut → List AObj → Prop) (lv : List AV) (h0 : List AObj) (n0 : Nat) (c0 : AV) (c3 : AV) : Prop :=
  ∃ I : Nat → List AV → List AObj → Prop, (∃ n, I n lv h0) ∧ ∀ n h, ∀ t5, ∀ t6, I n [t5, t6] h →
    runD (fieldAddrD T_api_Seek c3 3) h fun t13 h =>
    runD (fitD T_sl_int (loadD h t13)) h fun t14 h =>
    runD (lenD T_sl_int h t14) h fun t15 h =>
    runD (binD T_int .lss t6 t15) h fun t16 h =>
    condW t16
    (joinW (fun (J2 : AV → AV → AV → AV → List AObj → Prop) =>
    runD (fieldAddrD T_api_Seek c3 3) h fun t21 h =>
    runD (fitD T_sl_int (loadD h t21)) h fun t22 h =>
    runD (indexAddrD T_sl_int h t22 t6) h fun t24 h =>
    runD (fitD T_int (loadD h t24)) h fun t25 h =>
    callW false c (.fn (.func 70) [] []) [c0, t25] h (fun t26 h =>
    runD (extractD t26 0) h fun t27 h =>
    runD (extractD t26 1) h fun t28 h =>
    allocW T_api_Rec h fun t7 h =>
    runH (storeH T_api_Rec h t7 t27) h fun _ h =>
    runD (binD T_api_Errno .neq t28 (.int .i64 0)) h fun t30 h =>
    condW t30
    (J2 c0 c3 t5 t6 h)
    (joinW (fun (J3 : AV → AV → AV → AV → AV → AV → AV → List AObj → Prop) =>
    promV [false, false, false] [(.int .i64 0), (.bool false), (.int .i64 0)] h fun lv h => lamplighterref13_Hits.L2 c J3 K (AV.norms h.length h lv) (normH h.length h) h.length (AV.norm h.length h c0) (AV.norm h.length h c3) (AV.norm h.length h t5) (AV.norm h.length h t6) (AV.norm h.length h t7))
    (fun t0 t3 t5 t6 t7 t9 t10 h => runD (unD .not t10) h fun t56 h =>
    joinW (fun (J6 : AV → List AObj → Prop) =>
    condW t56
    (runD (buildSliceD T_sl_api_Rec 0 [] h.length) h fun t57 h =>
      runD (sliceD T_sl_api_Rec h t5 none (some t9) none) h fun t60 h =>
      runDM (appendD T_sl_api_Rec h t57 t60 h.length) (appendH T_sl_api_Rec h t57 t60) h fun t61 h =>
      runD (fitD T_api_Rec (loadD h t7)) h fun t62 h =>
      runD (buildSliceD T_sl_api_Rec 1 [(0, t62)] h.length) h fun t63 h =>
      runDM (appendD T_sl_api_Rec h t61 t63 h.length) (appendH T_sl_api_Rec h t61 t63) h fun t64 h =>
      runD (sliceD T_sl_api_Rec h t5 (some t9) none none) h fun t67 h =>
      runDM (appendD T_sl_api_Rec h t64 t67 h.length) (appendH T_sl_api_Rec h t64 t67) h fun t68 h =>
      sepB t57 [t7] = true ∧ sepB t57 [t5, t9] = true ∧ sepB t61 [t5, t9] = true ∧ J6 t68 h)
    (J6 t5 h))
    (fun t5 h => J2 t0 t3 t5 t6 h))))
    (fun v h => K (.pan v) h))
    (fun t0 t3 t5 t6 h => runD (binD T_int .add t6 (.int .i64 1)) h fun t18 h =>
    (∃ m, m < n ∧ I m (AV.norms n0 h [t5, t18]) (normH n0 h)) ∧ AV.norms n0 h [t0, t3] = [c0, c3]))
    (J1 t5 h)
def lamplighterref13_Hits.H (c : Ctx) (t0 : AV) (t1 : AV) (h : List AObj) (K : AOut → List AObj → Prop) : Prop :=
  boxW T_api_Seek t1 h fun t3 h =>
  joinW (fun (J1 : AV → List AObj → Prop) =>
  promV [false, false] [(.sl true (.recs [])), (.int .i64 0)] h fun lv h => lamplighterref13_Hits.L1 c J1 K (AV.norms h.length h lv) (normH h.length h) h.length (AV.norm h.length h t0) (AV.norm h.length h t3))
  (fun t5 h => K (.ret t5) h)
theorem lamplighterref13_Begin.eq (F : List (FuncId × Contract)) (S : List (FuncId × Con)) (t0 t1 : AV) (h : List AObj) (K : AOut → List AObj → Prop) : funW (ctx F S lamplighterref13_Begin.loops) Try.f26 [t0, t1] h K = lamplighterref13_Begin.H (ctx F S lamplighterref13_Begin.loops) t0 t1 h K := by kernel_rfl
theorem lamplighterref13_Same.eq (F : List (FuncId × Contract)) (S : List (FuncId × Con)) (t0 t1 : AV) (h : List AObj) (K : AOut → List AObj → Prop) : funW (ctx F S lamplighterref13_Same.loops) Try.f27 [t0, t1] h K = lamplighterref13_Same.H (ctx F S lamplighterref13_Same.loops) t0 t1 h K := by kernel_rfl
theorem lamplighterref13_Step.eq (F : List (FuncId × Contract)) (S : List (FuncId × Con)) (t0 t1 : AV) (h : List AObj) (K : AOut → List AObj → Prop) : funW (ctx F S lamplighterref13_Step.loops) Try.f29 [t0, t1] h K = lamplighterref13_Step.H (ctx F S lamplighterref13_Step.loops) t0 t1 h K := by kernel_rfl
theorem lamplighterref13_Holds.eq (F : List (FuncId × Contract)) (S : List (FuncId × Con)) (t0 t1 : AV) (h : List AObj) (K : AOut → List AObj → Prop) : funW (ctx F S lamplighterref13_Holds.loops) Try.f31 [t0, t1] h K = lamplighterref13_Holds.H (ctx F S lamplighterref13_Holds.loops) t0 t1 h K := by kernel_rfl
theorem lamplighterref13_Recs.eq (F : List (FuncId × Contract)) (S : List (FuncId × Con)) (t0 t1 : AV) (h : List AObj) (K : AOut → List AObj → Prop) : funW (ctx F S lamplighterref13_Recs.loops) Try.f32 [t0, t1] h K = lamplighterref13_Recs.H (ctx F S lamplighterref13_Recs.loops) t0 t1 h K := by kernel_rfl
theorem lamplighterref13_Hits.eq (F : List (FuncId × Contract)) (S : List (FuncId × Con)) (t0 t1 : AV) (h : List AObj) (K : AOut → List AObj → Prop) : funW (ctx F S lamplighterref13_Hits.loops) Try.f34 [t0, t1] h K = lamplighterref13_Hits.H (ctx F S lamplighterref13_Hits.loops) t0 t1 h K := by kernel_rfl
theorem lamplighterref13_Same.at : Try.prog.funcs[27]? = some Try.f27 := by kernel_rfl
theorem lamplighterref13_Same.nm : (Try.f27.name == "runtime.NumGoroutine") = false := by kernel_rfl
theorem lamplighterref13_Same.bd : Try.f27.body.isNone = false := by kernel_rfl
end Lam
namespace Lam
open Go Go.Proofs
set_option linter.unusedVariables false
set_option linter.unnecessarySimpa false
set_option linter.unusedSimpArgs false
def sameS (x y : Sk) : Bool := decide (x.block = y.block) && decide (x.turn = y.turn) && decide (x.at_ = y.at_) && (x.over == y.over) && decide (x.refs = y.refs)
theorem sameS_self (x : Sk) : sameS x x = true := by simp [sameS]
def lamplighterref13_Same.C : Contract
  | [.agg [.int .i64 a, .int .i64 b, .int .i64 c, .sl _ (.ints .i64 d), .bool e], .agg [.int .i64 f, .int .i64 g, .int .i64 i, .sl _ (.ints .i64 j), .bool k]] => some (false, pD (roomy d.length) (.bool (sameS ⟨a, b, c, d, e⟩ ⟨f, g, i, j, k⟩)))
  | _ => none
set_option maxRecDepth 20000 in
theorem lamplighterref13_Same.spec : FSpec Try.prog 27 lamplighterref13_Same.C := by
  refine FSpec.of (ctx_ok (F := [(20, lamplighterref02_Numbers.C)]) (S := []) (by simpa using lamplighterref02_Numbers.spec) (by simp) lamplighterref13_Same.loops) lamplighterref13_Same.at lamplighterref13_Same.nm lamplighterref13_Same.bd ?_
  intro vs b S v news e hS
  unfold lamplighterref13_Same.C at e
  split at e
  rotate_left
  · cases e
  cases e
  rw [lamplighterref13_Same.eq]
  unfold lamplighterref13_Same.H
  simp (maxSteps := 4000000) only [go_sem, Nat.reduceEqDiff, Nat.reduceLT, Nat.reduceAdd, Nat.reduceSub, Nat.reduceLeDiff, List.reduceReplicate, Int.reduceToNat, lamplighterref02_Numbers.C]
  exact ⟨fun _ => hS, post_val rfl rfl⟩
end Lam
namespace Lam
open Go Go.Proofs
set_option linter.unusedVariables false
def lamplighterlaw13_SeekAll.loops : Nat → LInfo
  | 3 => ⟨[], [], [], [(5, none), (2, some [23, 25])], [], []⟩
  | 8 => ⟨[8, 9], [false, false], [1, 3, 4, 6, 7], [(3, none), (3, some [35, 38])], [], []⟩
  | 16 => ⟨[11, 12], [true, false], [1, 3, 4, 6, 7, 8, 10], [], [], []⟩
  | _ => ⟨[], [], [], [], [], []⟩
def lamplighterlaw13_SeekAll.L1 (c : Ctx) (J2 : AV → AV → AV → AV → AV → AV → List AObj → Prop) (K : AOut → List AObj → Prop) (lv : List AV) (h0 : List AObj) (n0 : Nat) (c1 : AV) (c3 : AV) (c4 : AV) (c6 : AV) (c7 : AV) : Prop :=
  ∃ I : Nat → List AV → List AObj → Prop, (∃ n, I n lv h0) ∧ ∀ n h, ∀ t8, ∀ t9, I n [t8, t9] h →
    runD (binD T_int .lss t9 (.int .i64 13)) h fun t34 h =>
    joinW (fun (J3 : AV → AV → List AObj → Prop) =>
    guardW t34 true
    (runD (fieldAddrD T_api_Seek c6 4) h fun t36 h =>
      runD (fitD T_bool (loadD h t36)) h fun t37 h =>
      runD (unD .not t37) h fun t38 h =>
      J3 (.bool true) t38 h)
    (J3 (.bool false) .und h))
    (fun t35 t38 h => runD (pickD t35 t38 (.bool false)) h fun t39 h =>
    condW t39
    (runD (fitD T_api_Seek (loadD h c6)) h fun t43 h =>
    callW false c (.fn (.func 28) [] []) [c4, t43] h (fun t44 h =>
    runH (storeH T_api_Seek h c6 t44) h fun _ h =>
    runD (binD T_int .add t8 (.int .i64 1)) h fun t46 h =>
    runD (binD T_int .add t9 (.int .i64 1)) h fun t41 h =>
    (∃ m, m < n ∧ I m (AV.norms n0 h [t46, t41]) (normH n0 h)) ∧ AV.norms n0 h [c1, c3, c4, c6, c7] = [c1, c3, c4, c6, c7])
    (fun v h => K (.pan v) h))
    (J2 c1 c3 c4 c6 c7 t8 h))
def lamplighterlaw13_SeekAll.L2 (c : Ctx) (J5 : AV → AV → AV → AV → AV → AV → AV → List AObj → Prop) (K : AOut → List AObj → Prop) (lv : List AV) (h0 : List AObj) (n0 : Nat) (c1 : AV) (c3 : AV) (c4 : AV) (c6 : AV) (c7 : AV) (c8 : AV) (c10 : AV) : Prop :=
  ∃ I : Nat → List AV → List AObj → Prop, (∃ n, I n lv h0) ∧ ∀ n h, ∀ t11, ∀ t12, I n [t11, t12] h →
    runD (binD T_int .geq t12 (.int .i64 0)) h fun t58 h =>
    condW t58
    (runD (indexAddrD T_sl_int h c10 t12) h fun t64 h =>
    runD (fitD T_int (loadD h t64)) h fun t65 h =>
    runD (buildSliceD T_sl_int 1 [(0, t65)] h.length) h fun t66 h =>
    runDM (appendD T_sl_int h t11 t66 h.length) (appendH T_sl_int h t11 t66) h fun t67 h =>
    runD (binD T_int .sub t12 (.int .i64 1)) h fun t60 h =>
    (∃ m, m < n ∧ I m (AV.norms n0 h [t67, t60]) (normH n0 h)) ∧ AV.norms n0 h [c1, c3, c4, c6, c7, c8, c10] = [c1, c3, c4, c6, c7, c8, c10])
    (J5 c1 c3 c4 c6 c7 c8 t11 h)
def lamplighterlaw13_SeekAll.H (c : Ctx) (t0 : AV) (h : List AObj) (K : AOut → List AObj → Prop) : Prop :=
  boxW T_api_Node t0 h fun t1 h =>
  callW false c (.fn (.func 24) [] []) [] h (fun t13 h =>
  runD (fitD T_api_Node (loadD h t1)) h fun t15 h =>
  callW false c (.fn (.func 35) [] []) [t15] h (fun t16 h =>
  runD (extractD t16 0) h fun t17 h =>
  runD (extractD t16 1) h fun t18 h =>
  runD (fieldAddrD T_api_Node t1 4) h fun t19 h =>
  runD (fitD T_sl_int (loadD h t19)) h fun t20 h =>
  runD (lenD T_sl_int h t20) h fun t21 h =>
  runD (binD T_int .gtr t21 (.int .i64 100)) h fun t22 h =>
  joinW (fun (J1 : AV → AV → List AObj → Prop) =>
  guardW t22 false
  (runD (binD T_api_Errno .neq t18 (.int .i64 0)) h fun t25 h =>
    J1 (.bool false) t25 h)
  (J1 (.bool true) .und h))
  (fun t23 t25 h => runD (pickD t23 (.bool true) t25) h fun t26 h =>
  condW t26
  (K (.ret t13) h)
  (callW false c (.fn (.func 25) [] []) [t17, (.int .i64 0)] h (fun t30 h =>
  runD (extractD t30 0) h fun t31 h =>
  runD (extractD t30 1) h fun t32 h =>
  allocW T_api_Seek h fun t6 h =>
  runH (storeH T_api_Seek h t6 t31) h fun _ h =>
  joinW (fun (J2 : AV → AV → AV → AV → AV → AV → List AObj → Prop) =>
  promV [false, false] [(.int .i64 0), (.int .i64 0)] h fun lv h => lamplighterlaw13_SeekAll.L1 c J2 K (AV.norms h.length h lv) (normH h.length h) h.length (AV.norm h.length h t1) (AV.norm h.length h t13) (AV.norm h.length h t17) (AV.norm h.length h t6) (AV.norm h.length h t32))
  (fun t1 t3 t4 t6 t7 t8 h => runD (fieldAddrD T_api_Node t1 4) h fun t47 h =>
  runD (fitD T_sl_int (loadD h t47)) h fun t48 h =>
  callW false c (.fn (.func 36) [] []) [t48] h (fun t49 h =>
  runD (fieldAddrD T_api_Node t1 1) h fun t50 h =>
  runD (fitD T_int (loadD h t50)) h fun t51 h =>
  runD (binD T_int .rem t51 (.int .i64 2)) h fun t52 h =>
  runD (binD T_int .eql t52 (.int .i64 1)) h fun t53 h =>
  joinW (fun (J4 : AV → AV → AV → AV → AV → AV → AV → List AObj → Prop) =>
  condW t53
  (runD (lenD T_sl_int h t49) h fun t55 h =>
    runD (binD T_int .sub t55 (.int .i64 1)) h fun t56 h =>
    joinW (fun (J5 : AV → AV → AV → AV → AV → AV → AV → List AObj → Prop) =>
    promV [true, false] [(.sl true (.ints .i64 [])), t56] h fun lv h => lamplighterlaw13_SeekAll.L2 c J5 K (AV.norms h.length h lv) (normH h.length h) h.length (AV.norm h.length h t1) (AV.norm h.length h t3) (AV.norm h.length h t4) (AV.norm h.length h t6) (AV.norm h.length h t7) (AV.norm h.length h t8) (AV.norm h.length h t49))
    (fun t1 t3 t4 t6 t7 t8 t11 h => J4 t1 t3 t4 t6 t7 t8 t11 h))
  (J4 t1 t3 t4 t6 t7 t8 t49 h))
  (fun t1 t3 t4 t6 t7 t8 t10 h => joinW (fun (J6 : AV → AV → List AObj → Prop) =>
  guardW t3 true
  (runD (binD T_api_Errno .eql t7 (.int .i64 0)) h fun t72 h =>
    J6 (.bool true) t72 h)
  (J6 (.bool false) .und h))
  (fun t70 t72 h => runD (pickD t70 t72 (.bool false)) h fun t73 h =>
  joinW (fun (J7 : AV → AV → List AObj → Prop) =>
  guardW t73 true
  (runD (fieldAddrD T_api_Seek t6 4) h fun t75 h =>
    runD (fitD T_bool (loadD h t75)) h fun t76 h =>
    J7 (.bool true) t76 h)
  (J7 (.bool false) .und h))
  (fun t74 t76 h => runD (pickD t74 t76 (.bool false)) h fun t77 h =>
  joinW (fun (J8 : AV → AV → List AObj → Prop) =>
  guardW t77 true
  (runD (fieldAddrD T_api_Seek t6 3) h fun t79 h =>
    runD (fitD T_sl_int (loadD h t79)) h fun t80 h =>
    callW false c.noS (.fn (.func 20) [] []) [t80, t10] h (fun t82 h =>
    J8 (.bool true) t82 h)
    (fun _ _ => False))
  (J8 (.bool false) .und h))
  (fun t78 t82 h => runD (pickD t78 t82 (.bool false)) h fun t83 h =>
  joinW (fun (J9 : AV → AV → List AObj → Prop) =>
  guardW t83 true
  (runD (fitD T_api_Seek (loadD h t6)) h fun t86 h =>
    callW false c.noS (.fn (.func 28) [] []) [t4, t86] h (fun t87 h =>
    runD (fitD T_api_Seek (loadD h t6)) h fun t88 h =>
    callW false c.noS (.fn (.func 27) [] []) [t87, t88] h (fun t89 h =>
    J9 (.bool true) t89 h)
    (fun _ _ => False))
    (fun _ _ => False))
  (J9 (.bool false) .und h))
  (fun t84 t89 h => runD (pickD t84 t89 (.bool false)) h fun t90 h =>
  joinW (fun (J10 : AV → AV → List AObj → Prop) =>
  guardW t90 true
  (runD (fieldAddrD T_api_Node t1 1) h fun t92 h =>
    runD (fitD T_int (loadD h t92)) h fun t93 h =>
    runD (binD T_int .rem t93 (.int .i64 2)) h fun t94 h =>
    runD (binD T_int .eql t94 (.int .i64 1)) h fun t95 h =>
    joinW (fun (J11 : AV → AV → List AObj → Prop) =>
    guardW t95 false
    (runD (fieldAddrD T_api_Node t1 4) h fun t98 h =>
      runD (fitD T_sl_int (loadD h t98)) h fun t99 h =>
      runD (lenD T_sl_int h t99) h fun t100 h =>
      runD (binD T_int .add t100 (.int .i64 1)) h fun t101 h =>
      runD (minD t101 (.int .i64 13)) h fun t102 h =>
      runD (binD T_int .eql t8 t102) h fun t103 h =>
      J11 (.bool false) t103 h)
    (J11 (.bool true) .und h))
    (fun t96 t103 h => runD (pickD t96 (.bool true) t103) h fun t104 h =>
    J10 (.bool true) t104 h))
  (J10 (.bool false) .und h))
  (fun t91 t104 h => runD (pickD t91 t104 (.bool false)) h fun t105 h =>
  K (.ret t105) h)))))))
  (fun v h => K (.pan v) h)))
  (fun v h => K (.pan v) h))))
  (fun v h => K (.pan v) h))
  (fun v h => K (.pan v) h)
theorem lamplighterlaw13_SeekAll.eq (F : List (FuncId × Contract)) (S : List (FuncId × Con)) (t0 : AV) (h : List AObj) (K : AOut → List AObj → Prop) : funW (ctx F S lamplighterlaw13_SeekAll.loops) Try.f10 [t0] h K = lamplighterlaw13_SeekAll.H (ctx F S lamplighterlaw13_SeekAll.loops) t0 h K := by kernel_rfl
end Lam
namespace Lam
open Go Go.Proofs
set_option linter.unusedVariables false
set_option linter.unnecessarySimpa false
set_option linter.unusedSimpArgs false
theorem wordsV_not {n : Nd} (h : ndB n = false) : wordsV n = .tup [.sl false (.ints .i64 []), .int .i64 90] := by unfold wordsV; rw [if_neg (by rw [h]; decide)]
theorem wordsV_yes {n : Nd} (h : ndB n = true) : wordsV n = .tup [.sl false (.ints .i64 (wordsNd n)), .int .i64 0] := by unfold wordsV; rw [if_pos h]
theorem node_slots {n : Nd} (h : n.ok) : SlotsAt (wordsNd n) 0 n.slots := by
  have hl := words_len h
  have h13 := h.2.2.2.2.2.2.1
  refine ⟨⟨by decide, by decide, by rw [hl]; decide⟩, h13, fun x hx => by have := h.2.2.2.2.2.2.2 x hx; omega, fun k hk => ?_⟩
  unfold slotW wordsNd
  rw [show (16 * (0 : Int)).toNat + 3 + k = k + 1 + 1 + 1 by omega]
  rw [List.getD_cons_succ, List.getD_cons_succ, List.getD_cons_succ]
  rcases Nat.lt_or_ge k n.slots.length with h1 | h1
  · rw [List.getD_eq_getElem?_getD, List.getElem?_append_left h1, ← List.getD_eq_getElem?_getD]
  · rw [List.getD_eq_getElem?_getD, List.getElem?_append_right h1, List.getD_eq_getElem?_getD, List.getElem?_eq_none h1, List.getElem?_replicate]
    split <;> rfl
theorem node_at {n : Nd} (h : n.ok) : nodeO (wordsNd n) 0 = some n := by
  have hl := words_len h
  unfold nodeO
  rw [if_neg (by rw [hl]; decide)]
  have : blockAt (wordsNd n) (Int.toNat 0) = wordsNd n := by unfold blockAt; exact List.take_of_length_le (Nat.le_of_eq hl)
  rw [this, readN_ok h]
def seenT (n : Nd) : Nat := if downB n.turn = true then 13 else min n.slots.length 12 + 1
def seenS (n : Nd) (k : Nat) : Sk := if downB n.turn = true then downAt 0 n.turn n.slots k else upAt 0 n.turn n.slots k
theorem look_begin {n : Nd} (h : n.ok) : beginV (wordsNd n) 0 = .tup [(seenS n 0).V, .int .i64 0] := by
  unfold beginV beginO
  rw [node_at h]
  simp only
  rw [if_neg (by decide)]
  unfold seenS
  by_cases hd : downB n.turn = true
  · simp only [hd, if_true]
    unfold downAt
    rw [if_pos (by decide), List.drop_of_length_le (by have := h.2.2.2.2.2.2.1; omega)]
    rfl
  · rw [show (if downB n.turn = true then (12 : Int) else 0) = 0 from if_neg hd, if_neg hd]
    unfold upAt
    rw [if_pos (by omega)]
    rfl
theorem look_next {n : Nd} (h : n.ok) (k : Nat) : stepS (wordsNd n) (seenS n k) = seenS n (k + 1) := by
  unfold seenS
  cases hd : downB n.turn with
  | true => exact down_next (node_slots h) hd k
  | false => exact up_next (node_slots h) hd k
theorem look_over {n : Nd} (k : Nat) (hk : k ≤ seenT n) : (seenS n k).over = decide (k = seenT n) := by
  unfold seenT at hk ⊢
  unfold seenS
  by_cases hd : downB n.turn = true
  · rw [if_pos hd, if_pos hd] at *
    unfold downAt
    split
    · rw [decide_eq_false (by omega)]
    · rw [decide_eq_true (by omega)]
  · rw [if_neg hd, if_neg hd] at *
    unfold upAt
    split
    · rw [decide_eq_false (by omega)]
    · rw [decide_eq_true (by omega)]
theorem look_refs {n : Nd} (h : n.ok) (k : Nat) : (seenS n k).refs.length ≤ 13 := by
  have h13 := h.2.2.2.2.2.2.1
  have hp : ∀ l : List Int, l.length ≤ 13 → (plain l).length ≤ 13 := fun l hl => Nat.le_trans (plain_len l) hl
  unfold seenS
  split
  · unfold downAt
    split
    · exact hp _ (by simp; omega)
    · exact hp _ (by simp; omega)
  · unfold upAt
    split
    · exact hp _ (by simp; omega)
    · exact hp _ h13
theorem look_end {n : Nd} : (seenS n (seenT n)).refs = if downB n.turn = true then (plain n.slots).reverse else plain n.slots := by
  unfold seenS seenT
  by_cases hd : downB n.turn = true
  · rw [if_pos hd, if_pos hd, if_pos hd, ← plain_rev]; rfl
  · rw [if_neg hd, if_neg hd, if_neg hd]
    unfold upAt
    rw [if_neg (by omega)]
abbrev SeekAll_ctx : Ctx := ctx [(24, lamplighterlaw13_awake.C), (35, node_Words.C), (25, seek_Begin.C), (28, seek_Step.C), (36, lamplighterref06_Plain.C), (20, lamplighterref02_Numbers.C), (27, lamplighterref13_Same.C)] [] lamplighterlaw13_SeekAll.loops
set_option maxRecDepth 20000 in
set_option maxHeartbeats 1000000 in
theorem SeekAll_vc (n_level : Int) (n_turn : Int) (n_next : Int) (n_low : Int) (n_slots : List Int) (w_n_level : (Lit.int .i64 n_level).wf = true) (w_n_turn : (Lit.int .i64 n_turn).wf = true) (w_n_next : (Lit.int .i64 n_next).wf = true) (w_n_low : (Lit.int .i64 n_low).wf = true) (w_n_slots : wfL (.ints .i64 n_slots)) (n_n_slots : n_slots.length ≤ maxLen) : lamplighterlaw13_SeekAll.H SeekAll_ctx (.agg [(.int .i64 n_level), (.int .i64 n_turn), (.int .i64 n_next), (.int .i64 n_low), (.sl false (.ints .i64 n_slots))]) [] Told := by
  unfold lamplighterlaw13_SeekAll.H
  simp (maxSteps := 4000000) only [go_sem, Nat.reduceEqDiff, Nat.reduceLT, Nat.reduceAdd, Nat.reduceSub, Nat.reduceLeDiff, List.reduceReplicate, Int.reduceToNat, lamplighterlaw13_awake.C, node_Words.C, seek_Begin.C, seek_Step.C, lamplighterref06_Plain.C, lamplighterref02_Numbers.C, lamplighterref13_Same.C]
  generalize hn : (⟨n_level, n_turn, n_next, n_low, n_slots⟩ : Nd) = n
  cases h1 : ndB n with
  | false =>
    simp only [wordsV_not h1, decide_true, joinW_eq, joinW_eq, guard_tt, guard_tf, guard_ft, guard_ff, Int.reduceEq, Int.reduceLT, Int.reduceLE, decide_false, decide_true, Bool.not_false, Bool.not_true, Bool.not_not, not_true_eq_false, not_false_eq_true, true_implies, false_implies, implies_true, and_true, true_and, reduceCtorEq, Bool.and_self, Bool.or_self, Bool.and_true, Bool.true_and, Bool.false_eq_true, if_true, if_false, go_sem, Nat.reduceEqDiff, Nat.reduceLT, Nat.reduceAdd, Nat.reduceSub, Nat.reduceLeDiff, List.reduceReplicate, Int.reduceToNat]
    cases decide (100 < (n_slots.length : Int)) <;> (simp only [joinW_eq, guard_tt, guard_tf, guard_ft, guard_ff, Int.reduceEq, Int.reduceLT, Int.reduceLE, decide_false, decide_true, Bool.not_false, Bool.not_true, Bool.not_not, not_true_eq_false, not_false_eq_true, true_implies, false_implies, implies_true, and_true, true_and, reduceCtorEq, Bool.and_self, Bool.or_self, Bool.and_true, Bool.true_and, Bool.false_eq_true, if_true, if_false, go_sem, Nat.reduceEqDiff, Nat.reduceLT, Nat.reduceAdd, Nat.reduceSub, Nat.reduceLeDiff, List.reduceReplicate, Int.reduceToNat]; rfl)
  | true =>
    have hok := nd_iff.1 h1
    have h13 : n_slots.length ≤ 13 := by have := hok.2.2.2.2.2.2.1; rw [← hn] at this; exact this
    have hbg := look_begin hok
    have hT : seenT n ≤ 13 := by unfold seenT; split <;> omega
    have rw16 : roomy (wordsNd n).length := by rw [words_len hok]; unfold roomy; omega
    have g1 : ¬ 100 < (n_slots.length : Int) := by omega
    obtain ⟨s0b, s0t, s0a, s0r, s0o, hs0⟩ : ∃ b t a r o, seenS n 0 = ⟨b, t, a, r, o⟩ := ⟨_, _, _, _, _, rfl⟩
    rw [hs0] at hbg
    simp only [wordsV_yes h1, seek_Begin.C, hbg, g1, Sk.V, decide_true, decide_false, joinW_eq, joinW_eq, guard_tt, guard_tf, guard_ft, guard_ff, Int.reduceEq, Int.reduceLT, Int.reduceLE, decide_false, decide_true, Bool.not_false, Bool.not_true, Bool.not_not, not_true_eq_false, not_false_eq_true, true_implies, false_implies, implies_true, and_true, true_and, reduceCtorEq, Bool.and_self, Bool.or_self, Bool.and_true, Bool.true_and, Bool.false_eq_true, if_true, if_false, go_sem, Nat.reduceEqDiff, Nat.reduceLT, Nat.reduceAdd, Nat.reduceSub, Nat.reduceLeDiff, List.reduceReplicate, Int.reduceToNat]
    refine ⟨rw16, ?_⟩
    unfold lamplighterlaw13_SeekAll.L1
    refine loop2 (σ := Nat) (fun k => .int .i64 k) (fun k => .int .i64 k) (fun k => [.box (.agg [.int .i64 n_level, .int .i64 n_turn, .int .i64 n_next, .int .i64 n_low, .sl false (.ints .i64 n_slots)]), .box (seenS n k).V]) (fun k => 13 - k) (fun k => k ≤ seenT n) 0 rfl (by rw [hs0]; rfl) (Nat.zero_le _) ?_
    intro I back k hk
    have hov := look_over k hk
    have hrf := look_refs hok k
    by_cases hlt : k < seenT n
    · have hb := @back (13 - k) [.int .i64 ((k + 1 : Nat) : Int), .int .i64 ((k + 1 : Nat) : Int)] [.box (.agg [.int .i64 n_level, .int .i64 n_turn, .int .i64 n_next, .int .i64 n_low, .sl false (.ints .i64 n_slots)]), .box (seenS n (k + 1)).V] (k + 1) (by omega) rfl rfl hlt
      clear back
      have hst := look_next hok k
      rw [decide_eq_false (by omega)] at hov
      rw [← hst] at hb
      generalize seenS n k = s at *
      obtain ⟨b, t, a, l, o⟩ := s
      simp only at hov hrf
      subst hov
      clear hst
      generalize hs : stepS (wordsNd n) ⟨b, t, a, l, false⟩ = s' at *
      obtain ⟨b', t', a', l', o'⟩ := s'
      have d1 : decide ((k : Int) < 13) = true := decide_eq_true (by omega)
      simp only [Sk.V, d1, seek_Step.C, hs, wnext (show k < 4611686018427387904 by omega), joinW_eq, joinW_eq, guard_tt, guard_tf, guard_ft, guard_ff, Int.reduceEq, Int.reduceLT, Int.reduceLE, decide_false, decide_true, Bool.not_false, Bool.not_true, Bool.not_not, not_true_eq_false, not_false_eq_true, true_implies, false_implies, implies_true, and_true, true_and, reduceCtorEq, Bool.and_self, Bool.or_self, Bool.and_true, Bool.true_and, Bool.false_eq_true, if_true, if_false, go_sem, Nat.reduceEqDiff, Nat.reduceLT, Nat.reduceAdd, Nat.reduceSub, Nat.reduceLeDiff, List.reduceReplicate, Int.reduceToNat] at hb ⊢
      exact ⟨⟨by have := words_len hok; omega, by omega⟩, hb⟩
    · obtain rfl : k = seenT n := by omega
      clear back
      rw [decide_eq_true rfl] at hov
      have hend := look_end (n := n)
      have hst : stepS (wordsNd n) (seenS n (seenT n)) = seenS n (seenT n) := stepS_over hov
      have hlv : seenT n = 13 ∨ seenT n < 13 := by omega
      generalize hse : seenS n (seenT n) = s at *
      obtain ⟨b, t, a, l, o⟩ := s
      simp only at hov hrf hend
      subst hov
      have hsn : n.slots = n_slots := by rw [← hn]
      have htn : n.turn = n_turn := by rw [← hn]
      rw [hsn] at hend
      have hpl := plain_len n_slots
      have hrs : roomy n_slots.length := by unfold roomy; omega
      have hok' := hok
      rw [← hn] at hok'
      have hdn : downB n.turn = decide (n_turn % 2 = 1) := by unfold downB; rw [htn, bit0 hok'.2.2.1 hok'.2.2.2.1]
      have etm : n_turn.tmod 2 = n_turn % 2 := Int.tmod_eq_emod_of_nonneg hok'.2.2.1
      have ewt : IntKind.i64.wrap (n_turn % 2) = n_turn % 2 := w64 (by omega) (by omega)
      have hlr : roomy l.length := by unfold roomy; omega
      have hwl : (wordsNd n).length ≤ 65536 := by have := words_len hok; omega
      by_cases hodd : n_turn % 2 = 1
      · rw [hdn, decide_eq_true hodd, if_pos rfl] at hend
        cases hd : decide ((seenT n : Int) < 13)
        all_goals
          simp only [Sk.V, hd, etm, ewt, hodd, lamplighterref06_Plain.C, joinW_eq, decide_true, joinW_eq, guard_tt, guard_tf, guard_ft, guard_ff, Int.reduceEq, Int.reduceLT, Int.reduceLE, decide_false, decide_true, Bool.not_false, Bool.not_true, Bool.not_not, not_true_eq_false, not_false_eq_true, true_implies, false_implies, implies_true, and_true, true_and, reduceCtorEq, Bool.and_self, Bool.or_self, Bool.and_true, Bool.true_and, Bool.false_eq_true, if_true, if_false, go_sem, Nat.reduceEqDiff, Nat.reduceLT, Nat.reduceAdd, Nat.reduceSub, Nat.reduceLeDiff, List.reduceReplicate, Int.reduceToNat]
          refine ⟨hrs, ?_⟩
          unfold lamplighterlaw13_SeekAll.L2
          refine loop2 (σ := Nat) (fun j => .sref false 2 j 0 j) (fun j => .int .i64 ((plain n_slots).length - 1 - j)) (fun j => [.box (.agg [.int .i64 n_level, .int .i64 n_turn, .int .i64 n_next, .int .i64 n_low, .sl false (.ints .i64 n_slots)]), .box (Sk.V ⟨b, t, a, l, true⟩), .row .own j (.ints .i64 ((plain n_slots).reverse.take j))]) (fun j => (plain n_slots).length - j) (fun j => j ≤ (plain n_slots).length) 0 ?_ rfl (Nat.zero_le _) ?_
          · rw [w64 (by omega) (by omega)]; simp
          intro I2 back2 j hj
          generalize plain n_slots = P at *
          by_cases hjl : j < P.length
          · have hb : ∀ (n : Nat) (lv : List AV) (h : List AObj), _ := fun n lv h => @back2 n lv h (j + 1)
            have ej : (P.length : Int) - 1 - j = ((P.length - 1 - j : Nat) : Int) := by omega
            have hg : P.reverse.getD j 0 = P.getD (P.length - 1 - j) 0 := by
              rw [List.getD_eq_getElem?_getD, List.getElem?_reverse hjl, ← List.getD_eq_getElem?_getD]
            have e1 : IntKind.i64.wrap (((P.length - 1 - j : Nat) : Int) - 1) = (P.length : Int) - 1 - ((j + 1 : Nat) : Int) := by rw [w64 (by omega) (by omega)]; omega
            rw [take_next P.reverse j 0 (by simpa using hjl), hg] at hb
            have hl1 : (P.reverse.take j ++ [P.getD (P.length - 1 - j) 0]).length = j + 1 := by simp; omega
            rw [ej]
            simp only [e1, Sk.V, Int.toNat_natCast, joinW_eq, guard_tt, guard_tf, guard_ft, guard_ff, Int.reduceEq, Int.reduceLT, Int.reduceLE, decide_false, decide_true, Bool.not_false, Bool.not_true, Bool.not_not, not_true_eq_false, not_false_eq_true, true_implies, false_implies, implies_true, and_true, true_and, reduceCtorEq, Bool.and_self, Bool.or_self, Bool.and_true, Bool.true_and, Bool.false_eq_true, if_true, if_false, go_sem, Nat.reduceEqDiff, Nat.reduceLT, Nat.reduceAdd, Nat.reduceSub, Nat.reduceLeDiff, List.reduceReplicate, Int.reduceToNat] at hb ⊢
            refine ⟨fun _ => ⟨⟨by omega, by omega⟩, ⟨by simp; omega, by rw [hl1]; unfold roomy; omega⟩, hb _ _ _ (by omega) (by rw [hl1]) rfl (by omega)⟩, fun h => absurd h (by omega)⟩
          · obtain rfl : j = P.length := by omega
            have ej : (P.length : Int) - 1 - P.length = -1 := by omega
            have hrv : (P.reverse.take P.length).take P.length = P.reverse := by rw [List.take_of_length_le (by simp), List.take_of_length_le (by simp)]
            subst hend
            have hPr : decide (P.reverse = P.reverse) = true := decide_eq_true rfl
            rw [ej]
            simp only [Sk.V, hrv, hst, hPr, seek_Step.C, lamplighterref02_Numbers.C, lamplighterref13_Same.C, sameS_self, etm, ewt, hodd, decide_true, joinW_eq, guard_tt, guard_tf, guard_ft, guard_ff, Int.reduceEq, Int.reduceLT, Int.reduceLE, decide_false, decide_true, Bool.not_false, Bool.not_true, Bool.not_not, not_true_eq_false, not_false_eq_true, true_implies, false_implies, implies_true, and_true, true_and, reduceCtorEq, Bool.and_self, Bool.or_self, Bool.and_true, Bool.true_and, Bool.false_eq_true, if_true, if_false, go_sem, Nat.reduceEqDiff, Nat.reduceLT, Nat.reduceAdd, Nat.reduceSub, Nat.reduceLeDiff, List.reduceReplicate, Int.reduceToNat]
            exact ⟨hlr, ⟨hwl, by omega⟩, hlr, rfl⟩
      · rw [hdn, decide_eq_false hodd, if_neg (by decide)] at hend
        have hTv : seenT n = min n_slots.length 12 + 1 := by unfold seenT; rw [hdn, decide_eq_false hodd, if_neg (by decide), hsn]
        subst hend
        have hPr : decide (plain n_slots = plain n_slots) = true := decide_eq_true rfl
        have hmin : decide ((seenT n : Int) = if 13 < IntKind.i64.wrap ((n_slots.length : Int) + 1) then 13 else IntKind.i64.wrap ((n_slots.length : Int) + 1)) = true := by
          rw [wnext (by omega), hTv]
          refine decide_eq_true ?_
          split <;> omega
        cases hd : decide ((seenT n : Int) < 13)
        all_goals
          simp only [Sk.V, hd, hst, hPr, hmin, etm, ewt, hodd, lamplighterref06_Plain.C, seek_Step.C, lamplighterref02_Numbers.C, lamplighterref13_Same.C, sameS_self, joinW_eq, decide_true, decide_false, joinW_eq, guard_tt, guard_tf, guard_ft, guard_ff, Int.reduceEq, Int.reduceLT, Int.reduceLE, decide_false, decide_true, Bool.not_false, Bool.not_true, Bool.not_not, not_true_eq_false, not_false_eq_true, true_implies, false_implies, implies_true, and_true, true_and, reduceCtorEq, Bool.and_self, Bool.or_self, Bool.and_true, Bool.true_and, Bool.false_eq_true, if_true, if_false, go_sem, Nat.reduceEqDiff, Nat.reduceLT, Nat.reduceAdd, Nat.reduceSub, Nat.reduceLeDiff, List.reduceReplicate, Int.reduceToNat]
          exact ⟨hrs, hlr, ⟨hwl, by omega⟩, hlr, rfl⟩
theorem SeekAll_ok : Ok Try.prog SeekAll_ctx := ctx_ok (by simpa using ⟨lamplighterlaw13_awake.spec, node_Words.spec, seek_Begin.spec, seek_Step.spec, lamplighterref06_Plain.spec, lamplighterref02_Numbers.spec, lamplighterref13_Same.spec⟩) (by simp) _
theorem SeekAll_law (n : AV) (g_n : GoodV T_api_Node n) : funW SeekAll_ctx Try.f10 [n] [] Told := by
  obtain ⟨_, rfl, _, _, rfl, ⟨n_level, rfl, w_n_level⟩, _, _, rfl, ⟨n_turn, rfl, w_n_turn⟩, _, _, rfl, ⟨n_next, rfl, w_n_next⟩, _, _, rfl, ⟨n_low, rfl, w_n_low⟩, _, _, rfl, ⟨n_slots, rfl, k_n_slots, w_n_slots, n_n_slots⟩, rfl⟩ := g_n
  obtain ⟨n_slots, rfl⟩ := gkind_ints k_n_slots
  rw [SeekAll_ctx, lamplighterlaw13_SeekAll.eq]
  exact SeekAll_vc n_level n_turn n_next n_low n_slots w_n_level w_n_turn w_n_next w_n_low w_n_slots n_n_slots
end Lam
