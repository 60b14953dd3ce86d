/- What functions of the program come to, each proved from its code. -/
import Derived.Test.YtdnhjeoacanbcaaLm4
set_option linter.unnecessarySimpa false
set_option linter.unusedSectionVars false
namespace Lam
open Go Go.Proofs
set_option linter.unusedVariables false
set_option linter.unusedSimpArgs false
theorem sum_table_L2 (c t3 : Int) (xs : List Int) (h : List AObj) (J : AV → AV → AV → AV → List AObj → Prop) (K : AOut → List AObj → Prop) (hh : h = [AObj.row .arr 0 (.ints .u32 xs)])
    (hJ : J (.ptr 0 []) (.int .i64 t3) (.int .u32 (bitN 8 c)) (.int .i64 t3) h) :
    sum_table.L2 (ctx [] [] sum_table.loops) J K [.int .u32 c, .int .i64 0] h 1 (.ptr 0 []) (.int .i64 t3) (.int .i64 t3) := by
  unfold sum_table.L2
  refine ⟨fun n lv h' => ∃ k : Nat, k + n = 8 ∧ lv = [.int .u32 (bitN k c), .int .i64 k] ∧ h' = h, ⟨8, 0, rfl, rfl, rfl⟩, ?_⟩
  rintro n h' t2 t8 ⟨k, hk, hlv, rfl⟩
  simp only [List.cons.injEq, and_true] at hlv
  obtain ⟨rfl, rfl⟩ := hlv
  subst hh
  simp only [go_sem, Nat.reduceLT]
  refine ⟨fun hlt => ⟨by decide, n - 1, by omega, k + 1, by omega, ?_⟩, fun hge => ?_⟩
  · rw [w64 (by omega) (by omega)]
    rfl
  · have : k = 8 := by omega
    subst this; exact hJ

theorem sum_table_L1 (J : AV → List AObj → Prop) (K : AOut → List AObj → Prop) (hJ : J (.ptr 0 []) [AObj.row .arr 0 (.ints .u32 tabL)]) :
    sum_table.L1 (ctx [] [] sum_table.loops) J K [.int .i64 0] [AObj.row .arr 0 (.ints .u32 (List.replicate 256 0))] 1 (.ptr 0 []) := by
  unfold sum_table.L1
  refine ⟨fun n lv h' => ∃ k : Nat, k + n = 256 ∧ lv = [.int .i64 k] ∧ h' = [AObj.row .arr 0 (.ints .u32 ((List.range k).map tabE ++ List.replicate n 0))], ⟨256, 0, rfl, rfl, rfl⟩, ?_⟩
  rintro n h' t3 ⟨k, hk, hlv, rfl⟩
  simp only [List.cons.injEq, and_true] at hlv
  subst hlv
  simp only [go_sem, Nat.reduceLT]
  refine ⟨fun hlt => ?_, fun hge => ?_⟩
  · simp only [joinW_eq]
    apply sum_table_L2 _ _ _ _ _ _ rfl
    have hlen : ((List.range k).map tabE ++ List.replicate n 0).length = 256 := by simp; omega
    simp only [go_sem, Nat.reduceLT, hlen, Int.toNat_natCast]
    refine ⟨by omega, by omega, n - 1, by omega, k + 1, by omega, ?_, ?_⟩
    · rw [w64 (by omega) (by omega)]; rfl
    · obtain ⟨m, rfl⟩ : ∃ m, n = m + 1 := ⟨n - 1, by omega⟩
      simp [List.range_succ, List.replicate_succ, tabE]
  · have hn : n = 0 := by omega
    have hk : k = 256 := by omega
    subst hn hk
    simpa [tabL] using hJ

theorem sum_table_vc : sum_table.H (ctx [] [] sum_table.loops) [] (Post false (.arr (.ints .u32 tabL)) []) := by
  unfold sum_table.H
  simp only [go_sem, Nat.reduceLT]
  simp only [joinW_eq]
  apply sum_table_L1
  have : tabL.length = 256 := by simp [tabL]
  simp only [go_sem, this]
  exact post_val rfl rfl

def sum_table.C : Contract
  | [] => some (false, pD True (.arr (.ints .u32 tabL)))
  | _ => none
theorem sum_table.spec : FSpec Try.prog 132 sum_table.C := by
  refine FSpec.of (ctx_ok (F := []) (S := []) (by simp) (by simp) sum_table.loops) sum_table.at sum_table.nm sum_table.bd ?_
  intro vs b S v news e hS
  unfold sum_table.C at e
  split at e
  rotate_left
  · cases e
  rw [sum_table.eq]
  cases e
  exact sum_table_vc
def sum_with.K : Con := fun args h K => match args with
  | [a0, a1, a2] => sum_with.H (ctx [] [] sum_with.loops) a0 a1 a2 h K
  | _ => False
theorem sum_with.spec : SSpec Try.prog 138 sum_with.K := by
  refine SSpec.of (ctx_ok (F := []) (S := []) (by simp) (by simp) sum_with.loops) sum_with.at sum_with.nm sum_with.bd ?_
  intro args h K hC
  unfold sum_with.K at hC
  split at hC
  · rw [sum_with.eq]; exact hC
  · exact hC.elim
theorem sum_with_vc (t : List Int) (ht : t.length = 256) (c b : Int) (h : List AObj) (K : AOut → List AObj → Prop) (id : Nat) (hid : h[id]? = some (.row .arr 0 (.ints .u32 t))) (hK : K (.ret (.int .u32 (withS t c b))) h) :
    sum_with.K [.ptr id [], .int .u32 c, .int .u8 b] h K := by
  unfold sum_with.K
  simp only
  unfold sum_with.H
  simp only [go_sem, hid, ht]
  have hr : 0 ≤ xorI .u8 (IntKind.u8.wrap c) b ∧ xorI .u8 (IntKind.u8.wrap c) b < 256 := u8_range _
  exact ⟨by decide, hr, (Int.toNat_lt hr.1).2 hr.2, hK⟩

def sum_word.K : Con := fun args h K => match args with
  | [a0, a1, a2] => sum_word.H (ctx [] [(138, sum_with.K)] sum_word.loops) a0 a1 a2 h K
  | _ => False
theorem sum_word.spec : SSpec Try.prog 133 sum_word.K := by
  refine SSpec.of (ctx_ok (F := []) (S := [(138, sum_with.K)]) (by simp) (by simpa using sum_with.spec) sum_word.loops) sum_word.at sum_word.nm sum_word.bd ?_
  intro args h K hC
  unfold sum_word.K at hC
  split at hC
  · rw [sum_word.eq]; exact hC
  · exact hC.elim
theorem sum_word_vc (t : List Int) (ht : t.length = 256) (c w : Int) (h : List AObj) (K : AOut → List AObj → Prop) (hh : h = [.row .arr 0 (.ints .u32 t)]) (hK : K (.ret (.int .u32 (wordS t c w))) h) :
    sum_word.K [.ptr 0 [], .int .u32 c, .int .i64 w] h K := by
  unfold sum_word.K
  simp only
  unfold sum_word.H
  subst hh
  simp only [joinW_eq, go_sem, Nat.reduceLT]
  unfold sum_word.L1
  refine ⟨fun n lv h' => ∃ k : Nat, k + n = 8 ∧ lv = [.int .u32 (wordN t w k c), .int .i64 (56 - 8 * k)] ∧ h' = [.row .arr 0 (.ints .u32 t)], ⟨8, 0, rfl, rfl, rfl⟩, ?_⟩
  rintro n h' t1 t7 ⟨k, hk, hlv, rfl⟩
  simp only [List.cons.injEq, and_true] at hlv
  obtain ⟨rfl, rfl⟩ := hlv
  simp only [go_sem, Nat.reduceLT, Nat.reduceEqDiff]
  refine ⟨fun hlt => ?_, fun hge => ?_⟩
  · refine ⟨hlt, ?_⟩
    apply sum_with_vc t ht _ _ _ _ _ rfl
    simp only [go_sem, Nat.reduceLT]
    refine ⟨n - 1, by omega, k + 1, by omega, ?_⟩
    rw [w64 (by omega) (by omega)]
    simp only [wordN]
    congr 3
    omega
  · have : k = 8 := by omega
    subst this; exact hK

def sum_Of.C : Contract
  | [.sl _ (.ints .i64 l)] => some (false, pD (roomy l.length) (.int .i64 (sumOf l)))
  | _ => none
theorem sum_Of.spec : FSpec Try.prog 116 sum_Of.C := by
  refine FSpec.of (ctx_ok (F := [(132, sum_table.C)]) (S := [(133, sum_word.K)]) (by simpa using sum_table.spec) (by simpa using sum_word.spec) sum_Of.loops) sum_Of.at sum_Of.nm sum_Of.bd ?_
  intro vs b S v news e hS
  unfold sum_Of.C at e
  split at e
  rotate_left
  · cases e
  rw [sum_Of.eq]
  rename_i x l
  cases e
  unfold roomy at hS
  unfold sum_Of.H
  have htl : tabL.length = 256 := tabL_len
  simp only [go_sem, Nat.reduceEqDiff, Nat.reduceLT, sum_table.C, htl, List.length_replicate, joinW_eq]
  unfold sum_Of.L1
  refine ⟨fun n lv h' => ∃ k : Nat, k + n = l.length ∧ lv = [.int .u32 ((l.take k).foldl (wordS tabL) 4294967295), .int .i64 k] ∧ h' = [.row .arr 0 (.ints .u32 tabL)], ⟨l.length, 0, by omega, rfl, rfl⟩, ?_⟩
  rintro n h' t4 t10 ⟨k, hk, hlv, rfl⟩
  simp only [List.cons.injEq, and_true] at hlv
  obtain ⟨rfl, rfl⟩ := hlv
  simp only [go_sem, Nat.reduceLT, Nat.reduceEqDiff]
  refine ⟨fun hlt => ?_, fun hge => ?_⟩
  · refine ⟨by omega, ?_⟩
    apply sum_word_vc tabL htl _ _ _ _ rfl
    simp only [go_sem, Nat.reduceLT]
    refine ⟨n - 1, by omega, k + 1, by omega, ?_⟩
    rw [w64 (by omega) (by omega)]
    have hkl : k < l.length := by omega
    have : l.take (k + 1) = l.take k ++ [l.getD k 0] := by
      rw [List.take_add_one, List.getElem?_eq_getElem hkl, List.getD_eq_getElem?_getD, List.getElem?_eq_getElem hkl]; rfl
    rw [this, List.foldl_append]
    rfl
  · have : k = l.length := by omega
    subst this
    rw [List.take_length]
    exact post_val rfl rfl
end Lam
namespace Lam
open Go Go.Proofs
set_option linter.unusedVariables false
def pmem_New.loops : Nat → LInfo
  | _ => ⟨[], [], [], [], []⟩
def pmem_New.H (c : Ctx) (t0 : AV) (h : List AObj) (K : AOut → List AObj → Prop) : Prop :=
  allocW T_api_Mem h fun t2 h =>
  runD (lenD T_sl_int h t0) h fun t5 h =>
  callW c (.fn (.func 123) [] []) [t5] h (fun t6 h =>
  runD (unD .not t6) h fun t7 h =>
  condW t7
  (runD (buildD T_api_Mem []) h fun t8 h =>
    runH (storeH T_api_Mem h t2 t8) h fun _ h =>
    loadRes (fitD T_api_Mem (loadD h t2)) fun r0 => K (.ret (.tup [r0, (.int .i64 40)])) h)
  (callW c (.fn (.func 92) [] []) [t0] h (fun t10 h =>
  callW c (.fn (.func 92) [] []) [t0] h (fun t12 h =>
  runD (buildD T_api_Mem [(0, t10), (1, t12)]) h fun t13 h =>
  runH (storeH T_api_Mem h t2 t13) h fun _ h =>
  loadRes (fitD T_api_Mem (loadD h t2)) fun r0 => K (.ret (.tup [r0, (.int .i64 0)])) h)
  (fun v h => K (.pan v) h))
  (fun v h => K (.pan v) h)))
  (fun v h => K (.pan v) h)
def pmem_Crash.loops : Nat → LInfo
  | 5 => ⟨[15], [false], [2, 6, 13, 14], [], []⟩
  | _ => ⟨[], [], [], [], []⟩
def pmem_Crash.L1 (c : Ctx) (J1 : AV → AV → List AObj → Prop) (K : AOut → List AObj → Prop) (lv : List AV) (h0 : List AObj) (n0 : Nat) (c2 : AV) (c6 : AV) (c13 : AV) (c14 : AV) : Prop :=
  ∃ I : Nat → List AV → List AObj → Prop, (∃ n, I n lv h0) ∧ ∀ n h, ∀ t15, I n [t15] h →
    runD (binD T_int .lss t15 c14) h fun t16 h =>
    condW t16
    (runD (indexAddrD T_sl_int h c13 t15) h fun t18 h =>
    runD (fitD T_int (loadD h t18)) h fun t19 h =>
    runD (fitD T_map_int_int (loadD h c6)) h fun t20 h =>
    runH (mapSetH T_map_int_int h t20 t15 t19) h fun _ h =>
    runD (binD T_int .add t15 (.int .i64 1)) h fun t23 h =>
    (∃ m, m < n ∧ I m (AV.norms n0 h [t23]) (normH n0 h)) ∧ AV.norms n0 h [c2, c6, c13, c14] = [c2, c6, c13, c14])
    (J1 c2 c6 h)
def pmem_Crash.H (c : Ctx) (t0 : AV) (t1 : AV) (h : List AObj) (K : AOut → List AObj → Prop) : Prop :=
  boxW T_api_Mem t0 h fun t2 h =>
  runD (fitD T_api_Mem (loadD h t2)) h fun t9 h =>
  callW c (.fn (.func 124) [] []) [t9] h (fun t10 h =>
  runD (unD .not t10) h fun t11 h =>
  condW t11
  (K (.ret (.tup [(.sl true (.ints .i64 [])), (.int .i64 40)])) h)
  (runD (makeMapD T_map_int_int h.length) h fun t12 h =>
  allocW T_map_int_int h fun t6 h =>
  runH (storeH T_map_int_int h t6 t12) h fun _ h =>
  runD (lenD T_sl_int h t1) h fun t14 h =>
  joinW (fun (J1 : AV → AV → List AObj → Prop) =>
  promV [false] [(.int .i64 0)] h fun lv h => pmem_Crash.L1 c J1 K (AV.norms h.length h lv) (normH h.length h) h.length (AV.norm h.length h t2) (AV.norm h.length h t6) (AV.norm h.length h t1) (AV.norm h.length h t14))
  (fun t2 t6 h => runD (fitD T_api_Mem (loadD h t2)) h fun t24 h =>
  callW c (.fn (.func 129) [] []) [t24, (.fn (.func 130) [] [t6])] h (fun t26 h =>
  runD (fieldD T_api_Mem t26 1) h fun t27 h =>
  K (.ret (.tup [t27, (.int .i64 0)])) h)
  (fun v h => K (.pan v) h))))
  (fun v h => K (.pan v) h)
def pmem_sized.loops : Nat → LInfo
  | 1 => ⟨[], [], [], [(3, none), (3, some [5, 8])], []⟩
  | _ => ⟨[], [], [], [], []⟩
def pmem_sized.H (c : Ctx) (t0 : AV) (h : List AObj) (K : AOut → List AObj → Prop) : Prop :=
  runD (binD T_int .leq t0 (.int .i64 4096)) h fun t4 h =>
  joinW (fun (J1 : AV → AV → List AObj → Prop) =>
  guardW t4 true
  (runD (binD T_int .rem t0 (.int .i64 8)) h fun t7 h =>
    runD (binD T_int .eql t7 (.int .i64 0)) h fun t8 h =>
    J1 (.bool true) t8 h)
  (J1 (.bool false) .und h))
  (fun t5 t8 h => runD (pickD t5 t8 (.bool false)) h fun t9 h =>
  K (.ret t9) h)
def pmem_Check.loops : Nat → LInfo
  | 1 => ⟨[], [], [], [(8, none), (5, some [14, 19])], []⟩
  | 6 => ⟨[28], [false], [1, 3, 4, 26, 27], [], []⟩
  | 8 => ⟨[], [], [], [(4, none), (5, some [35, 40]), (2, none), (9, some [42, 51])], []⟩
  | 10 => ⟨[], [], [], [(10, none), (3, some [62, 65])], []⟩
  | _ => ⟨[], [], [], [], []⟩
def pmem_Check.L1 (c : Ctx) (J2 : AV → AV → List AObj → Prop) (K : AOut → List AObj → Prop) (lv : List AV) (h0 : List AObj) (n0 : Nat) (c1 : AV) (c3 : AV) (c4 : AV) (c26 : AV) (c27 : AV) : Prop :=
  ∃ I : Nat → List AV → List AObj → Prop, (∃ n, I n lv h0) ∧ ∀ n h, ∀ t28, I n [t28] h →
    runD (binD T_int .lss t28 c27) h fun t29 h =>
    condW t29
    (runD (indexAddrD T_sl_api_Pending h c26 t28) h fun t30 h =>
    runD (fitD T_api_Pending (loadD h t30)) h fun t31 h =>
    allocW T_api_Pending h fun t6 h =>
    runH (storeH T_api_Pending h t6 t31) h fun _ h =>
    runD (fieldAddrD T_api_Pending t6 0) h fun t32 h =>
    runD (fitD T_int (loadD h t32)) h fun t33 h =>
    runD (binD T_int .lss t33 (.int .i64 0)) h fun t34 h =>
    joinW (fun (J3 : AV → AV → List AObj → Prop) =>
    guardW t34 false
    (runD (fieldAddrD T_api_Pending t6 0) h fun t36 h =>
      runD (fitD T_int (loadD h t36)) h fun t37 h =>
      runD (lenD T_sl_int h c3) h fun t39 h =>
      runD (binD T_int .geq t37 t39) h fun t40 h =>
      J3 (.bool false) t40 h)
    (J3 (.bool true) .und h))
    (fun t35 t40 h => runD (pickD t35 (.bool true) t40) h fun t41 h =>
    joinW (fun (J4 : AV → AV → List AObj → Prop) =>
    guardW t41 false
    (runD (fieldAddrD T_api_Pending t6 2) h fun t43 h =>
      runD (fitD T_bool (loadD h t43)) h fun t44 h =>
      joinW (fun (J5 : AV → AV → List AObj → Prop) =>
      guardW t44 true
      (runD (fieldAddrD T_api_Pending t6 0) h fun t47 h =>
        runD (fitD T_int (loadD h t47)) h fun t48 h =>
        runD (binD T_int .quo t48 (.int .i64 8)) h fun t49 h =>
        runD (lookupD T_map_int_bool h c4 t49) h fun t50 h =>
        J5 (.bool true) t50 h)
      (J5 (.bool false) .und h))
      (fun t45 t50 h => runD (pickD t45 t50 (.bool false)) h fun t51 h =>
      J4 (.bool false) t51 h))
    (J4 (.bool true) .und h))
    (fun t42 t51 h => runD (pickD t42 (.bool true) t51) h fun t52 h =>
    condW t52
    (K (.ret (.bool false)) h)
    (runD (fieldAddrD T_api_Pending t6 0) h fun t54 h =>
    runD (fitD T_int (loadD h t54)) h fun t55 h =>
    runD (binD T_int .quo t55 (.int .i64 8)) h fun t56 h =>
    runD (fieldAddrD T_api_Pending t6 0) h fun t58 h =>
    runD (fitD T_int (loadD h t58)) h fun t59 h =>
    runD (binD T_int .quo t59 (.int .i64 8)) h fun t60 h =>
    runD (lookupD T_map_int_bool h c4 t60) h fun t61 h =>
    joinW (fun (J6 : AV → AV → List AObj → Prop) =>
    guardW t61 false
    (runD (fieldAddrD T_api_Pending t6 2) h fun t63 h =>
      runD (fitD T_bool (loadD h t63)) h fun t64 h =>
      runD (unD .not t64) h fun t65 h =>
      J6 (.bool false) t65 h)
    (J6 (.bool true) .und h))
    (fun t62 t65 h => runD (pickD t62 (.bool true) t65) h fun t66 h =>
    runH (mapSetH T_map_int_bool h c4 t56 t66) h fun _ h =>
    runD (fieldAddrD T_api_Pending t6 0) h fun t68 h =>
    runD (fitD T_int (loadD h t68)) h fun t69 h =>
    runD (fieldAddrD T_api_Pending t6 1) h fun t70 h =>
    runD (fitD T_int (loadD h t70)) h fun t71 h =>
    runD (indexAddrD T_sl_int h c3 t69) h fun t72 h =>
    runH (storeH T_int h t72 t71) h fun _ h =>
    runD (binD T_int .add t28 (.int .i64 1)) h fun t73 h =>
    (∃ m, m < n ∧ I m (AV.norms n0 h [t73]) (normH n0 h)) ∧ AV.norms n0 h [c1, c3, c4, c26, c27] = [c1, c3, c4, c26, c27])))))
    (J2 c1 c3 h)
def pmem_Check.H (c : Ctx) (t0 : AV) (h : List AObj) (K : AOut → List AObj → Prop) : Prop :=
  boxW T_api_Mem t0 h fun t1 h =>
  runD (fieldAddrD T_api_Mem t1 0) h fun t7 h =>
  runD (fitD T_sl_int (loadD h t7)) h fun t8 h =>
  runD (lenD T_sl_int h t8) h fun t9 h =>
  runD (fieldAddrD T_api_Mem t1 1) h fun t10 h =>
  runD (fitD T_sl_int (loadD h t10)) h fun t11 h =>
  runD (lenD T_sl_int h t11) h fun t12 h =>
  runD (binD T_int .neq t9 t12) h fun t13 h =>
  joinW (fun (J1 : AV → AV → List AObj → Prop) =>
  guardW t13 false
  (runD (fieldAddrD T_api_Mem t1 0) h fun t15 h =>
    runD (fitD T_sl_int (loadD h t15)) h fun t16 h =>
    runD (lenD T_sl_int h t16) h fun t17 h =>
    callW c (.fn (.func 123) [] []) [t17] h (fun t18 h =>
    runD (unD .not t18) h fun t19 h =>
    J1 (.bool false) t19 h)
    (fun v h => K (.pan v) h))
  (J1 (.bool true) .und h))
  (fun t14 t19 h => runD (pickD t14 (.bool true) t19) h fun t20 h =>
  condW t20
  (K (.ret (.bool false)) h)
  (runD (fieldAddrD T_api_Mem t1 1) h fun t21 h =>
  runD (fitD T_sl_int (loadD h t21)) h fun t22 h =>
  callW c (.fn (.func 92) [] []) [t22] h (fun t23 h =>
  runD (makeMapD T_map_int_bool h.length) h fun t24 h =>
  runD (fieldAddrD T_api_Mem t1 2) h fun t25 h =>
  runD (fitD T_sl_api_Pending (loadD h t25)) h fun t26 h =>
  runD (lenD T_sl_api_Pending h t26) h fun t27 h =>
  joinW (fun (J2 : AV → AV → List AObj → Prop) =>
  promV [false] [(.int .i64 0)] h fun lv h => pmem_Check.L1 c J2 K (AV.norms h.length h lv) (normH h.length h) h.length (AV.norm h.length h t1) (AV.norm h.length h t23) (AV.norm h.length h t24) (AV.norm h.length h t26) (AV.norm h.length h t27))
  (fun t1 t3 h => runD (fieldAddrD T_api_Mem t1 0) h fun t75 h =>
  runD (fitD T_sl_int (loadD h t75)) h fun t76 h =>
  callW c (.fn (.func 78) [] []) [t3, t76] h (fun t77 h =>
  K (.ret t77) h)
  (fun v h => K (.pan v) h)))
  (fun v h => K (.pan v) h)))
def pmem_keep.loops : Nat → LInfo
  | 3 => ⟨[17], [false], [1, 4, 5, 15, 16], [], [5]⟩
  | _ => ⟨[], [], [], [], []⟩
def pmem_keep.L1 (c : Ctx) (J1 : AV → AV → List AObj → Prop) (K : AOut → List AObj → Prop) (lv : List AV) (h0 : List AObj) (n0 : Nat) (c1 : AV) (c4 : AV) (c5 : AV) (c15 : AV) (c16 : AV) : Prop :=
  ∃ I : Nat → List AV → List AObj → Prop, (∃ n, I n lv h0) ∧ ∀ n h, ∀ t17, I n [t17] h →
    runD (binD T_int .lss t17 c16) h fun t18 h =>
    condW t18
    (joinW (fun (J2 : List AObj → Prop) =>
    runD (indexAddrD T_sl_api_Pending h c15 t17) h fun t19 h =>
    runD (fitD T_api_Pending (loadD h t19)) h fun t20 h =>
    allocW T_api_Pending h fun t7 h =>
    runH (storeH T_api_Pending h t7 t20) h fun _ h =>
    runD (fitD T_api_Pending (loadD h t7)) h fun t22 h =>
    callW c c1 [t22] h (fun t23 h =>
    condW t23
    (runD (fieldAddrD T_api_Mem c5 1) h fun t24 h =>
      runD (fitD T_sl_int (loadD h t24)) h fun t25 h =>
      runD (fieldAddrD T_api_Pending t7 0) h fun t26 h =>
      runD (fitD T_int (loadD h t26)) h fun t27 h =>
      runD (fieldAddrD T_api_Pending t7 1) h fun t28 h =>
      runD (fitD T_int (loadD h t28)) h fun t29 h =>
      runD (indexAddrD T_sl_int h t25 t27) h fun t30 h =>
      runH (storeH T_int h t30 t29) h fun _ h =>
      J2 h)
    (runD (fieldAddrD T_api_Mem c5 2) h fun t31 h =>
    runD (fitD T_sl_api_Pending (loadD h t31)) h fun t32 h =>
    runD (fitD T_api_Pending (loadD h t7)) h fun t33 h =>
    runD (buildSliceD T_sl_api_Pending 1 [(0, t33)] h.length) h fun t34 h =>
    runDM (appendD T_sl_api_Pending h t32 t34 h.length) (appendH T_sl_api_Pending h t32 t34) h fun t35 h =>
    runD (fieldAddrD T_api_Mem c5 2) h fun t36 h =>
    runH (storeH T_sl_api_Pending h t36 t35) h fun _ h =>
    J2 h))
    (fun v h => K (.pan v) h))
    (fun h => runD (binD T_int .add t17 (.int .i64 1)) h fun t37 h =>
    (∃ m, m < n ∧ I m (AV.norms n0 h [t37]) (normH n0 h)) ∧ AV.norms n0 h [c1, c4, c5, c15, c16] = [c1, c4, c5, c15, c16]))
    (J1 c4 c5 h)
def pmem_keep.H (c : Ctx) (t0 : AV) (t1 : AV) (h : List AObj) (K : AOut → List AObj → Prop) : Prop :=
  boxW T_api_Mem t0 h fun t2 h =>
  allocW T_api_Mem h fun t4 h =>
  runD (fieldAddrD T_api_Mem t2 0) h fun t8 h =>
  runD (fitD T_sl_int (loadD h t8)) h fun t9 h =>
  runD (fieldAddrD T_api_Mem t2 1) h fun t10 h =>
  runD (fitD T_sl_int (loadD h t10)) h fun t11 h =>
  callW c.noS (.fn (.func 92) [] []) [t11] h (fun t12 h =>
  runD (buildD T_api_Mem [(0, t9), (1, t12)]) h fun t13 h =>
  allocW T_api_Mem h fun t5 h =>
  runH (storeH T_api_Mem h t5 t13) h fun _ h =>
  runD (fieldAddrD T_api_Mem t2 2) h fun t14 h =>
  runD (fitD T_sl_api_Pending (loadD h t14)) h fun t15 h =>
  runD (lenD T_sl_api_Pending h t15) h fun t16 h =>
  joinW (fun (J1 : AV → AV → List AObj → Prop) =>
  promV [false] [(.int .i64 0)] (boxH [t5] h) fun lv h => pmem_keep.L1 c J1 K (AV.norms h.length h lv) (normH h.length h) h.length (AV.norm h.length h t1) (AV.norm h.length h t4) (AV.norm h.length h t5) (AV.norm h.length h t15) (AV.norm h.length h t16))
  (fun t4 t5 h => runD (fitD T_api_Mem (loadD h t5)) h fun t38 h =>
  runH (storeH T_api_Mem h t4 t38) h fun _ h =>
  loadRes (fitD T_api_Mem (loadD h t4)) fun r0 => K (.ret r0) h))
  (fun _ _ => False)
def pmem_Crash_1.loops : Nat → LInfo
  | _ => ⟨[], [], [], [], []⟩
def pmem_Crash_1.H (c : Ctx) (t0 : AV) (t1 : AV) (h : List AObj) (K : AOut → List AObj → Prop) : Prop :=
  boxW T_api_Pending t0 h fun t2 h =>
  runD (fitD T_map_int_int (loadD h t1)) h fun t5 h =>
  runD (fieldAddrD T_api_Pending t2 0) h fun t6 h =>
  runD (fitD T_int (loadD h t6)) h fun t7 h =>
  runD (binD T_int .quo t7 (.int .i64 8)) h fun t8 h =>
  runD (lookupD T_map_int_int h t5 t8) h fun t9 h =>
  runD (fitD T_map_int_int (loadD h t1)) h fun t10 h =>
  runD (fieldAddrD T_api_Pending t2 0) h fun t11 h =>
  runD (fitD T_int (loadD h t11)) h fun t12 h =>
  runD (binD T_int .quo t12 (.int .i64 8)) h fun t13 h =>
  runD (maxD t9 (.int .i64 1)) h fun t15 h =>
  runD (binD T_int .sub t15 (.int .i64 1)) h fun t16 h =>
  runH (mapSetH T_map_int_int h t10 t13 t16) h fun _ h =>
  runD (binD T_int .gtr t9 (.int .i64 0)) h fun t18 h =>
  K (.ret t18) h
def pmem_Put.loops : Nat → LInfo
  | _ => ⟨[], [], [], [], []⟩
def pmem_Put.H (c : Ctx) (t0 : AV) (t1 : AV) (t2 : AV) (h : List AObj) (K : AOut → List AObj → Prop) : Prop :=
  boxW T_api_Mem t0 h fun t3 h =>
  allocW T_api_Mem h fun t6 h =>
  runD (fitD T_api_Mem (loadD h t3)) h fun t9 h =>
  callW c (.fn (.func 145) [] []) [t9, t1] h (fun t11 h =>
  runD (unD .not t11) h fun t12 h =>
  condW t12
  (runD (fitD T_api_Mem (loadD h t3)) h fun t13 h =>
    runH (storeH T_api_Mem h t6 t13) h fun _ h =>
    loadRes (fitD T_api_Mem (loadD h t6)) fun r0 => K (.ret (.tup [r0, (.int .i64 40)])) h)
  (runD (fieldAddrD T_api_Mem t3 0) h fun t14 h =>
  runD (fitD T_sl_int (loadD h t14)) h fun t15 h =>
  runD (lenD T_sl_int h t15) h fun t16 h =>
  runD (makeSliceD T_sl_int t16 t16 h.length) h fun t17 h =>
  runD (fieldAddrD T_api_Mem t3 0) h fun t19 h =>
  runD (fitD T_sl_int (loadD h t19)) h fun t20 h =>
  runM (copyH T_sl_int h t17 t20) h fun t21 h =>
  runD (indexAddrD T_sl_int h t17 t1) h fun t25 h =>
  runH (storeH T_int h t25 t2) h fun _ h =>
  runD (fieldAddrD T_api_Mem t3 1) h fun t27 h =>
  runD (fitD T_sl_int (loadD h t27)) h fun t28 h =>
  runD (fieldAddrD T_api_Mem t3 2) h fun t29 h =>
  runD (fitD T_sl_api_Pending (loadD h t29)) h fun t30 h =>
  callW c.noS (.fn (.func 146) [] []) [t30] h (fun t31 h =>
  runD (buildD T_api_Pending [(0, t1), (1, t2)]) h fun t34 h =>
  runD (buildSliceD T_sl_api_Pending 1 [(0, t34)] h.length) h fun t35 h =>
  runDM (appendD T_sl_api_Pending h t31 t35 h.length) (appendH T_sl_api_Pending h t31 t35) h fun t36 h =>
  runD (buildD T_api_Mem [(0, t17), (1, t28), (2, t36)]) h fun t37 h =>
  runH (storeH T_api_Mem h t6 t37) h fun _ h =>
  sepB t31 [t27] = true ∧ loadRes (fitD T_api_Mem (loadD h t6)) fun r0 => K (.ret (.tup [r0, (.int .i64 0)])) h)
  (fun _ _ => False)))
  (fun v h => K (.pan v) h)
def pmem_Flush.loops : Nat → LInfo
  | _ => ⟨[], [], [], [], []⟩
def pmem_Flush.H (c : Ctx) (t0 : AV) (t1 : AV) (h : List AObj) (K : AOut → List AObj → Prop) : Prop :=
  boxW T_api_Mem t0 h fun t2 h =>
  allocW T_api_Mem h fun t4 h =>
  runD (fitD T_api_Mem (loadD h t2)) h fun t8 h =>
  runD (fitD T_api_Mem (loadD h t2)) h fun t9 h =>
  callW c.noS (.fn (.func 147) [] []) [t9, t1] h (fun t11 h =>
  callW c.noS (.fn (.func 145) [] []) [t8, t11] h (fun t12 h =>
  runD (unD .not t12) h fun t13 h =>
  condW t13
  (runD (fitD T_api_Mem (loadD h t2)) h fun t14 h =>
    runH (storeH T_api_Mem h t4 t14) h fun _ h =>
    loadRes (fitD T_api_Mem (loadD h t4)) fun r0 => K (.ret (.tup [r0, (.int .i64 40)])) h)
  (runD (fieldAddrD T_api_Mem t2 2) h fun t15 h =>
  runD (fitD T_sl_api_Pending (loadD h t15)) h fun t16 h =>
  callW c (.fn (.func 148) [] []) [t16] h (fun t17 h =>
  allocW T_sl_api_Pending h fun t6 h =>
  runH (storeH T_sl_api_Pending h t6 t17) h fun _ h =>
  runD (fitD T_api_Mem (loadD h t2)) h fun t18 h =>
  callW c (.fn (.func 149) [] []) [t18, t1] h (fun t20 h =>
  joinW (fun (J1 : AV → AV → AV → List AObj → Prop) =>
  rangeX c.iterS t20 h
  (fun id r args h K => lpIs h id .ready r ∧ argX1 args fun t21 =>
  lpIs h id .ready r ∧
  runD (fitD T_sl_api_Pending (loadD (List.set h id (.lp .busy none r)) t6)) (List.set h id (.lp .busy none r)) fun t22 h =>
  runD (indexAddrD T_sl_api_Pending h t22 t21) h fun t24 h =>
  runD (fieldAddrD T_api_Pending t24 2) h fun t25 h =>
  runH (storeH T_bool h t25 (.bool true)) h fun _ h =>
  lpIs h id .busy r ∧ K (.ret (.bool true)) (List.set h id (.lp .ready none r)))
  (fun id r ao h => endX id r ao h
  (fun h => J1 t2 t4 t6 h)
  (fun h => loadRes (fitD T_api_Mem (loadD h t4)) fun r0 => K (.ret (.tup [r0, (.int .i64 0)])) h)
  (fun i h => exitW i 0 (J1 t2 t4 t6 h) (False))
  (fun l h => False)
  (fun v h => K (.pan v) h)))
  (fun t2 t4 t6 h => runD (fitD T_sl_api_Pending (loadD h t6)) h fun t26 h =>
  runD (fieldAddrD T_api_Mem t2 2) h fun t27 h =>
  runH (storeH T_sl_api_Pending h t27 t26) h fun _ h =>
  runD (fitD T_api_Mem (loadD h t2)) h fun t28 h =>
  runH (storeH T_api_Mem h t4 t28) h fun _ h =>
  loadRes (fitD T_api_Mem (loadD h t4)) fun r0 => K (.ret (.tup [r0, (.int .i64 0)])) h))
  (fun v h => K (.pan v) h))
  (fun v h => K (.pan v) h)))
  (fun _ _ => False))
  (fun _ _ => False)
def pmem_Fence.loops : Nat → LInfo
  | _ => ⟨[], [], [], [], []⟩
def pmem_Fence.H (c : Ctx) (t0 : AV) (h : List AObj) (K : AOut → List AObj → Prop) : Prop :=
  boxW T_api_Mem t0 h fun t1 h =>
  allocW T_api_Mem h fun t2 h =>
  runD (fitD T_api_Mem (loadD h t1)) h fun t4 h =>
  callW c (.fn (.func 124) [] []) [t4] h (fun t5 h =>
  runD (unD .not t5) h fun t6 h =>
  condW t6
  (runD (fitD T_api_Mem (loadD h t1)) h fun t7 h =>
    runH (storeH T_api_Mem h t2 t7) h fun _ h =>
    loadRes (fitD T_api_Mem (loadD h t2)) fun r0 => K (.ret (.tup [r0, (.int .i64 40)])) h)
  (runD (fitD T_api_Mem (loadD h t1)) h fun t8 h =>
  callW c (.fn (.func 129) [] []) [t8, (.fn (.func 150) [] [])] h (fun t9 h =>
  runH (storeH T_api_Mem h t2 t9) h fun _ h =>
  loadRes (fitD T_api_Mem (loadD h t2)) fun r0 => K (.ret (.tup [r0, (.int .i64 0)])) h)
  (fun v h => K (.pan v) h)))
  (fun v h => K (.pan v) h)
def pmem_place.loops : Nat → LInfo
  | 1 => ⟨[], [], [], [(3, none), (5, some [7, 12]), (2, none), (2, some [14, 16])], []⟩
  | _ => ⟨[], [], [], [], []⟩
def pmem_place.H (c : Ctx) (t0 : AV) (t1 : AV) (h : List AObj) (K : AOut → List AObj → Prop) : Prop :=
  boxW T_api_Mem t0 h fun t2 h =>
  runD (binD T_int .geq t1 (.int .i64 0)) h fun t6 h =>
  joinW (fun (J1 : AV → AV → List AObj → Prop) =>
  guardW t6 true
  (runD (fieldAddrD T_api_Mem t2 0) h fun t9 h =>
    runD (fitD T_sl_int (loadD h t9)) h fun t10 h =>
    runD (lenD T_sl_int h t10) h fun t11 h =>
    runD (binD T_int .lss t1 t11) h fun t12 h =>
    J1 (.bool true) t12 h)
  (J1 (.bool false) .und h))
  (fun t7 t12 h => runD (pickD t7 t12 (.bool false)) h fun t13 h =>
  joinW (fun (J2 : AV → AV → List AObj → Prop) =>
  guardW t13 true
  (runD (fitD T_api_Mem (loadD h t2)) h fun t15 h =>
    callW c (.fn (.func 124) [] []) [t15] h (fun t16 h =>
    J2 (.bool true) t16 h)
    (fun v h => K (.pan v) h))
  (J2 (.bool false) .und h))
  (fun t14 t16 h => runD (pickD t14 t16 (.bool false)) h fun t17 h =>
  K (.ret t17) h))
def pmem_first.loops : Nat → LInfo
  | 1 => ⟨[], [], [], [(3, none), (6, some [7, 13])], []⟩
  | _ => ⟨[], [], [], [], []⟩
def pmem_first.H (c : Ctx) (t0 : AV) (t1 : AV) (h : List AObj) (K : AOut → List AObj → Prop) : Prop :=
  boxW T_api_Mem t0 h fun t2 h =>
  runD (binD T_int .lss t1 (.int .i64 0)) h fun t6 h =>
  joinW (fun (J1 : AV → AV → List AObj → Prop) =>
  guardW t6 false
  (runD (fieldAddrD T_api_Mem t2 0) h fun t9 h =>
    runD (fitD T_sl_int (loadD h t9)) h fun t10 h =>
    runD (lenD T_sl_int h t10) h fun t11 h =>
    runD (binD T_int .quo t11 (.int .i64 8)) h fun t12 h =>
    runD (binD T_int .geq t1 t12) h fun t13 h =>
    J1 (.bool false) t13 h)
  (J1 (.bool true) .und h))
  (fun t7 t13 h => runD (pickD t7 (.bool true) t13) h fun t14 h =>
  condW t14
  (K (.ret (.int .i64 (-1))) h)
  (runD (binD T_int .mul t1 (.int .i64 8)) h fun t16 h =>
  K (.ret t16) h))
def pmem_of.loops : Nat → LInfo
  | _ => ⟨[], [], [], [], []⟩
def pmem_of.H (c : Ctx) (t0 : AV) (t1 : AV) (h : List AObj) (K : AOut → List AObj → Prop) : Prop :=
  boxW T_api_Mem t0 h fun t2 h =>
  boxW T_int t1 h fun t3 h =>
  K (.ret (.fn (.func 151) [] [t2, t3])) h
def pmem_Fence_1.loops : Nat → LInfo
  | _ => ⟨[], [], [], [], []⟩
def pmem_Fence_1.H (c : Ctx) (t0 : AV) (h : List AObj) (K : AOut → List AObj → Prop) : Prop :=
  boxW T_api_Pending t0 h fun t1 h =>
  runD (fieldAddrD T_api_Pending t1 2) h fun t3 h =>
  runD (fitD T_bool (loadD h t3)) h fun t4 h =>
  K (.ret t4) h
def pmem_of_1.loops : Nat → LInfo
  | 1 => ⟨[9], [false], [0, 2, 7, 8], [], []⟩
  | 3 => ⟨[], [], [], [(6, none), (4, some [19, 23])], []⟩
  | _ => ⟨[], [], [], [], []⟩
def pmem_of_1.L1 (c : Ctx) (J1 : List AObj → Prop) (K : AOut → List AObj → Prop) (lv : List AV) (h0 : List AObj) (n0 : Nat) (c0 : AV) (c2 : AV) (c7 : AV) (c8 : AV) : Prop :=
  ∃ I : Nat → List AV → List AObj → Prop, (∃ n, I n lv h0) ∧ ∀ n h, ∀ t9, I n [t9] h →
    runD (binD T_int .lss t9 c8) h fun t10 h =>
    condW t10
    (runD (indexAddrD T_sl_api_Pending h c7 t9) h fun t12 h =>
    runD (fitD T_api_Pending (loadD h t12)) h fun t13 h =>
    allocW T_api_Pending h fun t5 h =>
    runH (storeH T_api_Pending h t5 t13) h fun _ h =>
    runD (fieldAddrD T_api_Pending t5 0) h fun t14 h =>
    runD (fitD T_int (loadD h t14)) h fun t15 h =>
    runD (binD T_int .quo t15 (.int .i64 8)) h fun t16 h =>
    runD (fitD T_int (loadD h c2)) h fun t17 h =>
    runD (binD T_int .eql t16 t17) h fun t18 h =>
    joinW (fun (J2 : AV → AV → List AObj → Prop) =>
    guardW t18 true
    (callW c c0 [t9] h (fun t22 h =>
      runD (unD .not t22) h fun t23 h =>
      J2 (.bool true) t23 h)
      (fun v h => K (.pan v) h))
    (J2 (.bool false) .und h))
    (fun t19 t23 h => runD (pickD t19 t23 (.bool false)) h fun t24 h =>
    condW t24
    (K (.ret (.tup [])) h)
    (runD (binD T_int .add t9 (.int .i64 1)) h fun t25 h =>
    (∃ m, m < n ∧ I m (AV.norms n0 h [t25]) (normH n0 h)) ∧ AV.norms n0 h [c0, c2, c7, c8] = [c0, c2, c7, c8])))
    (J1 h)
def pmem_of_1.H (c : Ctx) (t0 : AV) (t1 : AV) (t2 : AV) (h : List AObj) (K : AOut → List AObj → Prop) : Prop :=
  runD (fieldAddrD T_api_Mem t1 2) h fun t6 h =>
  runD (fitD T_sl_api_Pending (loadD h t6)) h fun t7 h =>
  runD (lenD T_sl_api_Pending h t7) h fun t8 h =>
  joinW (fun (J1 : List AObj → Prop) =>
  promV [false] [(.int .i64 0)] h fun lv h => pmem_of_1.L1 c J1 K (AV.norms h.length h lv) (normH h.length h) h.length (AV.norm h.length h t0) (AV.norm h.length h t2) (AV.norm h.length h t7) (AV.norm h.length h t8))
  (fun h => K (.ret (.tup [])) h)
theorem pmem_New.eq (F : List (FuncId × Contract)) (S : List (FuncId × Con)) (t0 : AV) (h : List AObj) (K : AOut → List AObj → Prop) : funW (ctx F S pmem_New.loops) Try.f103 [t0] h K = pmem_New.H (ctx F S pmem_New.loops) t0 h K := by kernel_rfl
theorem pmem_Crash.eq (F : List (FuncId × Contract)) (S : List (FuncId × Con)) (t0 t1 : AV) (h : List AObj) (K : AOut → List AObj → Prop) : funW (ctx F S pmem_Crash.loops) Try.f111 [t0, t1] h K = pmem_Crash.H (ctx F S pmem_Crash.loops) t0 t1 h K := by kernel_rfl
theorem pmem_sized.eq (F : List (FuncId × Contract)) (S : List (FuncId × Con)) (t0 : AV) (h : List AObj) (K : AOut → List AObj → Prop) : funW (ctx F S pmem_sized.loops) Try.f123 [t0] h K = pmem_sized.H (ctx F S pmem_sized.loops) t0 h K := by kernel_rfl
theorem pmem_Check.eq (F : List (FuncId × Contract)) (S : List (FuncId × Con)) (t0 : AV) (h : List AObj) (K : AOut → List AObj → Prop) : funW (ctx F S pmem_Check.loops) Try.f124 [t0] h K = pmem_Check.H (ctx F S pmem_Check.loops) t0 h K := by kernel_rfl
theorem pmem_keep.eq (F : List (FuncId × Contract)) (S : List (FuncId × Con)) (t0 t1 : AV) (h : List AObj) (K : AOut → List AObj → Prop) : funW (ctx F S pmem_keep.loops) Try.f129 [t0, t1] h K = pmem_keep.H (ctx F S pmem_keep.loops) t0 t1 h K := by kernel_rfl
theorem pmem_Crash_1.eq (F : List (FuncId × Contract)) (S : List (FuncId × Con)) (t0 t1 : AV) (h : List AObj) (K : AOut → List AObj → Prop) : funW (ctx F S pmem_Crash_1.loops) Try.f130 [t0, t1] h K = pmem_Crash_1.H (ctx F S pmem_Crash_1.loops) t0 t1 h K := by kernel_rfl
theorem pmem_Put.eq (F : List (FuncId × Contract)) (S : List (FuncId × Con)) (t0 t1 t2 : AV) (h : List AObj) (K : AOut → List AObj → Prop) : funW (ctx F S pmem_Put.loops) Try.f142 [t0, t1, t2] h K = pmem_Put.H (ctx F S pmem_Put.loops) t0 t1 t2 h K := by kernel_rfl
theorem pmem_Flush.eq (F : List (FuncId × Contract)) (S : List (FuncId × Con)) (Is : List (FuncId × (Con → Con))) (t0 t1 : AV) (h : List AObj) (K : AOut → List AObj → Prop) : funW (ctxI F S Is pmem_Flush.loops) Try.f143 [t0, t1] h K = pmem_Flush.H (ctxI F S Is pmem_Flush.loops) t0 t1 h K := by kernel_rfl
theorem pmem_Fence.eq (F : List (FuncId × Contract)) (S : List (FuncId × Con)) (t0 : AV) (h : List AObj) (K : AOut → List AObj → Prop) : funW (ctx F S pmem_Fence.loops) Try.f144 [t0] h K = pmem_Fence.H (ctx F S pmem_Fence.loops) t0 h K := by kernel_rfl
theorem pmem_place.eq (F : List (FuncId × Contract)) (S : List (FuncId × Con)) (t0 t1 : AV) (h : List AObj) (K : AOut → List AObj → Prop) : funW (ctx F S pmem_place.loops) Try.f145 [t0, t1] h K = pmem_place.H (ctx F S pmem_place.loops) t0 t1 h K := by kernel_rfl
theorem pmem_first.eq (F : List (FuncId × Contract)) (S : List (FuncId × Con)) (t0 t1 : AV) (h : List AObj) (K : AOut → List AObj → Prop) : funW (ctx F S pmem_first.loops) Try.f147 [t0, t1] h K = pmem_first.H (ctx F S pmem_first.loops) t0 t1 h K := by kernel_rfl
theorem pmem_of.eq (F : List (FuncId × Contract)) (S : List (FuncId × Con)) (t0 t1 : AV) (h : List AObj) (K : AOut → List AObj → Prop) : funW (ctx F S pmem_of.loops) Try.f149 [t0, t1] h K = pmem_of.H (ctx F S pmem_of.loops) t0 t1 h K := by kernel_rfl
theorem pmem_Fence_1.eq (F : List (FuncId × Contract)) (S : List (FuncId × Con)) (t0 : AV) (h : List AObj) (K : AOut → List AObj → Prop) : funW (ctx F S pmem_Fence_1.loops) Try.f150 [t0] h K = pmem_Fence_1.H (ctx F S pmem_Fence_1.loops) t0 h K := by kernel_rfl
theorem pmem_of_1.eq (F : List (FuncId × Contract)) (S : List (FuncId × Con)) (l : Nat) (Y : Con) (t0 t1 t2 : AV) (h : List AObj) (K : AOut → List AObj → Prop) : funW ((ctx F S pmem_of_1.loops).withY l Y) Try.f151 [t0, t1, t2] h K = pmem_of_1.H ((ctx F S pmem_of_1.loops).withY l Y) t0 t1 t2 h K := by kernel_rfl
theorem pmem_New.at : Try.prog.funcs[103]? = some Try.f103 := by kernel_rfl
theorem pmem_New.nm : (Try.f103.name == "runtime.NumGoroutine") = false := by kernel_rfl
theorem pmem_New.bd : Try.f103.body.isNone = false := by kernel_rfl
theorem pmem_Crash.at : Try.prog.funcs[111]? = some Try.f111 := by kernel_rfl
theorem pmem_Crash.nm : (Try.f111.name == "runtime.NumGoroutine") = false := by kernel_rfl
theorem pmem_Crash.bd : Try.f111.body.isNone = false := by kernel_rfl
theorem pmem_sized.at : Try.prog.funcs[123]? = some Try.f123 := by kernel_rfl
theorem pmem_sized.nm : (Try.f123.name == "runtime.NumGoroutine") = false := by kernel_rfl
theorem pmem_sized.bd : Try.f123.body.isNone = false := by kernel_rfl
theorem pmem_Check.at : Try.prog.funcs[124]? = some Try.f124 := by kernel_rfl
theorem pmem_Check.nm : (Try.f124.name == "runtime.NumGoroutine") = false := by kernel_rfl
theorem pmem_Check.bd : Try.f124.body.isNone = false := by kernel_rfl
theorem pmem_keep.at : Try.prog.funcs[129]? = some Try.f129 := by kernel_rfl
theorem pmem_keep.nm : (Try.f129.name == "runtime.NumGoroutine") = false := by kernel_rfl
theorem pmem_keep.bd : Try.f129.body.isNone = false := by kernel_rfl
theorem pmem_Crash_1.at : Try.prog.funcs[130]? = some Try.f130 := by kernel_rfl
theorem pmem_Crash_1.nm : (Try.f130.name == "runtime.NumGoroutine") = false := by kernel_rfl
theorem pmem_Crash_1.bd : Try.f130.body.isNone = false := by kernel_rfl
theorem pmem_Put.at : Try.prog.funcs[142]? = some Try.f142 := by kernel_rfl
theorem pmem_Put.nm : (Try.f142.name == "runtime.NumGoroutine") = false := by kernel_rfl
theorem pmem_Put.bd : Try.f142.body.isNone = false := by kernel_rfl
theorem pmem_Flush.at : Try.prog.funcs[143]? = some Try.f143 := by kernel_rfl
theorem pmem_Flush.nm : (Try.f143.name == "runtime.NumGoroutine") = false := by kernel_rfl
theorem pmem_Flush.bd : Try.f143.body.isNone = false := by kernel_rfl
theorem pmem_Fence.at : Try.prog.funcs[144]? = some Try.f144 := by kernel_rfl
theorem pmem_Fence.nm : (Try.f144.name == "runtime.NumGoroutine") = false := by kernel_rfl
theorem pmem_Fence.bd : Try.f144.body.isNone = false := by kernel_rfl
theorem pmem_place.at : Try.prog.funcs[145]? = some Try.f145 := by kernel_rfl
theorem pmem_place.nm : (Try.f145.name == "runtime.NumGoroutine") = false := by kernel_rfl
theorem pmem_place.bd : Try.f145.body.isNone = false := by kernel_rfl
theorem pmem_first.at : Try.prog.funcs[147]? = some Try.f147 := by kernel_rfl
theorem pmem_first.nm : (Try.f147.name == "runtime.NumGoroutine") = false := by kernel_rfl
theorem pmem_first.bd : Try.f147.body.isNone = false := by kernel_rfl
theorem pmem_of.at : Try.prog.funcs[149]? = some Try.f149 := by kernel_rfl
theorem pmem_of.nm : (Try.f149.name == "runtime.NumGoroutine") = false := by kernel_rfl
theorem pmem_of.bd : Try.f149.body.isNone = false := by kernel_rfl
theorem pmem_Fence_1.at : Try.prog.funcs[150]? = some Try.f150 := by kernel_rfl
theorem pmem_Fence_1.nm : (Try.f150.name == "runtime.NumGoroutine") = false := by kernel_rfl
theorem pmem_Fence_1.bd : Try.f150.body.isNone = false := by kernel_rfl
theorem pmem_of_1.at : Try.prog.funcs[151]? = some Try.f151 := by kernel_rfl
theorem pmem_of_1.nm : (Try.f151.name == "runtime.NumGoroutine") = false := by kernel_rfl
theorem pmem_of_1.bd : Try.f151.body.isNone = false := by kernel_rfl
end Lam
namespace Lam
open Go Go.Proofs
set_option linter.unusedVariables false
def slices_Equal_sl_int_int.loops : Nat → LInfo
  | 4 => ⟨[13], [false], [0, 1, 12], [], []⟩
  | _ => ⟨[], [], [], [], []⟩
def slices_Equal_sl_int_int.L1 (c : Ctx) (J1 : List AObj → Prop) (K : AOut → List AObj → Prop) (lv : List AV) (h0 : List AObj) (n0 : Nat) (c0 : AV) (c1 : AV) (c12 : AV) : Prop :=
  ∃ I : Nat → List AV → List AObj → Prop, (∃ n, I n lv h0) ∧ ∀ n h, ∀ t13, I n [t13] h →
    runD (binD T_int .lss t13 c12) h fun t14 h =>
    condW t14
    (runD (indexAddrD T_sl_int h c0 t13) h fun t18 h =>
    runD (fitD T_int (loadD h t18)) h fun t19 h =>
    runD (indexAddrD T_sl_int h c1 t13) h fun t22 h =>
    runD (fitD T_int (loadD h t22)) h fun t23 h =>
    runD (binD T_int .neq t19 t23) h fun t24 h =>
    condW t24
    (K (.ret (.bool false)) h)
    (runD (binD T_int .add t13 (.int .i64 1)) h fun t25 h =>
    (∃ m, m < n ∧ I m (AV.norms n0 h [t25]) (normH n0 h)) ∧ AV.norms n0 h [c0, c1, c12] = [c0, c1, c12]))
    (J1 h)
def slices_Equal_sl_int_int.H (c : Ctx) (t0 : AV) (t1 : AV) (h : List AObj) (K : AOut → List AObj → Prop) : Prop :=
  runD (lenD T_sl_int h t0) h fun t7 h =>
  runD (lenD T_sl_int h t1) h fun t9 h =>
  runD (binD T_int .neq t7 t9) h fun t10 h =>
  condW t10
  (K (.ret (.bool false)) h)
  (runD (lenD T_sl_int h t0) h fun t12 h =>
  joinW (fun (J1 : List AObj → Prop) =>
  promV [false] [(.int .i64 0)] h fun lv h => slices_Equal_sl_int_int.L1 c J1 K (AV.norms h.length h lv) (normH h.length h) h.length (AV.norm h.length h t0) (AV.norm h.length h t1) (AV.norm h.length h t12))
  (fun h => K (.ret (.bool true)) h))
def slices_ContainsFunc_sl_int_int.loops : Nat → LInfo
  | _ => ⟨[], [], [], [], []⟩
def slices_ContainsFunc_sl_int_int.H (c : Ctx) (t0 : AV) (t1 : AV) (h : List AObj) (K : AOut → List AObj → Prop) : Prop :=
  callW c (.fn (.func 90) [] []) [t0, t1] h (fun t7 h =>
  runD (binD T_int .geq t7 (.int .i64 0)) h fun t8 h =>
  K (.ret t8) h)
  (fun v h => K (.pan v) h)
def slices_IndexFunc_sl_int_int.loops : Nat → LInfo
  | 2 => ⟨[8], [false], [0, 1, 7], [], []⟩
  | _ => ⟨[], [], [], [], []⟩
def slices_IndexFunc_sl_int_int.L1 (c : Ctx) (J1 : List AObj → Prop) (K : AOut → List AObj → Prop) (lv : List AV) (h0 : List AObj) (n0 : Nat) (c0 : AV) (c1 : AV) (c7 : AV) : Prop :=
  ∃ I : Nat → List AV → List AObj → Prop, (∃ n, I n lv h0) ∧ ∀ n h, ∀ t8, I n [t8] h →
    runD (binD T_int .lss t8 c7) h fun t9 h =>
    condW t9
    (runD (indexAddrD T_sl_int h c0 t8) h fun t14 h =>
    runD (fitD T_int (loadD h t14)) h fun t15 h =>
    callW c c1 [t15] h (fun t16 h =>
    condW t16
    (K (.ret t8) h)
    (runD (binD T_int .add t8 (.int .i64 1)) h fun t18 h =>
    (∃ m, m < n ∧ I m (AV.norms n0 h [t18]) (normH n0 h)) ∧ AV.norms n0 h [c0, c1, c7] = [c0, c1, c7]))
    (fun v h => K (.pan v) h))
    (J1 h)
def slices_IndexFunc_sl_int_int.H (c : Ctx) (t0 : AV) (t1 : AV) (h : List AObj) (K : AOut → List AObj → Prop) : Prop :=
  runD (lenD T_sl_int h t0) h fun t7 h =>
  joinW (fun (J1 : List AObj → Prop) =>
  promV [false] [(.int .i64 0)] h fun lv h => slices_IndexFunc_sl_int_int.L1 c J1 K (AV.norms h.length h lv) (normH h.length h) h.length (AV.norm h.length h t0) (AV.norm h.length h t1) (AV.norm h.length h t7))
  (fun h => K (.ret (.int .i64 (-1))) h)
def slices_Clone_sl_int_int.loops : Nat → LInfo
  | _ => ⟨[], [], [], [], []⟩
def slices_Clone_sl_int_int.H (c : Ctx) (t0 : AV) (h : List AObj) (K : AOut → List AObj → Prop) : Prop :=
  nilEqO (AV.len T_sl_int h t0) h fun t4 h =>
  condW t4
  (K (.ret (.sl true (.ints .i64 []))) h)
  (runD (buildSliceD T_sl_int 0 [] h.length) h fun t5 h =>
  runDM (appendD T_sl_int h t5 t0 h.length) (appendH T_sl_int h t5 t0) h fun t7 h =>
  K (.ret t7) h)
def slices_Compact_sl_int_int.loops : Nat → LInfo
  | 4 => ⟨[3], [false], [0], [], []⟩
  | 9 => ⟨[3, 5], [false, false], [0, 4], [], []⟩
  | _ => ⟨[], [], [], [], []⟩
def slices_Compact_sl_int_int.L2 (c : Ctx) (J3 : AV → AV → List AObj → Prop) (K : AOut → List AObj → Prop) (lv : List AV) (h0 : List AObj) (n0 : Nat) (c0 : AV) (c4 : AV) : Prop :=
  ∃ I : Nat → List AV → List AObj → Prop, (∃ n, I n lv h0) ∧ ∀ n h, ∀ t3, ∀ t5, I n [t3, t5] h →
    runD (lenD T_sl_int h c4) h fun t31 h =>
    runD (binD T_int .lss t5 t31) h fun t32 h =>
    condW t32
    (runD (indexAddrD T_sl_int h c4 t5) h fun t37 h =>
    runD (fitD T_int (loadD h t37)) h fun t38 h =>
    runD (binD T_int .sub t5 (.int .i64 1)) h fun t41 h =>
    runD (indexAddrD T_sl_int h c4 t41) h fun t42 h =>
    runD (fitD T_int (loadD h t42)) h fun t43 h =>
    runD (binD T_int .neq t38 t43) h fun t44 h =>
    joinW (fun (J4 : AV → List AObj → Prop) =>
    condW t44
    (runD (indexAddrD T_sl_int h c4 t5) h fun t49 h =>
      runD (fitD T_int (loadD h t49)) h fun t50 h =>
      runD (indexAddrD T_sl_int h c0 t3) h fun t51 h =>
      runH (storeH T_int h t51 t50) h fun _ h =>
      runD (binD T_int .add t3 (.int .i64 1)) h fun t53 h =>
      J4 t53 h)
    (J4 t3 h))
    (fun t3 h => runD (binD T_int .add t5 (.int .i64 1)) h fun t34 h =>
    (∃ m, m < n ∧ I m (AV.norms n0 h [t3, t34]) (normH n0 h)) ∧ AV.norms n0 h [c0, c4] = [c0, c4]))
    (J3 c0 t3 h)
def slices_Compact_sl_int_int.L1 (c : Ctx) (J1 : AV → List AObj → Prop) (K : AOut → List AObj → Prop) (lv : List AV) (h0 : List AObj) (n0 : Nat) (c0 : AV) : Prop :=
  ∃ I : Nat → List AV → List AObj → Prop, (∃ n, I n lv h0) ∧ ∀ n h, ∀ t3, I n [t3] h →
    runD (lenD T_sl_int h c0) h fun t12 h =>
    runD (binD T_int .lss t3 t12) h fun t13 h =>
    condW t13
    (joinW (fun (J2 : AV → AV → List AObj → Prop) =>
    runD (indexAddrD T_sl_int h c0 t3) h fun t18 h =>
    runD (fitD T_int (loadD h t18)) h fun t19 h =>
    runD (binD T_int .sub t3 (.int .i64 1)) h fun t22 h =>
    runD (indexAddrD T_sl_int h c0 t22) h fun t23 h =>
    runD (fitD T_int (loadD h t23)) h fun t24 h =>
    runD (binD T_int .eql t19 t24) h fun t25 h =>
    condW t25
    (runD (sliceD T_sl_int h c0 (some t3) none none) h fun t28 h =>
      joinW (fun (J3 : AV → AV → List AObj → Prop) =>
      promV [false, false] [t3, (.int .i64 1)] h fun lv h => slices_Compact_sl_int_int.L2 c J3 K (AV.norms h.length h lv) (normH h.length h) h.length (AV.norm h.length h c0) (AV.norm h.length h t28))
      (fun t0 t3 h => runD (sliceD T_sl_int h t0 (some t3) none none) h fun t56 h =>
      runM (clearH T_sl_int h t56) h fun _ h =>
      runD (sliceD T_sl_int h t0 none (some t3) none) h fun t59 h =>
      K (.ret t59) h))
    (J2 c0 t3 h))
    (fun t0 t3 h => runD (binD T_int .add t3 (.int .i64 1)) h fun t15 h =>
    (∃ m, m < n ∧ I m (AV.norms n0 h [t15]) (normH n0 h)) ∧ AV.norms n0 h [t0] = [c0]))
    (J1 c0 h)
def slices_Compact_sl_int_int.H (c : Ctx) (t0 : AV) (h : List AObj) (K : AOut → List AObj → Prop) : Prop :=
  runD (lenD T_sl_int h t0) h fun t7 h =>
  runD (binD T_int .lss t7 (.int .i64 2)) h fun t8 h =>
  condW t8
  (K (.ret t0) h)
  (joinW (fun (J1 : AV → List AObj → Prop) =>
  promV [false] [(.int .i64 1)] h fun lv h => slices_Compact_sl_int_int.L1 c J1 K (AV.norms h.length h lv) (normH h.length h) h.length (AV.norm h.length h t0))
  (fun t0 h => K (.ret t0) h))
def slices_ContainsFunc_sl_api_Micro_api_Micro.loops : Nat → LInfo
  | _ => ⟨[], [], [], [], []⟩
def slices_ContainsFunc_sl_api_Micro_api_Micro.H (c : Ctx) (t0 : AV) (t1 : AV) (h : List AObj) (K : AOut → List AObj → Prop) : Prop :=
  callW c (.fn (.func 131) [] []) [t0, t1] h (fun t7 h =>
  runD (binD T_int .geq t7 (.int .i64 0)) h fun t8 h =>
  K (.ret t8) h)
  (fun v h => K (.pan v) h)
def slices_IndexFunc_sl_api_Micro_api_Micro.loops : Nat → LInfo
  | 2 => ⟨[8], [false], [0, 1, 7], [], []⟩
  | _ => ⟨[], [], [], [], []⟩
def slices_IndexFunc_sl_api_Micro_api_Micro.L1 (c : Ctx) (J1 : List AObj → Prop) (K : AOut → List AObj → Prop) (lv : List AV) (h0 : List AObj) (n0 : Nat) (c0 : AV) (c1 : AV) (c7 : AV) : Prop :=
  ∃ I : Nat → List AV → List AObj → Prop, (∃ n, I n lv h0) ∧ ∀ n h, ∀ t8, I n [t8] h →
    runD (binD T_int .lss t8 c7) h fun t9 h =>
    condW t9
    (runD (indexAddrD T_sl_api_Micro h c0 t8) h fun t14 h =>
    runD (fitD T_api_Micro (loadD h t14)) h fun t15 h =>
    callW c c1 [t15] h (fun t16 h =>
    condW t16
    (K (.ret t8) h)
    (runD (binD T_int .add t8 (.int .i64 1)) h fun t18 h =>
    (∃ m, m < n ∧ I m (AV.norms n0 h [t18]) (normH n0 h)) ∧ AV.norms n0 h [c0, c1, c7] = [c0, c1, c7]))
    (fun v h => K (.pan v) h))
    (J1 h)
def slices_IndexFunc_sl_api_Micro_api_Micro.H (c : Ctx) (t0 : AV) (t1 : AV) (h : List AObj) (K : AOut → List AObj → Prop) : Prop :=
  runD (lenD T_sl_api_Micro h t0) h fun t7 h =>
  joinW (fun (J1 : List AObj → Prop) =>
  promV [false] [(.int .i64 0)] h fun lv h => slices_IndexFunc_sl_api_Micro_api_Micro.L1 c J1 K (AV.norms h.length h lv) (normH h.length h) h.length (AV.norm h.length h t0) (AV.norm h.length h t1) (AV.norm h.length h t7))
  (fun h => K (.ret (.int .i64 (-1))) h)
def slices_Clip_sl_api_Pending_api_Pending.loops : Nat → LInfo
  | _ => ⟨[], [], [], [], []⟩
def slices_Clip_sl_api_Pending_api_Pending.H (c : Ctx) (t0 : AV) (h : List AObj) (K : AOut → List AObj → Prop) : Prop :=
  runD (lenD T_sl_api_Pending h t0) h fun t5 h =>
  runD (lenD T_sl_api_Pending h t0) h fun t7 h =>
  runD (sliceD T_sl_api_Pending h t0 none (some t5) (some t7)) h fun t8 h =>
  K (.ret t8) h
def slices_Clone_sl_api_Pending_api_Pending.loops : Nat → LInfo
  | _ => ⟨[], [], [], [], []⟩
def slices_Clone_sl_api_Pending_api_Pending.H (c : Ctx) (t0 : AV) (h : List AObj) (K : AOut → List AObj → Prop) : Prop :=
  nilEqO (AV.len T_sl_api_Pending h t0) h fun t4 h =>
  condW t4
  (K (.ret (.sl true (.pends []))) h)
  (runD (buildSliceD T_sl_api_Pending 0 [] h.length) h fun t5 h =>
  runDM (appendD T_sl_api_Pending h t5 t0 h.length) (appendH T_sl_api_Pending h t5 t0) h fun t7 h =>
  K (.ret t7) h)
theorem slices_Equal_sl_int_int.eq (F : List (FuncId × Contract)) (S : List (FuncId × Con)) (t0 t1 : AV) (h : List AObj) (K : AOut → List AObj → Prop) : funW (ctx F S slices_Equal_sl_int_int.loops) Try.f78 [t0, t1] h K = slices_Equal_sl_int_int.H (ctx F S slices_Equal_sl_int_int.loops) t0 t1 h K := by kernel_rfl
theorem slices_ContainsFunc_sl_int_int.eq (F : List (FuncId × Contract)) (S : List (FuncId × Con)) (t0 t1 : AV) (h : List AObj) (K : AOut → List AObj → Prop) : funW (ctx F S slices_ContainsFunc_sl_int_int.loops) Try.f81 [t0, t1] h K = slices_ContainsFunc_sl_int_int.H (ctx F S slices_ContainsFunc_sl_int_int.loops) t0 t1 h K := by kernel_rfl
theorem slices_IndexFunc_sl_int_int.eq (F : List (FuncId × Contract)) (S : List (FuncId × Con)) (t0 t1 : AV) (h : List AObj) (K : AOut → List AObj → Prop) : funW (ctx F S slices_IndexFunc_sl_int_int.loops) Try.f90 [t0, t1] h K = slices_IndexFunc_sl_int_int.H (ctx F S slices_IndexFunc_sl_int_int.loops) t0 t1 h K := by kernel_rfl
theorem slices_Clone_sl_int_int.eq (F : List (FuncId × Contract)) (S : List (FuncId × Con)) (t0 : AV) (h : List AObj) (K : AOut → List AObj → Prop) : funW (ctx F S slices_Clone_sl_int_int.loops) Try.f92 [t0] h K = slices_Clone_sl_int_int.H (ctx F S slices_Clone_sl_int_int.loops) t0 h K := by kernel_rfl
theorem slices_Compact_sl_int_int.eq (F : List (FuncId × Contract)) (S : List (FuncId × Con)) (t0 : AV) (h : List AObj) (K : AOut → List AObj → Prop) : funW (ctx F S slices_Compact_sl_int_int.loops) Try.f93 [t0] h K = slices_Compact_sl_int_int.H (ctx F S slices_Compact_sl_int_int.loops) t0 h K := by kernel_rfl
theorem slices_ContainsFunc_sl_api_Micro_api_Micro.eq (F : List (FuncId × Contract)) (S : List (FuncId × Con)) (t0 t1 : AV) (h : List AObj) (K : AOut → List AObj → Prop) : funW (ctx F S slices_ContainsFunc_sl_api_Micro_api_Micro.loops) Try.f113 [t0, t1] h K = slices_ContainsFunc_sl_api_Micro_api_Micro.H (ctx F S slices_ContainsFunc_sl_api_Micro_api_Micro.loops) t0 t1 h K := by kernel_rfl
theorem slices_IndexFunc_sl_api_Micro_api_Micro.eq (F : List (FuncId × Contract)) (S : List (FuncId × Con)) (t0 t1 : AV) (h : List AObj) (K : AOut → List AObj → Prop) : funW (ctx F S slices_IndexFunc_sl_api_Micro_api_Micro.loops) Try.f131 [t0, t1] h K = slices_IndexFunc_sl_api_Micro_api_Micro.H (ctx F S slices_IndexFunc_sl_api_Micro_api_Micro.loops) t0 t1 h K := by kernel_rfl
theorem slices_Clip_sl_api_Pending_api_Pending.eq (F : List (FuncId × Contract)) (S : List (FuncId × Con)) (t0 : AV) (h : List AObj) (K : AOut → List AObj → Prop) : funW (ctx F S slices_Clip_sl_api_Pending_api_Pending.loops) Try.f146 [t0] h K = slices_Clip_sl_api_Pending_api_Pending.H (ctx F S slices_Clip_sl_api_Pending_api_Pending.loops) t0 h K := by kernel_rfl
theorem slices_Clone_sl_api_Pending_api_Pending.eq (F : List (FuncId × Contract)) (S : List (FuncId × Con)) (t0 : AV) (h : List AObj) (K : AOut → List AObj → Prop) : funW (ctx F S slices_Clone_sl_api_Pending_api_Pending.loops) Try.f148 [t0] h K = slices_Clone_sl_api_Pending_api_Pending.H (ctx F S slices_Clone_sl_api_Pending_api_Pending.loops) t0 h K := by kernel_rfl
theorem slices_Equal_sl_int_int.at : Try.prog.funcs[78]? = some Try.f78 := by kernel_rfl
theorem slices_Equal_sl_int_int.nm : (Try.f78.name == "runtime.NumGoroutine") = false := by kernel_rfl
theorem slices_Equal_sl_int_int.bd : Try.f78.body.isNone = false := by kernel_rfl
theorem slices_ContainsFunc_sl_int_int.at : Try.prog.funcs[81]? = some Try.f81 := by kernel_rfl
theorem slices_ContainsFunc_sl_int_int.nm : (Try.f81.name == "runtime.NumGoroutine") = false := by kernel_rfl
theorem slices_ContainsFunc_sl_int_int.bd : Try.f81.body.isNone = false := by kernel_rfl
theorem slices_IndexFunc_sl_int_int.at : Try.prog.funcs[90]? = some Try.f90 := by kernel_rfl
theorem slices_IndexFunc_sl_int_int.nm : (Try.f90.name == "runtime.NumGoroutine") = false := by kernel_rfl
theorem slices_IndexFunc_sl_int_int.bd : Try.f90.body.isNone = false := by kernel_rfl
theorem slices_Clone_sl_int_int.at : Try.prog.funcs[92]? = some Try.f92 := by kernel_rfl
theorem slices_Clone_sl_int_int.nm : (Try.f92.name == "runtime.NumGoroutine") = false := by kernel_rfl
theorem slices_Clone_sl_int_int.bd : Try.f92.body.isNone = false := by kernel_rfl
theorem slices_Compact_sl_int_int.at : Try.prog.funcs[93]? = some Try.f93 := by kernel_rfl
theorem slices_Compact_sl_int_int.nm : (Try.f93.name == "runtime.NumGoroutine") = false := by kernel_rfl
theorem slices_Compact_sl_int_int.bd : Try.f93.body.isNone = false := by kernel_rfl
theorem slices_ContainsFunc_sl_api_Micro_api_Micro.at : Try.prog.funcs[113]? = some Try.f113 := by kernel_rfl
theorem slices_ContainsFunc_sl_api_Micro_api_Micro.nm : (Try.f113.name == "runtime.NumGoroutine") = false := by kernel_rfl
theorem slices_ContainsFunc_sl_api_Micro_api_Micro.bd : Try.f113.body.isNone = false := by kernel_rfl
theorem slices_IndexFunc_sl_api_Micro_api_Micro.at : Try.prog.funcs[131]? = some Try.f131 := by kernel_rfl
theorem slices_IndexFunc_sl_api_Micro_api_Micro.nm : (Try.f131.name == "runtime.NumGoroutine") = false := by kernel_rfl
theorem slices_IndexFunc_sl_api_Micro_api_Micro.bd : Try.f131.body.isNone = false := by kernel_rfl
theorem slices_Clip_sl_api_Pending_api_Pending.at : Try.prog.funcs[146]? = some Try.f146 := by kernel_rfl
theorem slices_Clip_sl_api_Pending_api_Pending.nm : (Try.f146.name == "runtime.NumGoroutine") = false := by kernel_rfl
theorem slices_Clip_sl_api_Pending_api_Pending.bd : Try.f146.body.isNone = false := by kernel_rfl
theorem slices_Clone_sl_api_Pending_api_Pending.at : Try.prog.funcs[148]? = some Try.f148 := by kernel_rfl
theorem slices_Clone_sl_api_Pending_api_Pending.nm : (Try.f148.name == "runtime.NumGoroutine") = false := by kernel_rfl
theorem slices_Clone_sl_api_Pending_api_Pending.bd : Try.f148.body.isNone = false := by kernel_rfl
end Lam
namespace Lam
open Go Go.Proofs
set_option linter.unusedVariables false
set_option linter.unnecessarySimpa false
set_option linter.unusedSimpArgs false
def pmem_sized.C : Contract
  | [.int .i64 n] => some (false, pD True (.bool (szB n)))
  | _ => none
set_option maxRecDepth 20000 in
theorem pmem_sized.spec : FSpec Try.prog 123 pmem_sized.C := by
  refine FSpec.of (ctx_ok (F := []) (S := []) (by simp) (by simp) pmem_sized.loops) pmem_sized.at pmem_sized.nm pmem_sized.bd ?_
  intro vs b S v news e hS
  unfold pmem_sized.C at e
  split at e
  rotate_left
  · cases e
  cases e
  rw [pmem_sized.eq]
  unfold pmem_sized.H
  simp (maxSteps := 4000000) only [go_sem, Nat.reduceEqDiff, Nat.reduceLT, Nat.reduceAdd, Nat.reduceSub, Nat.reduceLeDiff, List.reduceReplicate, Int.reduceToNat]
  exact ⟨fun _ => by decide, post_val rfl rfl⟩

def slices_Clone_sl_int_int.C : Contract
  | [.sl _ (.ints .i64 l)] => some (true, some (roomy l.length, .sref false 0 0 0 l.length, [.row .own 0 (.ints .i64 l)]))
  | _ => none
set_option maxRecDepth 20000 in
theorem slices_Clone_sl_int_int.spec : FSpec Try.prog 92 slices_Clone_sl_int_int.C := by
  refine FSpec.of (ctx_ok (F := []) (S := []) (by simp) (by simp) slices_Clone_sl_int_int.loops) slices_Clone_sl_int_int.at slices_Clone_sl_int_int.nm slices_Clone_sl_int_int.bd ?_
  intro vs b S v news e hS
  unfold slices_Clone_sl_int_int.C at e
  split at e
  rotate_left
  · cases e
  cases e
  rw [slices_Clone_sl_int_int.eq]
  unfold slices_Clone_sl_int_int.H
  simp (maxSteps := 4000000) only [go_sem, Nat.reduceEqDiff, Nat.reduceLT, Nat.reduceAdd, Nat.reduceSub, Nat.reduceLeDiff, List.reduceReplicate, Int.reduceToNat]
  rename_i l
  intro b hb
  refine ⟨fun h => ?_, fun h => ⟨hS, post_row rfl (by simp)⟩⟩
  have : l = [] := List.eq_nil_of_length_eq_zero (hb h)
  subst this
  exact post_nil rfl
def slices_Clone_sl_api_Pending_api_Pending.C : Contract
  | [.sl _ (.pends l)] => some (true, some (roomy l.length, .sref false 0 0 0 l.length, [.row .own 0 (.pends l)]))
  | _ => none
set_option maxRecDepth 20000 in
theorem slices_Clone_sl_api_Pending_api_Pending.spec : FSpec Try.prog 148 slices_Clone_sl_api_Pending_api_Pending.C := by
  refine FSpec.of (ctx_ok (F := []) (S := []) (by simp) (by simp) slices_Clone_sl_api_Pending_api_Pending.loops) slices_Clone_sl_api_Pending_api_Pending.at slices_Clone_sl_api_Pending_api_Pending.nm slices_Clone_sl_api_Pending_api_Pending.bd ?_
  intro vs b S v news e hS
  unfold slices_Clone_sl_api_Pending_api_Pending.C at e
  split at e
  rotate_left
  · cases e
  cases e
  rw [slices_Clone_sl_api_Pending_api_Pending.eq]
  unfold slices_Clone_sl_api_Pending_api_Pending.H
  simp (maxSteps := 4000000) only [go_sem, Nat.reduceEqDiff, Nat.reduceLT, Nat.reduceAdd, Nat.reduceSub, Nat.reduceLeDiff, List.reduceReplicate, Int.reduceToNat]
  rename_i l
  intro b hb
  refine ⟨fun h => ?_, fun h => ⟨hS, post_row rfl (by simp)⟩⟩
  have : l = [] := List.eq_nil_of_length_eq_zero (hb h)
  subst this
  exact post_nil rfl
def slices_Clip_sl_api_Pending_api_Pending.C : Contract
  | [.sl _ (.pends l)] => some (false, pD True (.sl true (.pends l)))
  | _ => none
set_option maxRecDepth 20000 in
theorem slices_Clip_sl_api_Pending_api_Pending.spec : FSpec Try.prog 146 slices_Clip_sl_api_Pending_api_Pending.C := by
  refine FSpec.of (ctx_ok (F := []) (S := []) (by simp) (by simp) slices_Clip_sl_api_Pending_api_Pending.loops) slices_Clip_sl_api_Pending_api_Pending.at slices_Clip_sl_api_Pending_api_Pending.nm slices_Clip_sl_api_Pending_api_Pending.bd ?_
  intro vs b S v news e hS
  unfold slices_Clip_sl_api_Pending_api_Pending.C at e
  split at e
  rotate_left
  · cases e
  cases e
  rw [slices_Clip_sl_api_Pending_api_Pending.eq]
  unfold slices_Clip_sl_api_Pending_api_Pending.H
  simp (maxSteps := 4000000) only [go_sem, Nat.reduceEqDiff, Nat.reduceLT, Nat.reduceAdd, Nat.reduceSub, Nat.reduceLeDiff, List.reduceReplicate, Int.reduceToNat]
  exact ⟨by omega, post_same rfl⟩
def slices_Equal_sl_int_int.C : Contract
  | [.sl _ (.ints .i64 a), .sl _ (.ints .i64 b)] => some (false, pD (roomy a.length) (.bool (decide (a = b))))
  | _ => none
set_option maxRecDepth 20000 in
theorem slices_Equal_sl_int_int.spec : FSpec Try.prog 78 slices_Equal_sl_int_int.C := by
  refine FSpec.of (ctx_ok (F := []) (S := []) (by simp) (by simp) slices_Equal_sl_int_int.loops) slices_Equal_sl_int_int.at slices_Equal_sl_int_int.nm slices_Equal_sl_int_int.bd ?_
  intro vs b S v news e hS
  unfold slices_Equal_sl_int_int.C at e
  split at e
  rotate_left
  · cases e
  cases e
  rw [slices_Equal_sl_int_int.eq]
  unfold slices_Equal_sl_int_int.H
  simp (maxSteps := 4000000) only [go_sem, Nat.reduceEqDiff, Nat.reduceLT, Nat.reduceAdd, Nat.reduceSub, Nat.reduceLeDiff, List.reduceReplicate, Int.reduceToNat]
  rename_i a _ b
  unfold roomy at hS
  refine ⟨fun hne => ?_, fun heq => ?_⟩
  · have : decide (a = b) = false := by rw [decide_eq_false_iff_not]; rintro rfl; exact hne rfl
    rw [this]; exact post_val rfl rfl
  rw [joinW_eq]
  unfold slices_Equal_sl_int_int.L1
  have hlen : a.length = b.length := by omega
  refine ⟨fun m lv h' => ∃ k : Nat, k + m = a.length ∧ lv = [.int .i64 k] ∧ h' = [] ∧ ∀ i, i < k → a.getD i 0 = b.getD i 0, ⟨a.length, 0, by omega, rfl, rfl, fun i hi => by omega⟩, ?_⟩
  rintro m h' t8 ⟨k, hk, hlv, rfl, hall⟩
  simp only [List.cons.injEq, and_true] at hlv
  subst hlv
  simp only [go_sem, Nat.reduceEqDiff, Nat.reduceLT, Nat.reduceAdd, Nat.reduceSub, Nat.reduceLeDiff, List.reduceReplicate, Int.reduceToNat]
  refine ⟨fun hlt => ⟨by omega, by omega, fun h0 => ?_, fun h0 => ?_⟩, fun hge => ?_⟩
  · have : decide (a = b) = false := by rw [decide_eq_false_iff_not]; rintro rfl; exact h0 rfl
    rw [this]; exact post_val rfl rfl
  · refine ⟨m - 1, by omega, k + 1, by omega, by rw [w64 (by omega) (by omega)]; rfl, ?_⟩
    intro i hi
    by_cases e : i = k
    · subst e; exact h0
    · exact hall i (by omega)
  · have : a = b := by
      apply List.ext_getElem hlen
      intro i h1 h2
      have := hall i (by omega)
      rw [List.getD_eq_getElem?_getD, List.getD_eq_getElem?_getD, List.getElem?_eq_getElem h1, List.getElem?_eq_getElem h2] at this
      exact this
    rw [decide_eq_true this]; exact post_val rfl rfl

def pmem_Check.C : Contract
  | [.agg [.sl false (.ints .i64 vol), .sl false (.ints .i64 per), .sl false (.pends pend)]] => some (false, pD (smallM vol per pend) (.bool (checkB vol per pend)))
  | _ => none
set_option maxRecDepth 20000 in
theorem pmem_Check.spec : FSpec Try.prog 124 pmem_Check.C := by
  refine FSpec.of (ctx_ok (F := [(123, pmem_sized.C), (92, slices_Clone_sl_int_int.C), (78, slices_Equal_sl_int_int.C)]) (S := []) (by simpa using ⟨pmem_sized.spec, slices_Clone_sl_int_int.spec, slices_Equal_sl_int_int.spec⟩) (by simp) pmem_Check.loops) pmem_Check.at pmem_Check.nm pmem_Check.bd ?_
  intro vs b S v news e hS
  unfold pmem_Check.C at e
  split at e
  rotate_left
  · cases e
  cases e
  rw [pmem_Check.eq]
  unfold pmem_Check.H
  simp (maxSteps := 4000000) only [go_sem, Nat.reduceEqDiff, Nat.reduceLT, Nat.reduceAdd, Nat.reduceSub, Nat.reduceLeDiff, List.reduceReplicate, Int.reduceToNat, pmem_sized.C, slices_Clone_sl_int_int.C, slices_Equal_sl_int_int.C]
  rename_i vol per pend
  obtain ⟨r1, r2, r3⟩ := hS
  unfold roomy at r1 r2 r3
  refine ⟨fun hb => ?_, fun hb => ⟨r2, ?_⟩⟩
  · have : checkB vol per pend = false := by
      unfold checkB
      rw [Bool.or_eq_true] at hb
      rcases hb with hb | hb
      · have : ¬ vol.length = per.length := by
          intro h; rw [h] at hb; simp at hb
        simp [this]
      · have : szB vol.length = false := by simpa using hb
        simp [this]
    rw [this]; exact post_val rfl rfl
  rw [Bool.or_eq_false_iff] at hb
  have hlen : vol.length = per.length := by
    have := hb.1
    rw [Bool.not_eq_false', decide_eq_true_eq] at this
    omega
  have hsz : szB vol.length = true := by simpa using hb.2
  have hcheck : checkB vol per pend = decide (chk pend per (fun _ => false) = some vol) := by unfold checkB; rw [hsz, decide_eq_true hlen]; simp
  rw [hcheck, joinW_eq]
  unfold pmem_Check.L1
  refine ⟨fun m lv h' => ∃ (k : Nat) (l : List Int) (o : Int → Bool), k + m = pend.length ∧ lv = [.int .i64 k] ∧ l.length = per.length ∧ chk pend per (fun _ => false) = chk (pend.drop k) l o ∧
      h' = [.box (.agg [.sl false (.ints .i64 vol), .sl false (.ints .i64 per), .sl false (.pends pend)]), .row .own 0 (.ints .i64 l), .map (.ib o)],
    ⟨pend.length, 0, per, fun _ => false, by omega, rfl, rfl, rfl, rfl⟩, ?_⟩
  rintro m h' t28 ⟨k, l, o, hk, hlv, hll, hchk, rfl⟩
  simp only [List.cons.injEq, and_true] at hlv
  subst hlv
  simp only [go_sem, Nat.reduceEqDiff, Nat.reduceLT, Nat.reduceAdd, Nat.reduceSub, Nat.reduceLeDiff, List.reduceReplicate, Int.reduceToNat, hll, encPend]
  refine ⟨fun hlt => ⟨by omega, ?_⟩, fun hge => ?_⟩
  · have hkl : k < pend.length := by omega
    have hd : pend.drop k = pend.getD k ⟨0, 0, false⟩ :: pend.drop (k + 1) := by
      rw [List.getD_eq_getElem?_getD, List.getElem?_eq_getElem hkl, List.drop_eq_getElem_cons hkl]; rfl
    generalize pend.getD k ⟨0, 0, false⟩ = p at *
    have hch : chk (pend.drop k) l o = match badB p l.length o with
      | true => none
      | false => chk (pend.drop (k + 1)) (l.set p.at_.toNat p.val) (opens p o) := by rw [hd]; rfl
    rw [hll] at hch
    refine ⟨fun _ _ => by decide, fun hbad => ?_, fun hok => ?_⟩
    · have : badB p per.length o = true := hbad
      rw [this] at hch
      rw [hchk, hch]; exact post_val rfl rfl
    · have hb2 : badB p per.length o = false := hok
      rw [hb2] at hch
      simp only [badB, Bool.or_eq_false_iff, decide_eq_false_iff_not] at hb2
      refine ⟨by decide, by decide, by omega, by omega, m - 1, by omega, k + 1, _, opens p o, by omega, by rw [w64 (by omega) (by omega)]; rfl, ?_, by rw [hchk]; exact hch, rfl⟩
      rw [List.length_set]; exact hll
  · have : k = pend.length := by omega
    subst this
    rw [List.drop_length] at hchk
    have hl : l.take per.length = l := List.take_of_length_le (by omega)
    simp only [hl, go_sem, Nat.reduceEqDiff, Nat.reduceLT, Nat.reduceAdd, Nat.reduceSub, Nat.reduceLeDiff, List.reduceReplicate, Int.reduceToNat, slices_Equal_sl_int_int.C]
    refine ⟨by unfold roomy; omega, ?_⟩
    rw [hchk]
    have : decide (chk [] l o = some vol) = decide (l = vol) := by simp [chk]
    rw [this]; exact post_val rfl rfl
def pmem_place.C : Contract
  | [.agg [.sl false (.ints .i64 vol), .sl false (.ints .i64 per), .sl false (.pends pend)], .int .i64 at_] => some (false, pD (smallM vol per pend) (.bool (placeB vol per pend at_)))
  | _ => none
set_option maxRecDepth 20000 in
theorem pmem_place.spec : FSpec Try.prog 145 pmem_place.C := by
  refine FSpec.of (ctx_ok (F := [(124, pmem_Check.C)]) (S := []) (by simpa using pmem_Check.spec) (by simp) pmem_place.loops) pmem_place.at pmem_place.nm pmem_place.bd ?_
  intro vs b S v news e hS
  unfold pmem_place.C at e
  split at e
  rotate_left
  · cases e
  cases e
  rw [pmem_place.eq]
  unfold pmem_place.H
  simp (maxSteps := 4000000) only [go_sem, Nat.reduceEqDiff, Nat.reduceLT, Nat.reduceAdd, Nat.reduceSub, Nat.reduceLeDiff, List.reduceReplicate, Int.reduceToNat, pmem_Check.C]
  exact ⟨fun _ => hS, post_val rfl rfl⟩
def pmem_first.C : Contract
  | [.agg [.sl false (.ints .i64 vol), .sl false (.ints .i64 per), .sl false (.pends pend)], .int .i64 line] => some (false, pD (roomy vol.length) (.int .i64 (firstI vol line)))
  | _ => none
set_option maxRecDepth 20000 in
theorem pmem_first.spec : FSpec Try.prog 147 pmem_first.C := by
  refine FSpec.of (ctx_ok (F := []) (S := []) (by simp) (by simp) pmem_first.loops) pmem_first.at pmem_first.nm pmem_first.bd ?_
  intro vs b S v news e hS
  unfold pmem_first.C at e
  split at e
  rotate_left
  · cases e
  cases e
  rw [pmem_first.eq]
  unfold pmem_first.H
  simp (maxSteps := 4000000) only [go_sem, Nat.reduceEqDiff, Nat.reduceLT, Nat.reduceAdd, Nat.reduceSub, Nat.reduceLeDiff, List.reduceReplicate, Int.reduceToNat]
  rename_i vol per pend line
  unfold roomy at hS
  have e : IntKind.i64.wrap ((vol.length : Int).tdiv 8) = ((vol.length / 8 : Nat) : Int) := by rw [tdiv8]; exact w64 (by omega) (by omega)
  rw [e]
  refine ⟨fun _ => by decide, fun hb => ?_, fun hb => ?_⟩
  · unfold firstI; rw [if_pos hb]; exact post_val rfl rfl
  · have h2 := hb
    rw [Bool.or_eq_false_iff, decide_eq_false_iff_not, decide_eq_false_iff_not] at h2
    rw [w64 (by omega) (by omega)]
    unfold firstI; rw [hb]; exact post_val rfl rfl
def pmem_Put.C : Contract
  | [.agg [.sl false (.ints .i64 vol), .sl false (.ints .i64 per), .sl false (.pends pend)], .int .i64 at_, .int .i64 val] => some (false, pD (smallM vol per pend ∧ roomy (pend.length + 1)) (putM vol per pend at_ val))
  | _ => none
set_option maxRecDepth 20000 in
theorem pmem_Put.spec : FSpec Try.prog 142 pmem_Put.C := by
  refine FSpec.of (ctx_ok (F := [(145, pmem_place.C), (146, slices_Clip_sl_api_Pending_api_Pending.C)]) (S := []) (by simpa using ⟨pmem_place.spec, slices_Clip_sl_api_Pending_api_Pending.spec⟩) (by simp) pmem_Put.loops) pmem_Put.at pmem_Put.nm pmem_Put.bd ?_
  intro vs b S v news e hS
  unfold pmem_Put.C at e
  split at e
  rotate_left
  · cases e
  cases e
  rw [pmem_Put.eq]
  unfold pmem_Put.H
  simp (maxSteps := 4000000) only [go_sem, Nat.reduceEqDiff, Nat.reduceLT, Nat.reduceAdd, Nat.reduceSub, Nat.reduceLeDiff, List.reduceReplicate, Int.reduceToNat, pmem_place.C, slices_Clip_sl_api_Pending_api_Pending.C]
  rename_i vol per pend at_ val
  obtain ⟨hS, hr⟩ := hS
  refine ⟨hS, fun hb => ?_, fun hb => ?_⟩
  · unfold putM; rw [hb]; exact post_val rfl rfl
  · have hp : 0 ≤ at_ ∧ at_ < (vol.length : Int) := by
      simp only [placeB, Bool.and_eq_true, decide_eq_true_eq] at hb
      exact hb.1
    have e : vol ++ List.take (vol.length - min vol.length vol.length) (List.drop (min vol.length vol.length) (List.replicate vol.length 0)) = vol := by simp
    rw [e]
    have hl : (pend ++ [(⟨at_, val, false⟩ : Pend)]).length = pend.length + 1 := by simp
    rw [hl]
    refine ⟨⟨by omega, by omega, hS.1⟩, hp, by omega, hr, rfl, ?_⟩
    unfold putM
    simp only [hb, if_true]
    refine post_val ?_ rfl
    have t1 : (vol.set at_.toNat val).take vol.length = vol.set at_.toNat val := List.take_of_length_le (by simp)
    have t2 : (pend ++ [(⟨at_, val, false⟩ : Pend)]).take (pend.length + 1) = pend ++ [(⟨at_, val, false⟩ : Pend)] := List.take_of_length_le (by simp)
    simp only [go_sem, Nat.reduceEqDiff, Nat.reduceLT, Nat.reduceAdd, Nat.reduceSub, Nat.reduceLeDiff, List.reduceReplicate, Int.reduceToNat, memV, t1, t2]
def pmem_of_1.I : Con → Con := fun Y args h K => match args with
  | [.fn (.yield l) [] [], a0, a1] => pmem_of_1.H ((ctx [] [] pmem_of_1.loops).withY l Y) (.fn (.yield l) [] []) a0 a1 h K
  | _ => False
theorem pmem_of_1.spec : ISpec Try.prog 151 pmem_of_1.I := by
  refine ISpec.of (ctx_ok (F := []) (S := []) (by simp) (by simp) pmem_of_1.loops).toOkI pmem_of_1.at pmem_of_1.nm pmem_of_1.bd ?_
  intro Yc l cap h K hC
  unfold pmem_of_1.I at hC
  split at hC
  · rename_i e
    simp only [List.cons.injEq, AV.fn.injEq, Fn.yield.injEq, and_true, true_and] at e
    obtain ⟨rfl, rfl⟩ := e
    rw [pmem_of_1.eq]; exact hC
  · exact hC.elim
def pmem_of.K : Con := fun args h K => match args with
  | [a0, a1] => pmem_of.H (ctx [] [] pmem_of.loops) a0 a1 h K
  | _ => False
theorem pmem_of.spec : SSpec Try.prog 149 pmem_of.K := by
  refine SSpec.of (ctx_ok (F := []) (S := []) (by simp) (by simp) pmem_of.loops) pmem_of.at pmem_of.nm pmem_of.bd ?_
  intro args h K hC
  unfold pmem_of.K at hC
  split at hC
  · rw [pmem_of.eq]; exact hC
  · exact hC.elim
def pmem_Flush.C : Contract
  | [.agg [.sl false (.ints .i64 vol), .sl false (.ints .i64 per), .sl false (.pends pend)], .int .i64 line] => some (false, pD (smallM vol per pend) (flushM vol per pend line))
  | _ => none
set_option maxRecDepth 20000 in
theorem pmem_Flush.spec : FSpec Try.prog 143 pmem_Flush.C := by
  refine FSpec.of (ctxI_ok (F := [(145, pmem_place.C), (147, pmem_first.C), (148, slices_Clone_sl_api_Pending_api_Pending.C)]) (S := [(149, pmem_of.K)]) (Is := [(151, pmem_of_1.I)]) (by simpa using ⟨pmem_place.spec, pmem_first.spec, slices_Clone_sl_api_Pending_api_Pending.spec⟩) (by simpa using pmem_of.spec) (by simpa using pmem_of_1.spec) pmem_Flush.loops) pmem_Flush.at pmem_Flush.nm pmem_Flush.bd ?_
  intro vs b S v news e hS
  unfold pmem_Flush.C at e
  split at e
  rotate_left
  · cases e
  cases e
  rw [pmem_Flush.eq]
  unfold pmem_Flush.H
  simp (maxSteps := 4000000) only [go_sem, Nat.reduceEqDiff, Nat.reduceLT, Nat.reduceAdd, Nat.reduceSub, Nat.reduceLeDiff, List.reduceReplicate, Int.reduceToNat, pmem_place.C, pmem_first.C, slices_Clone_sl_api_Pending_api_Pending.C, pmem_of.K, pmem_of.H, pmem_of_1.I, pmem_of_1.H, joinW_eq]
  rename_i vol per pend line
  refine ⟨hS.1, hS, fun hb => ?_, fun hb => ⟨hS.2.2, ?_⟩⟩
  · unfold flushM; rw [hb]; exact post_val rfl rfl
  intro l r
  obtain ⟨s1, s2, s3⟩ := hS
  unfold roomy at s1 s2 s3
  unfold pmem_of_1.L1
  refine ⟨fun m lv h' => ∃ k : Nat, k + m = pend.length ∧ lv = [.int .i64 k] ∧ h' = [.box (.agg [.sl false (.ints .i64 vol), .sl false (.ints .i64 per), .sl false (.pends pend)]),
      .box (.agg [.sl false (.ints .i64 []), .sl false (.ints .i64 []), .sl false (.pends [])]), .row .own 0 (.pends (flushP line (pend.take k) ++ pend.drop k)), .box (.sref false 2 0 0 pend.length),
      .box (.agg [.sl false (.ints .i64 vol), .sl false (.ints .i64 per), .sl false (.pends pend)]), .box (.int .i64 line), .lp .ready none r],
    ⟨pend.length, 0, by omega, rfl, rfl⟩, ?_⟩
  rintro m h' t9 ⟨k, hk, hlv, rfl⟩
  simp only [List.cons.injEq, and_true] at hlv
  subst hlv
  have hlen : (flushP line (pend.take k) ++ pend.drop k).length = pend.length := by simp [flushP]; omega
  simp only [go_sem, Nat.reduceEqDiff, Nat.reduceLT, Nat.reduceAdd, Nat.reduceSub, Nat.reduceLeDiff, List.reduceReplicate, Int.reduceToNat, encPend, hlen]
  refine ⟨fun hlt => ?_, fun hge => ?_⟩
  · have hkl : k < pend.length := by omega
    have hget : (flushP line (pend.take k) ++ pend.drop k).getD k ⟨0, 0, false⟩ = pend.getD k ⟨0, 0, false⟩ := by
      rw [List.getD_eq_getElem?_getD, List.getElem?_append_right (by simp [flushP]; omega)]
      have e : k - (flushP line (pend.take k)).length = 0 := by simp [flushP]; omega
      rw [e, List.getElem?_drop, Nat.add_zero, List.getD_eq_getElem?_getD]
    have hdrop : pend.drop k = pend.getD k ⟨0, 0, false⟩ :: pend.drop (k + 1) := by
      rw [List.getD_eq_getElem?_getD, List.getElem?_eq_getElem hkl, List.drop_eq_getElem_cons hkl]; rfl
    have hset : ∀ q : Pend, (flushP line (pend.take k) ++ pend.drop k).set k q = flushP line (pend.take k) ++ q :: pend.drop (k + 1) := by
      intro q
      rw [hdrop, List.set_append_right _ _ (by simp [flushP]; omega)]
      have e : k - (flushP line (pend.take k)).length = 0 := by simp [flushP]; omega
      rw [e]; rfl
    have hnx : flushP line (pend.take (k + 1)) = flushP line (pend.take k) ++ [if lineOf (pend.getD k ⟨0, 0, false⟩).at_ = line then { pend.getD k ⟨0, 0, false⟩ with fl := true } else pend.getD k ⟨0, 0, false⟩] := by
      rw [take_next pend k ⟨0, 0, false⟩ hkl]
      simp [flushP]
    rw [joinW_eq]
    simp only [guardW_bool, hget, hset]
    refine ⟨by omega, by decide, fun hc => ?_, fun hc => ?_⟩
    · have hc : lineOf (pend.getD k ⟨0, 0, false⟩).at_ = line := by simpa [lineOf] using hc
      simp only [go_sem, Nat.reduceEqDiff, Nat.reduceLT, Nat.reduceAdd, Nat.reduceSub, Nat.reduceLeDiff, List.reduceReplicate, Int.reduceToNat]
      refine ⟨⟨by omega, by omega⟩, hkl, m - 1, by omega, k + 1, by omega, by rw [w64 (by omega) (by omega)]; rfl, ?_⟩
      rw [hnx, if_pos hc, List.append_assoc]; rfl
    · have hc : ¬ lineOf (pend.getD k ⟨0, 0, false⟩).at_ = line := by simpa [lineOf] using hc
      simp only [go_sem, Nat.reduceEqDiff, Nat.reduceLT, Nat.reduceAdd, Nat.reduceSub, Nat.reduceLeDiff, List.reduceReplicate, Int.reduceToNat]
      refine ⟨m - 1, by omega, k + 1, by omega, by rw [w64 (by omega) (by omega)]; rfl, ?_⟩
      rw [hnx, if_neg hc, List.append_assoc, hdrop]; rfl
  · have : k = pend.length := by omega
    subst this
    rw [List.take_length, List.drop_length, List.append_nil] at hlen
    have e : flushP line (pend.take pend.length) ++ pend.drop pend.length = flushP line pend := by rw [List.take_length, List.drop_length, List.append_nil]
    rw [e]
    unfold flushM
    simp only [hb, if_true]
    refine post_val ?_ rfl
    have t1 : (flushP line pend).take pend.length = flushP line pend := List.take_of_length_le (by omega)
    simp only [go_sem, Nat.reduceEqDiff, Nat.reduceLT, Nat.reduceAdd, Nat.reduceSub, Nat.reduceLeDiff, List.reduceReplicate, Int.reduceToNat, memV, t1]
def pmem_Fence_1.C : Contract
  | [.agg [.int .i64 a, .int .i64 v, .bool f]] => some (false, pD True (.bool f))
  | _ => none
set_option maxRecDepth 20000 in
theorem pmem_Fence_1.spec : FSpec Try.prog 150 pmem_Fence_1.C := by
  refine FSpec.of (ctx_ok (F := []) (S := []) (by simp) (by simp) pmem_Fence_1.loops) pmem_Fence_1.at pmem_Fence_1.nm pmem_Fence_1.bd ?_
  intro vs b S v news e hS
  unfold pmem_Fence_1.C at e
  split at e
  rotate_left
  · cases e
  cases e
  rw [pmem_Fence_1.eq]
  unfold pmem_Fence_1.H
  simp (maxSteps := 4000000) only [go_sem, Nat.reduceEqDiff, Nat.reduceLT, Nat.reduceAdd, Nat.reduceSub, Nat.reduceLeDiff, List.reduceReplicate, Int.reduceToNat]
  exact post_val rfl rfl
def pmem_Crash_1.K : Con := fun args h K => match args with
  | [a0, a1] => pmem_Crash_1.H (ctx [] [] pmem_Crash_1.loops) a0 a1 h K
  | _ => False
theorem pmem_Crash_1.spec : SSpec Try.prog 130 pmem_Crash_1.K := by
  refine SSpec.of (ctx_ok (F := []) (S := []) (by simp) (by simp) pmem_Crash_1.loops) pmem_Crash_1.at pmem_Crash_1.nm pmem_Crash_1.bd ?_
  intro args h K hC
  unfold pmem_Crash_1.K at hC
  split at hC
  · rw [pmem_Crash_1.eq]; exact hC
  · exact hC.elim
def pmem_keep.K : Con := fun args h K => match args with
  | [a0, a1] => pmem_keep.H (ctx [(92, slices_Clone_sl_int_int.C), (150, pmem_Fence_1.C)] [(130, pmem_Crash_1.K)] pmem_keep.loops) a0 a1 h K
  | _ => False
theorem pmem_keep.spec : SSpec Try.prog 129 pmem_keep.K := by
  refine SSpec.of (ctx_ok (F := [(92, slices_Clone_sl_int_int.C), (150, pmem_Fence_1.C)]) (S := [(130, pmem_Crash_1.K)]) (by simpa using ⟨slices_Clone_sl_int_int.spec, pmem_Fence_1.spec⟩) (by simpa using pmem_Crash_1.spec) pmem_keep.loops) pmem_keep.at pmem_keep.nm pmem_keep.bd ?_
  intro args h K hC
  unfold pmem_keep.K at hC
  split at hC
  · rw [pmem_keep.eq]; exact hC
  · exact hC.elim

def pmem_Fence.C : Contract
  | [.agg [.sl false (.ints .i64 vol), .sl false (.ints .i64 per), .sl false (.pends pend)]] => some (false, pD (smallM vol per pend) (fenceM fFl (checkB vol per pend) vol per pend))
  | _ => none
set_option maxRecDepth 20000 in
theorem pmem_Fence.spec : FSpec Try.prog 144 pmem_Fence.C := by
  refine FSpec.of (ctx_ok (F := [(124, pmem_Check.C)]) (S := [(129, pmem_keep.K)]) (by simpa using pmem_Check.spec) (by simpa using pmem_keep.spec) pmem_Fence.loops) pmem_Fence.at pmem_Fence.nm pmem_Fence.bd ?_
  intro vs b S v news e hS
  unfold pmem_Fence.C at e
  split at e
  rotate_left
  · cases e
  cases e
  rw [pmem_Fence.eq]
  unfold pmem_Fence.H
  simp (maxSteps := 4000000) only [go_sem, Nat.reduceEqDiff, Nat.reduceLT, Nat.reduceAdd, Nat.reduceSub, Nat.reduceLeDiff, List.reduceReplicate, Int.reduceToNat, pmem_Check.C, pmem_keep.K, pmem_keep.H, slices_Clone_sl_int_int.C]
  rename_i vol per pend
  refine ⟨hS, fun hb => ?_, fun hb => ⟨hS.2.1, ?_⟩⟩
  · unfold fenceM; rw [hb]; exact post_val rfl rfl
  obtain ⟨s1, s2, s3⟩ := hS
  unfold roomy at s1 s2 s3
  have hrange := check_range hb
  rw [joinW_eq]
  unfold pmem_keep.L1
  refine ⟨fun m lv h' => ∃ k v : Nat, k + m = pend.length ∧ lv = [.int .i64 k] ∧ h' = [.box (.agg [.sl false (.ints .i64 vol), .sl false (.ints .i64 per), .sl false (.pends pend)]), .box (.agg [.sl false (.ints .i64 []), .sl false (.ints .i64 []), .sl false (.pends [])]), .box (.agg [.sl false (.ints .i64 vol), .sl false (.ints .i64 per), .sl false (.pends pend)]), .box (.agg [.sl false (.ints .i64 []), .sl false (.ints .i64 []), .sl false (.pends [])]), .row .own 0 (.ints .i64 (keepW fFl (pend.take k) per)), .box (.agg [.sl false (.ints .i64 vol), .sref false 4 0 0 per.length, .sref false 6 v 0 (keepP fFl (pend.take k)).length]), .row .own v (.pends (keepP fFl (pend.take k)))],
    ⟨pend.length, 0, 0, by omega, rfl, rfl⟩, ?_⟩
  rintro m h' t17 ⟨k, v, hk, hlv, rfl⟩
  simp only [List.cons.injEq, and_true] at hlv
  subst hlv
  have hwl : (keepW fFl (pend.take k) per).length = per.length := keepW_len _ _ _
  have hpl : (keepP fFl (pend.take k)).length ≤ k := Nat.le_trans (List.length_filter_le _ _) (by simp; omega)
  simp only [go_sem, Nat.reduceEqDiff, Nat.reduceLT, Nat.reduceAdd, Nat.reduceSub, Nat.reduceLeDiff, List.reduceReplicate, Int.reduceToNat, encPend, hwl, pmem_Fence_1.C]
  refine ⟨fun hlt => ?_, fun hge => ?_⟩
  · have hkl : k < pend.length := by omega
    have hr := hrange _ (getD_mem pend k ⟨0, 0, false⟩ hkl)
    have hW := keepW_snoc fFl (pend.getD k ⟨0, 0, false⟩) (pend.take k) per
    have hP := keepP_snoc fFl (pend.getD k ⟨0, 0, false⟩) (pend.take k)
    rw [← take_next pend k ⟨0, 0, false⟩ hkl] at hW hP
    generalize pend.getD k ⟨0, 0, false⟩ = p at *
    try rw [joinW_eq]
    refine ⟨by omega, fun hc => ?_, fun hc => ?_⟩
    · have hc : fFl p = true := hc
      rw [hc] at hW hP
      simp only [go_sem, Nat.reduceEqDiff, Nat.reduceLT, Nat.reduceAdd, Nat.reduceSub, Nat.reduceLeDiff, List.reduceReplicate, Int.reduceToNat]
      refine ⟨hr, by omega, m - 1, by omega, k + 1, v, by omega, by rw [w64 (by omega) (by omega)]; rfl, ?_⟩
      rw [hW, hP]
    · have hc : fFl p = false := hc
      rw [hc] at hW hP
      simp only [go_sem, Nat.reduceEqDiff, Nat.reduceLT, Nat.reduceAdd, Nat.reduceSub, Nat.reduceLeDiff, List.reduceReplicate, Int.reduceToNat]
      refine ⟨by unfold roomy; simp; omega, m - 1, by omega, k + 1, v + 1, by omega, by rw [w64 (by omega) (by omega)]; rfl, ?_⟩
      rw [hW, hP]
  · have : k = pend.length := by omega
    subst this
    rw [List.take_length] at hwl hpl ⊢
    have t1 : (keepW fFl pend per).take per.length = keepW fFl pend per := List.take_of_length_le (by omega)
    have t2 : (keepP fFl pend).take (keepP fFl pend).length = keepP fFl pend := List.take_length
    unfold fenceM
    simp only [hb, if_true, go_sem, Nat.reduceEqDiff, Nat.reduceLT, Nat.reduceAdd, Nat.reduceSub, Nat.reduceLeDiff, List.reduceReplicate, Int.reduceToNat]
    refine post_val ?_ rfl
    simp only [go_sem, Nat.reduceEqDiff, Nat.reduceLT, Nat.reduceAdd, Nat.reduceSub, Nat.reduceLeDiff, List.reduceReplicate, Int.reduceToNat, memV, t1, t2]

end Lam
namespace Lam
open Go Go.Proofs
set_option linter.unusedVariables false
set_option linter.unnecessarySimpa false
set_option linter.unusedSimpArgs false
def pmem_New.C : Contract
  | [.sl _ (.ints .i64 l)] => some (false, pD (roomy l.length) (newM l))
  | _ => none
set_option maxRecDepth 20000 in
theorem pmem_New.spec : FSpec Try.prog 103 pmem_New.C := by
  refine FSpec.of (ctx_ok (F := [(123, pmem_sized.C), (92, slices_Clone_sl_int_int.C)]) (S := []) (by simpa using ⟨pmem_sized.spec, slices_Clone_sl_int_int.spec⟩) (by simp) pmem_New.loops) pmem_New.at pmem_New.nm pmem_New.bd ?_
  intro vs b S v news e hS
  unfold pmem_New.C at e
  split at e
  rotate_left
  · cases e
  cases e
  rw [pmem_New.eq]
  unfold pmem_New.H
  simp (maxSteps := 4000000) only [go_sem, Nat.reduceEqDiff, Nat.reduceLT, Nat.reduceAdd, Nat.reduceSub, Nat.reduceLeDiff, List.reduceReplicate, Int.reduceToNat, pmem_sized.C, slices_Clone_sl_int_int.C]
  rename_i l
  unfold roomy at hS
  refine ⟨fun hb => ?_, fun hb => ?_⟩
  · unfold newM; rw [hb]; exact post_val rfl rfl
  · refine ⟨hS, hS, ?_⟩
    unfold newM; simp only [hb, if_true]
    refine post_val ?_ rfl
    simp only [go_sem, Nat.reduceEqDiff, Nat.reduceLT, Nat.reduceAdd, Nat.reduceSub, Nat.reduceLeDiff, List.reduceReplicate, Int.reduceToNat, memV, List.take_length]
def pmem_Crash.C : Contract
  | [.agg [.sl false (.ints .i64 vol), .sl false (.ints .i64 per), .sl false (.pends pend)], .sl _ (.ints .i64 keep)] => some (false, pD (smallM vol per pend ∧ roomy keep.length ∧ i64s keep) (crashM (checkB vol per pend) keep per pend))
  | _ => none
set_option maxRecDepth 20000 in
theorem pmem_Crash.spec : FSpec Try.prog 111 pmem_Crash.C := by
  refine FSpec.of (ctx_ok (F := [(124, pmem_Check.C)]) (S := [(129, pmem_keep.K)]) (by simpa using pmem_Check.spec) (by simpa using pmem_keep.spec) pmem_Crash.loops) pmem_Crash.at pmem_Crash.nm pmem_Crash.bd ?_
  intro vs b S v news e hS
  unfold pmem_Crash.C at e
  split at e
  rotate_left
  · cases e
  cases e
  rw [pmem_Crash.eq]
  unfold pmem_Crash.H
  simp (maxSteps := 4000000) only [go_sem, Nat.reduceEqDiff, Nat.reduceLT, Nat.reduceAdd, Nat.reduceSub, Nat.reduceLeDiff, List.reduceReplicate, Int.reduceToNat, pmem_Check.C]
  rename_i vol per pend _ keep
  obtain ⟨hS, hr, hw64⟩ := hS
  refine ⟨hS, fun hb => ?_, fun hb => ?_⟩
  · unfold crashM; rw [hb]; exact post_val rfl rfl
  obtain ⟨s1, s2, s3⟩ := hS
  unfold roomy at s1 s2 s3 hr
  have hrange := check_range hb
  rw [joinW_eq]
  unfold pmem_Crash.L1
  refine loop1 (σ := Nat) (fun k => .int .i64 k) (fun k => [AObj.box (memV vol per pend), AObj.map (MapC.ii (leftF (keep.take k))), AObj.box (AV.map 1)]) (fun k => keep.length - k) (fun k => k ≤ keep.length) 0 rfl ?_ (Nat.zero_le _) ?_
  · simp [memV, Lam.normO]
    exact leftF_nil.symm
  intro I back k hk
  simp only [go_sem, Nat.reduceEqDiff, Nat.reduceLT, Nat.reduceAdd, Nat.reduceSub, Nat.reduceLeDiff, List.reduceReplicate, Int.reduceToNat]
  refine ⟨fun hlt => ⟨by omega, back (k + 1) (by omega) (by rw [wnext (by omega)]) ?_ (by omega)⟩, fun hge => ?_⟩
  · rw [leftF_next keep (by omega)]; rfl
  obtain rfl : k = keep.length := by omega
  simp only [List.take_length, pmem_keep.K, pmem_keep.H, slices_Clone_sl_int_int.C, go_sem, Nat.reduceEqDiff, Nat.reduceLT, Nat.reduceAdd, Nat.reduceSub, Nat.reduceLeDiff, List.reduceReplicate, Int.reduceToNat]
  refine ⟨s2, ?_⟩
  rw [joinW_eq]
  unfold pmem_keep.L1
  refine loop1 (σ := Nat × Nat × List Int × List Pend × (Int → Int)) (fun s => .int .i64 s.1) (fun s => [.box (memV vol per pend), .map (.ii s.2.2.2.2), .box (.map 1), .box (memV vol per pend), .box (memV [] [] []), .row .own 0 (.ints .i64 s.2.2.1),
      .box (.agg [.sl false (.ints .i64 vol), .sref false 5 0 0 per.length, .sref false 7 s.2.1 0 s.2.2.2.1.length]), .row .own s.2.1 (.pends s.2.2.2.1)]) (fun s => pend.length - s.1)
    (fun s => s.1 ≤ pend.length ∧ s.2.2.1.length = per.length ∧ s.2.2.2.1.length ≤ s.1 ∧ (∀ j, s.2.2.2.2 j < 9223372036854775808) ∧ app (crashK (pend.drop s.1) s.2.2.2.2) s.2.2.1 = crashW keep per pend) (0, 0, per, [], leftF keep) rfl rfl ⟨Nat.zero_le _, rfl, Nat.le_refl _, leftF_lt hw64, rfl⟩ ?_
  rintro I back ⟨k, v, w, q, left⟩ ⟨hk, hw, hq, hlf, hA⟩
  simp only [] at hk hw hq hA hlf ⊢
  simp only [go_sem, Nat.reduceEqDiff, Nat.reduceLT, Nat.reduceAdd, Nat.reduceSub, Nat.reduceLeDiff, List.reduceReplicate, Int.reduceToNat, hw]
  refine ⟨fun hlt => ⟨by omega, ?_⟩, fun hge => ?_⟩
  · have hkl : k < pend.length := by omega
    rw [drop_cons pend k ⟨0, 0, false⟩ hkl] at hA
    have hr := hrange _ (getD_mem pend k ⟨0, 0, false⟩ hkl)
    generalize pend.getD k ⟨0, 0, false⟩ = p at *
    simp only [crashK] at hA
    try rw [joinW_eq]
    simp only [pmem_Crash_1.K, pmem_Crash_1.H, go_sem, Nat.reduceEqDiff, Nat.reduceLT, Nat.reduceAdd, Nat.reduceSub, Nat.reduceLeDiff, List.reduceReplicate, Int.reduceToNat]
    have hle : (fun j => if j = IntKind.i64.wrap (p.at_.tdiv 8) then IntKind.i64.wrap ((if 1 > left (IntKind.i64.wrap (p.at_.tdiv 8)) then 1 else left (IntKind.i64.wrap (p.at_.tdiv 8))) - 1) else left j) = lessL p left := by
      funext j
      have h1 := hlf (lineOf p.at_)
      show (if j = lineOf p.at_ then IntKind.i64.wrap ((if 1 > left (lineOf p.at_) then 1 else left (lineOf p.at_)) - 1) else left j) = _
      unfold lessL
      split
      · rw [w64 (by split <;> omega) (by split <;> omega)]
        split <;> split <;> omega
      · rfl
    rw [hle]
    have hlf' : ∀ j, lessL p left j < 9223372036854775808 := fun j => by
      have h1 := hlf (lineOf p.at_); have h2 := hlf j
      unfold lessL; split <;> (try split) <;> omega
    refine ⟨by decide, by decide, fun hc => ?_, fun hc => ?_⟩
    · have hc : 0 < left (lineOf p.at_) := hc
      rw [decide_eq_true hc] at hA
      refine ⟨hr, by omega, back (k + 1, v, _, q, lessL p left) (by show _ - (k + 1) < _ - k; omega) (by rw [wnext (by omega)]) rfl ⟨by show k + 1 ≤ _; omega, by show (w.set _ _).length = _; rw [List.length_set]; exact hw, by show q.length ≤ k + 1; omega, hlf', hA⟩⟩
    · have hc : ¬ 0 < left (lineOf p.at_) := hc
      rw [decide_eq_false hc] at hA
      have hl : (q ++ [(⟨p.at_, p.val, p.fl⟩ : Pend)]).length = q.length + 1 := by simp
      refine ⟨by unfold roomy; omega, back (k + 1, v + 1, w, _, lessL p left) (by show _ - (k + 1) < _ - k; omega) (by rw [wnext (by omega)]) rfl ⟨by show k + 1 ≤ _; omega, hw, by show (q ++ _).length ≤ k + 1; omega, hlf', hA⟩⟩
  · obtain rfl : k = pend.length := by omega
    rw [List.drop_length] at hA
    have hA : w = crashW keep per pend := hA
    unfold crashM
    simp only [hb, if_true]
    refine post_val ?_ rfl
    simp only [go_sem, Nat.reduceEqDiff, Nat.reduceLT, Nat.reduceAdd, Nat.reduceSub, Nat.reduceLeDiff, List.reduceReplicate, Int.reduceToNat]
    rw [hA, take_len _ (by rw [crashW_len]; exact Nat.le_refl _)]
end Lam
namespace Lam
open Go Go.Proofs
set_option linter.unusedVariables false
def micro_Run.loops : Nat → LInfo
  | _ => ⟨[], [], [], [], []⟩
def micro_Run.H (c : Ctx) (t0 : AV) (t1 : AV) (h : List AObj) (K : AOut → List AObj → Prop) : Prop :=
  boxW T_api_Mem t0 h fun t2 h =>
  allocW T_api_Mem h fun t4 h =>
  runD (fitD T_api_Mem (loadD h t2)) h fun t6 h =>
  callW c (.fn (.func 104) [] []) [t6, t1] h (fun t8 h =>
  runD (unD .not t8) h fun t9 h =>
  condW t9
  (runD (fitD T_api_Mem (loadD h t2)) h fun t10 h =>
    runH (storeH T_api_Mem h t4 t10) h fun _ h =>
    loadRes (fitD T_api_Mem (loadD h t4)) fun r0 => K (.ret (.tup [r0, (.int .i64 40)])) h)
  (runD (fitD T_api_Mem (loadD h t2)) h fun t11 h =>
  runD (lenD T_sl_api_Micro h t1) h fun t14 h =>
  callW c (.fn (.func 105) [] []) [t11, t1, t14] h (fun t15 h =>
  runH (storeH T_api_Mem h t4 t15) h fun _ h =>
  loadRes (fitD T_api_Mem (loadD h t4)) fun r0 => K (.ret (.tup [r0, (.int .i64 0)])) h)
  (fun v h => K (.pan v) h)))
  (fun v h => K (.pan v) h)
def micro_Do.loops : Nat → LInfo
  | _ => ⟨[], [], [], [], []⟩
def micro_Do.H (c : Ctx) (t0 : AV) (t1 : AV) (h : List AObj) (K : AOut → List AObj → Prop) : Prop :=
  boxW T_api_Mem t0 h fun t2 h =>
  boxW T_api_Micro t1 h fun t3 h =>
  allocW T_api_Mem h fun t4 h =>
  runD (fitD T_api_Mem (loadD h t2)) h fun t6 h =>
  runD (fitD T_api_Micro (loadD h t3)) h fun t7 h =>
  runD (buildSliceD T_sl_api_Micro 1 [(0, t7)] h.length) h fun t8 h =>
  callW c (.fn (.func 63) [] []) [t6, t8] h (fun t9 h =>
  runD (extractD t9 0) h fun t10 h =>
  runD (extractD t9 1) h fun t11 h =>
  runH (storeH T_api_Mem h t4 t10) h fun _ h =>
  loadRes (fitD T_api_Mem (loadD h t4)) fun r0 => K (.ret (.tup [r0, t11])) h)
  (fun v h => K (.pan v) h)
def micro_Crash.loops : Nat → LInfo
  | _ => ⟨[], [], [], [], []⟩
def micro_Crash.H (c : Ctx) (t0 : AV) (t1 : AV) (t2 : AV) (t3 : AV) (h : List AObj) (K : AOut → List AObj → Prop) : Prop :=
  boxW T_api_Mem t0 h fun t4 h =>
  runD (fitD T_api_Mem (loadD h t4)) h fun t10 h =>
  callW c (.fn (.func 104) [] []) [t10, t1] h (fun t12 h =>
  runD (unD .not t12) h fun t13 h =>
  condW t13
  (K (.ret (.tup [(.sl true (.ints .i64 [])), (.int .i64 40)])) h)
  (runD (fitD T_api_Mem (loadD h t4)) h fun t14 h =>
  runD (lenD T_sl_api_Micro h t1) h fun t18 h =>
  runD (minD t2 t18) h fun t19 h =>
  runD (maxD (.int .i64 0) t19) h fun t20 h =>
  callW c (.fn (.func 105) [] []) [t14, t1, t20] h (fun t21 h =>
  callW c (.fn (.func 111) [] []) [t21, t3] h (fun t23 h =>
  runD (extractD t23 0) h fun t24 h =>
  runD (extractD t23 1) h fun t25 h =>
  K (.ret (.tup [t24, t25])) h)
  (fun v h => K (.pan v) h))
  (fun v h => K (.pan v) h)))
  (fun v h => K (.pan v) h)
def micro_Check.loops : Nat → LInfo
  | 1 => ⟨[], [], [], [(3, none), (2, some [8, 10]), (2, none), (3, some [12, 15])], []⟩
  | 2 => ⟨[], [], [], [(2, none), (4, some [18, 22])], []⟩
  | _ => ⟨[], [], [], [], []⟩
def micro_Check.H (c : Ctx) (t0 : AV) (t1 : AV) (h : List AObj) (K : AOut → List AObj → Prop) : Prop :=
  boxW T_int t1 h fun t3 h =>
  runD (fitD T_int (loadD h t3)) h fun t6 h =>
  runD (binD T_int .geq t6 (.int .i64 0)) h fun t7 h =>
  joinW (fun (J1 : AV → AV → List AObj → Prop) =>
  guardW t7 true
  (runD (fitD T_int (loadD h t3)) h fun t9 h =>
    runD (binD T_int .leq t9 (.int .i64 4096)) h fun t10 h =>
    J1 (.bool true) t10 h)
  (J1 (.bool false) .und h))
  (fun t8 t10 h => runD (pickD t8 t10 (.bool false)) h fun t11 h =>
  joinW (fun (J2 : AV → AV → List AObj → Prop) =>
  guardW t11 true
  (runD (fitD T_int (loadD h t3)) h fun t13 h =>
    runD (binD T_int .rem t13 (.int .i64 8)) h fun t14 h =>
    runD (binD T_int .eql t14 (.int .i64 0)) h fun t15 h =>
    J2 (.bool true) t15 h)
  (J2 (.bool false) .und h))
  (fun t12 t15 h => runD (pickD t12 t15 (.bool false)) h fun t16 h =>
  joinW (fun (J3 : AV → AV → List AObj → Prop) =>
  guardW t16 true
  (callW c (.fn (.func 113) [] []) [t0, (.fn (.func 114) [] [t3])] h (fun t21 h =>
    runD (unD .not t21) h fun t22 h =>
    J3 (.bool true) t22 h)
    (fun v h => K (.pan v) h))
  (J3 (.bool false) .und h))
  (fun t18 t22 h => runD (pickD t18 t22 (.bool false)) h fun t23 h =>
  K (.ret t23) h)))
def micro_sound.loops : Nat → LInfo
  | 1 => ⟨[], [], [], [(3, none), (5, some [7, 12])], []⟩
  | _ => ⟨[], [], [], [], []⟩
def micro_sound.H (c : Ctx) (t0 : AV) (t1 : AV) (h : List AObj) (K : AOut → List AObj → Prop) : Prop :=
  boxW T_api_Mem t0 h fun t2 h =>
  runD (fitD T_api_Mem (loadD h t2)) h fun t5 h =>
  callW c (.fn (.func 124) [] []) [t5] h (fun t6 h =>
  joinW (fun (J1 : AV → AV → List AObj → Prop) =>
  guardW t6 true
  (runD (fieldAddrD T_api_Mem t2 0) h fun t9 h =>
    runD (fitD T_sl_int (loadD h t9)) h fun t10 h =>
    runD (lenD T_sl_int h t10) h fun t11 h =>
    callW c (.fn (.func 70) [] []) [t1, t11] h (fun t12 h =>
    J1 (.bool true) t12 h)
    (fun v h => K (.pan v) h))
  (J1 (.bool false) .und h))
  (fun t7 t12 h => runD (pickD t7 t12 (.bool false)) h fun t13 h =>
  K (.ret t13) h))
  (fun v h => K (.pan v) h)
def micro_first.loops : Nat → LInfo
  | 4 => ⟨[15], [false], [1, 6, 7, 8, 14], [], []⟩
  | _ => ⟨[], [], [], [], []⟩
def micro_first.L1 (c : Ctx) (J1 : AV → AV → List AObj → Prop) (K : AOut → List AObj → Prop) (lv : List AV) (h0 : List AObj) (n0 : Nat) (c1 : AV) (c6 : AV) (c7 : AV) (c8 : AV) (c14 : AV) : Prop :=
  ∃ I : Nat → List AV → List AObj → Prop, (∃ n, I n lv h0) ∧ ∀ n h, ∀ t15, I n [t15] h →
    runD (binD T_int .lss t15 c14) h fun t16 h =>
    condW t16
    (runD (indexAddrD T_sl_api_Micro h c1 t15) h fun t21 h =>
    runD (fieldAddrD T_api_Micro t21 0) h fun t22 h =>
    runD (fitD T_int (loadD h t22)) h fun t23 h =>
    runD (lookupD T_map_int_func_p_micro_doer_api_Micro h c8 t23) h fun t24 h =>
    runD (indexAddrD T_sl_api_Micro h c1 t15) h fun t28 h =>
    runD (fitD T_api_Micro (loadD h t28)) h fun t29 h =>
    callW c t24 [c7, t29] h (fun t30 h =>
    runD (binD T_int .add t15 (.int .i64 1)) h fun t31 h =>
    (∃ m, m < n ∧ I m (AV.norms n0 h [t31]) (normH n0 h)) ∧ AV.norms n0 h [c1, c6, c7, c8, c14] = [c1, c6, c7, c8, c14])
    (fun v h => K (.pan v) h))
    (J1 c6 c7 h)
def micro_first.H (c : Ctx) (t0 : AV) (t1 : AV) (t2 : AV) (h : List AObj) (K : AOut → List AObj → Prop) : Prop :=
  boxW T_api_Mem t0 h fun t3 h =>
  allocW T_api_Mem h fun t6 h =>
  runD (fitD T_api_Mem (loadD h t3)) h fun t10 h =>
  runD (buildD T_micro_doer [(0, t10)]) h fun t11 h =>
  boxW T_micro_doer t11 h fun t12 h =>
  callW c (.fn (.func 125) [] []) [] h (fun t13 h =>
  joinW (fun (J1 : AV → AV → List AObj → Prop) =>
  promV [false] [(.int .i64 0)] h fun lv h => micro_first.L1 c J1 K (AV.norms h.length h lv) (normH h.length h) h.length (AV.norm h.length h t1) (AV.norm h.length h t6) (AV.norm h.length h t12) (AV.norm h.length h t13) (AV.norm h.length h t2))
  (fun t6 t7 h => runD (nilCheckD t7) h fun t33 h =>
  runD (fieldAddrD T_micro_doer t33 0) h fun t34 h =>
  runD (fitD T_api_Mem (loadD h t34)) h fun t35 h =>
  runH (storeH T_api_Mem h t6 t35) h fun _ h =>
  loadRes (fitD T_api_Mem (loadD h t6)) fun r0 => K (.ret r0) h))
  (fun v h => K (.pan v) h)
def micro_Check_1.loops : Nat → LInfo
  | _ => ⟨[], [], [], [], []⟩
def micro_Check_1.H (c : Ctx) (t0 : AV) (t1 : AV) (h : List AObj) (K : AOut → List AObj → Prop) : Prop :=
  boxW T_api_Micro t0 h fun t2 h =>
  runD (fitD T_api_Micro (loadD h t2)) h fun t4 h =>
  runD (fitD T_int (loadD h t1)) h fun t5 h =>
  callW c (.fn (.func 115) [] []) [t4, t5] h (fun t6 h =>
  runD (unD .not t6) h fun t7 h =>
  K (.ret t7) h)
  (fun v h => K (.pan v) h)
def micro_may.loops : Nat → LInfo
  | 2 => ⟨[], [], [], [(4, none), (7, some [14, 21]), (2, none), (8, some [23, 31])], []⟩
  | _ => ⟨[], [], [], [], []⟩
def micro_may.H (c : Ctx) (t0 : AV) (t1 : AV) (h : List AObj) (K : AOut → List AObj → Prop) : Prop :=
  boxW T_api_Micro t0 h fun t2 h =>
  runD (makeMapD T_map_int_int h.length) h fun t6 h =>
  runH (mapSetH T_map_int_int h t6 (.int .i64 1) t1) h fun _ h =>
  runD (binD T_int .quo t1 (.int .i64 8)) h fun t9 h =>
  runH (mapSetH T_map_int_int h t6 (.int .i64 2) t9) h fun _ h =>
  runD (fieldAddrD T_api_Micro t2 1) h fun t11 h =>
  runD (fitD T_int (loadD h t11)) h fun t12 h =>
  runD (binD T_int .geq t12 (.int .i64 0)) h fun t13 h =>
  joinW (fun (J1 : AV → AV → List AObj → Prop) =>
  guardW t13 true
  (runD (fieldAddrD T_api_Micro t2 1) h fun t15 h =>
    runD (fitD T_int (loadD h t15)) h fun t16 h =>
    runD (fieldAddrD T_api_Micro t2 0) h fun t18 h =>
    runD (fitD T_int (loadD h t18)) h fun t19 h =>
    runD (lookupD T_map_int_int h t6 t19) h fun t20 h =>
    runD (binD T_int .lss t16 t20) h fun t21 h =>
    J1 (.bool true) t21 h)
  (J1 (.bool false) .und h))
  (fun t14 t21 h => runD (pickD t14 t21 (.bool false)) h fun t22 h =>
  joinW (fun (J2 : AV → AV → List AObj → Prop) =>
  guardW t22 true
  (runD (fieldAddrD T_api_Micro t2 0) h fun t24 h =>
    runD (fitD T_int (loadD h t24)) h fun t25 h =>
    runD (binD T_int .eql t25 (.int .i64 1)) h fun t26 h =>
    joinW (fun (J3 : AV → AV → List AObj → Prop) =>
    guardW t26 false
    (runD (fieldAddrD T_api_Micro t2 2) h fun t28 h =>
      runD (fitD T_int (loadD h t28)) h fun t29 h =>
      runD (binD T_int .eql t29 (.int .i64 0)) h fun t30 h =>
      J3 (.bool false) t30 h)
    (J3 (.bool true) .und h))
    (fun t27 t30 h => runD (pickD t27 (.bool true) t30) h fun t31 h =>
    J2 (.bool true) t31 h))
  (J2 (.bool false) .und h))
  (fun t23 t31 h => runD (pickD t23 t31 (.bool false)) h fun t32 h =>
  K (.ret t32) h))
def micro_kinds.loops : Nat → LInfo
  | _ => ⟨[], [], [], [], []⟩
def micro_kinds.H (c : Ctx) (h : List AObj) (K : AOut → List AObj → Prop) : Prop :=
  runD (makeMapD T_map_int_func_p_micro_doer_api_Micro h.length) h fun t1 h =>
  runH (mapSetH T_map_int_func_p_micro_doer_api_Micro h t1 (.int .i64 1) (.fn (.func 136) [] [])) h fun _ h =>
  runH (mapSetH T_map_int_func_p_micro_doer_api_Micro h t1 (.int .i64 2) (.fn (.func 137) [] [])) h fun _ h =>
  K (.ret t1) h
def micro_doer_store.loops : Nat → LInfo
  | _ => ⟨[], [], [], [], []⟩
def micro_doer_store.H (c : Ctx) (t0 : AV) (t1 : AV) (h : List AObj) (K : AOut → List AObj → Prop) : Prop :=
  boxW T_api_Micro t1 h fun t3 h =>
  runD (nilCheckD t0) h fun t7 h =>
  runD (fieldAddrD T_micro_doer t7 0) h fun t8 h =>
  runD (fitD T_api_Mem (loadD h t8)) h fun t9 h =>
  runD (fieldAddrD T_api_Micro t3 1) h fun t10 h =>
  runD (fitD T_int (loadD h t10)) h fun t11 h =>
  runD (fieldAddrD T_api_Micro t3 2) h fun t12 h =>
  runD (fitD T_int (loadD h t12)) h fun t13 h =>
  callW c.noS (.fn (.func 142) [] []) [t9, t11, t13] h (fun t14 h =>
  runD (extractD t14 0) h fun t15 h =>
  runD (extractD t14 1) h fun t16 h =>
  runD (nilCheckD t0) h fun t17 h =>
  runD (fieldAddrD T_micro_doer t17 0) h fun t18 h =>
  runH (storeH T_api_Mem h t18 t15) h fun _ h =>
  K (.ret (.tup [])) h)
  (fun _ _ => False)
def micro_doer_persist.loops : Nat → LInfo
  | _ => ⟨[], [], [], [], []⟩
def micro_doer_persist.H (c : Ctx) (t0 : AV) (t1 : AV) (h : List AObj) (K : AOut → List AObj → Prop) : Prop :=
  boxW T_api_Micro t1 h fun t3 h =>
  runD (nilCheckD t0) h fun t7 h =>
  runD (fieldAddrD T_micro_doer t7 0) h fun t8 h =>
  runD (fitD T_api_Mem (loadD h t8)) h fun t9 h =>
  runD (fieldAddrD T_api_Micro t3 1) h fun t10 h =>
  runD (fitD T_int (loadD h t10)) h fun t11 h =>
  callW c.noS (.fn (.func 143) [] []) [t9, t11] h (fun t12 h =>
  runD (extractD t12 0) h fun t13 h =>
  runD (extractD t12 1) h fun t14 h =>
  runD (nilCheckD t0) h fun t15 h =>
  runD (fieldAddrD T_micro_doer t15 0) h fun t16 h =>
  runH (storeH T_api_Mem h t16 t13) h fun _ h =>
  runD (nilCheckD t0) h fun t20 h =>
  runD (fieldAddrD T_micro_doer t20 0) h fun t21 h =>
  runD (fitD T_api_Mem (loadD h t21)) h fun t22 h =>
  callW c (.fn (.func 144) [] []) [t22] h (fun t23 h =>
  runD (extractD t23 0) h fun t24 h =>
  runD (extractD t23 1) h fun t25 h =>
  runD (nilCheckD t0) h fun t26 h =>
  runD (fieldAddrD T_micro_doer t26 0) h fun t27 h =>
  runH (storeH T_api_Mem h t27 t24) h fun _ h =>
  K (.ret (.tup [])) h)
  (fun v h => K (.pan v) h))
  (fun _ _ => False)
theorem micro_Run.eq (F : List (FuncId × Contract)) (S : List (FuncId × Con)) (t0 t1 : AV) (h : List AObj) (K : AOut → List AObj → Prop) : funW (ctx F S micro_Run.loops) Try.f63 [t0, t1] h K = micro_Run.H (ctx F S micro_Run.loops) t0 t1 h K := by kernel_rfl
theorem micro_Do.eq (F : List (FuncId × Contract)) (S : List (FuncId × Con)) (t0 t1 : AV) (h : List AObj) (K : AOut → List AObj → Prop) : funW (ctx F S micro_Do.loops) Try.f65 [t0, t1] h K = micro_Do.H (ctx F S micro_Do.loops) t0 t1 h K := by kernel_rfl
theorem micro_Crash.eq (F : List (FuncId × Contract)) (S : List (FuncId × Con)) (t0 t1 t2 t3 : AV) (h : List AObj) (K : AOut → List AObj → Prop) : funW (ctx F S micro_Crash.loops) Try.f67 [t0, t1, t2, t3] h K = micro_Crash.H (ctx F S micro_Crash.loops) t0 t1 t2 t3 h K := by kernel_rfl
theorem micro_Check.eq (F : List (FuncId × Contract)) (S : List (FuncId × Con)) (t0 t1 : AV) (h : List AObj) (K : AOut → List AObj → Prop) : funW (ctx F S micro_Check.loops) Try.f70 [t0, t1] h K = micro_Check.H (ctx F S micro_Check.loops) t0 t1 h K := by kernel_rfl
theorem micro_sound.eq (F : List (FuncId × Contract)) (S : List (FuncId × Con)) (t0 t1 : AV) (h : List AObj) (K : AOut → List AObj → Prop) : funW (ctx F S micro_sound.loops) Try.f104 [t0, t1] h K = micro_sound.H (ctx F S micro_sound.loops) t0 t1 h K := by kernel_rfl
theorem micro_first.eq (F : List (FuncId × Contract)) (S : List (FuncId × Con)) (t0 t1 t2 : AV) (h : List AObj) (K : AOut → List AObj → Prop) : funW (ctx F S micro_first.loops) Try.f105 [t0, t1, t2] h K = micro_first.H (ctx F S micro_first.loops) t0 t1 t2 h K := by kernel_rfl
theorem micro_Check_1.eq (F : List (FuncId × Contract)) (S : List (FuncId × Con)) (t0 t1 : AV) (h : List AObj) (K : AOut → List AObj → Prop) : funW (ctx F S micro_Check_1.loops) Try.f114 [t0, t1] h K = micro_Check_1.H (ctx F S micro_Check_1.loops) t0 t1 h K := by kernel_rfl
theorem micro_may.eq (F : List (FuncId × Contract)) (S : List (FuncId × Con)) (t0 t1 : AV) (h : List AObj) (K : AOut → List AObj → Prop) : funW (ctx F S micro_may.loops) Try.f115 [t0, t1] h K = micro_may.H (ctx F S micro_may.loops) t0 t1 h K := by kernel_rfl
theorem micro_kinds.eq (F : List (FuncId × Contract)) (S : List (FuncId × Con)) (h : List AObj) (K : AOut → List AObj → Prop) : funW (ctx F S micro_kinds.loops) Try.f125 [] h K = micro_kinds.H (ctx F S micro_kinds.loops)  h K := by kernel_rfl
theorem micro_doer_store.eq (F : List (FuncId × Contract)) (S : List (FuncId × Con)) (t0 t1 : AV) (h : List AObj) (K : AOut → List AObj → Prop) : funW (ctx F S micro_doer_store.loops) Try.f136 [t0, t1] h K = micro_doer_store.H (ctx F S micro_doer_store.loops) t0 t1 h K := by kernel_rfl
theorem micro_doer_persist.eq (F : List (FuncId × Contract)) (S : List (FuncId × Con)) (t0 t1 : AV) (h : List AObj) (K : AOut → List AObj → Prop) : funW (ctx F S micro_doer_persist.loops) Try.f137 [t0, t1] h K = micro_doer_persist.H (ctx F S micro_doer_persist.loops) t0 t1 h K := by kernel_rfl
theorem micro_Run.at : Try.prog.funcs[63]? = some Try.f63 := by kernel_rfl
theorem micro_Run.nm : (Try.f63.name == "runtime.NumGoroutine") = false := by kernel_rfl
theorem micro_Run.bd : Try.f63.body.isNone = false := by kernel_rfl
theorem micro_Do.at : Try.prog.funcs[65]? = some Try.f65 := by kernel_rfl
theorem micro_Do.nm : (Try.f65.name == "runtime.NumGoroutine") = false := by kernel_rfl
theorem micro_Do.bd : Try.f65.body.isNone = false := by kernel_rfl
theorem micro_Crash.at : Try.prog.funcs[67]? = some Try.f67 := by kernel_rfl
theorem micro_Crash.nm : (Try.f67.name == "runtime.NumGoroutine") = false := by kernel_rfl
theorem micro_Crash.bd : Try.f67.body.isNone = false := by kernel_rfl
theorem micro_Check.at : Try.prog.funcs[70]? = some Try.f70 := by kernel_rfl
theorem micro_Check.nm : (Try.f70.name == "runtime.NumGoroutine") = false := by kernel_rfl
theorem micro_Check.bd : Try.f70.body.isNone = false := by kernel_rfl
theorem micro_sound.at : Try.prog.funcs[104]? = some Try.f104 := by kernel_rfl
theorem micro_sound.nm : (Try.f104.name == "runtime.NumGoroutine") = false := by kernel_rfl
theorem micro_sound.bd : Try.f104.body.isNone = false := by kernel_rfl
theorem micro_first.at : Try.prog.funcs[105]? = some Try.f105 := by kernel_rfl
theorem micro_first.nm : (Try.f105.name == "runtime.NumGoroutine") = false := by kernel_rfl
theorem micro_first.bd : Try.f105.body.isNone = false := by kernel_rfl
theorem micro_Check_1.at : Try.prog.funcs[114]? = some Try.f114 := by kernel_rfl
theorem micro_Check_1.nm : (Try.f114.name == "runtime.NumGoroutine") = false := by kernel_rfl
theorem micro_Check_1.bd : Try.f114.body.isNone = false := by kernel_rfl
theorem micro_may.at : Try.prog.funcs[115]? = some Try.f115 := by kernel_rfl
theorem micro_may.nm : (Try.f115.name == "runtime.NumGoroutine") = false := by kernel_rfl
theorem micro_may.bd : Try.f115.body.isNone = false := by kernel_rfl
theorem micro_kinds.at : Try.prog.funcs[125]? = some Try.f125 := by kernel_rfl
theorem micro_kinds.nm : (Try.f125.name == "runtime.NumGoroutine") = false := by kernel_rfl
theorem micro_kinds.bd : Try.f125.body.isNone = false := by kernel_rfl
theorem micro_doer_store.at : Try.prog.funcs[136]? = some Try.f136 := by kernel_rfl
theorem micro_doer_store.nm : (Try.f136.name == "runtime.NumGoroutine") = false := by kernel_rfl
theorem micro_doer_store.bd : Try.f136.body.isNone = false := by kernel_rfl
theorem micro_doer_persist.at : Try.prog.funcs[137]? = some Try.f137 := by kernel_rfl
theorem micro_doer_persist.nm : (Try.f137.name == "runtime.NumGoroutine") = false := by kernel_rfl
theorem micro_doer_persist.bd : Try.f137.body.isNone = false := by kernel_rfl
end Lam
namespace Lam
open Go Go.Proofs
set_option linter.unusedVariables false
set_option linter.unnecessarySimpa false
set_option linter.unusedSimpArgs false
def micro_may.C : Contract
  | [.agg [.int .i64 k, .int .i64 a, .int .i64 w], .int .i64 n] => some (false, pD True (.bool (mmay ⟨k, a, w⟩ n)))
  | _ => none
set_option maxRecDepth 20000 in
theorem micro_may.spec : FSpec Try.prog 115 micro_may.C := by
  refine FSpec.of (ctx_ok (F := []) (S := []) (by simp) (by simp) micro_may.loops) micro_may.at micro_may.nm micro_may.bd ?_
  intro vs b S v news e hS
  unfold micro_may.C at e
  split at e
  rotate_left
  · cases e
  cases e
  rw [micro_may.eq]
  unfold micro_may.H
  simp (maxSteps := 4000000) only [go_sem, Nat.reduceEqDiff, Nat.reduceLT, Nat.reduceAdd, Nat.reduceSub, Nat.reduceLeDiff, List.reduceReplicate, Int.reduceToNat]
  refine ⟨by decide, ?_⟩
  exact post_val rfl rfl
def micro_Check_1.K : Con := fun args h K => match args with
  | [a0, a1] => micro_Check_1.H (ctx [(115, micro_may.C)] [] micro_Check_1.loops) a0 a1 h K
  | _ => False
theorem micro_Check_1.spec : SSpec Try.prog 114 micro_Check_1.K := by
  refine SSpec.of (ctx_ok (F := [(115, micro_may.C)]) (S := []) (by simpa using micro_may.spec) (by simp) micro_Check_1.loops) micro_Check_1.at micro_Check_1.nm micro_Check_1.bd ?_
  intro args h K hC
  unfold micro_Check_1.K at hC
  split at hC
  · rw [micro_Check_1.eq]; exact hC
  · exact hC.elim
def slices_IndexFunc_sl_api_Micro_api_Micro.K : Con := fun args h K => match args with
  | [a0, a1] => slices_IndexFunc_sl_api_Micro_api_Micro.H (ctx [] [(114, micro_Check_1.K)] slices_IndexFunc_sl_api_Micro_api_Micro.loops) a0 a1 h K
  | _ => False
theorem slices_IndexFunc_sl_api_Micro_api_Micro.spec : SSpec Try.prog 131 slices_IndexFunc_sl_api_Micro_api_Micro.K := by
  refine SSpec.of (ctx_ok (F := []) (S := [(114, micro_Check_1.K)]) (by simp) (by simpa using micro_Check_1.spec) slices_IndexFunc_sl_api_Micro_api_Micro.loops) slices_IndexFunc_sl_api_Micro_api_Micro.at slices_IndexFunc_sl_api_Micro_api_Micro.nm slices_IndexFunc_sl_api_Micro_api_Micro.bd ?_
  intro args h K hC
  unfold slices_IndexFunc_sl_api_Micro_api_Micro.K at hC
  split at hC
  · rw [slices_IndexFunc_sl_api_Micro_api_Micro.eq]; exact hC
  · exact hC.elim
def slices_ContainsFunc_sl_api_Micro_api_Micro.K : Con := fun args h K => match args with
  | [a0, a1] => slices_ContainsFunc_sl_api_Micro_api_Micro.H (ctx [] [(131, slices_IndexFunc_sl_api_Micro_api_Micro.K)] slices_ContainsFunc_sl_api_Micro_api_Micro.loops) a0 a1 h K
  | _ => False
theorem slices_ContainsFunc_sl_api_Micro_api_Micro.spec : SSpec Try.prog 113 slices_ContainsFunc_sl_api_Micro_api_Micro.K := by
  refine SSpec.of (ctx_ok (F := []) (S := [(131, slices_IndexFunc_sl_api_Micro_api_Micro.K)]) (by simp) (by simpa using slices_IndexFunc_sl_api_Micro_api_Micro.spec) slices_ContainsFunc_sl_api_Micro_api_Micro.loops) slices_ContainsFunc_sl_api_Micro_api_Micro.at slices_ContainsFunc_sl_api_Micro_api_Micro.nm slices_ContainsFunc_sl_api_Micro_api_Micro.bd ?_
  intro args h K hC
  unfold slices_ContainsFunc_sl_api_Micro_api_Micro.K at hC
  split at hC
  · rw [slices_ContainsFunc_sl_api_Micro_api_Micro.eq]; exact hC
  · exact hC.elim

theorem micro_Check_1_vc (x : Mic) (n : Int) (h : List AObj) (K : AOut → List AObj → Prop) (id : Nat) (hid : h[id]? = some (.box (.int .i64 n)))
    (hK : K (.ret (.bool (!mmay x n))) (h ++ [.box (encMic x)])) : micro_Check_1.K [.agg [.int .i64 x.kind, .int .i64 x.at_, .int .i64 x.val], .ptr id []] h K := by
  have hlt : id < h.length := (List.getElem?_eq_some_iff.1 hid).1
  have hid' : ∀ r, (h ++ r)[id]? = some (.box (.int .i64 n)) := fun r => by rw [List.getElem?_append_left hlt]; exact hid
  have hlen : ∀ o r, (h ++ o :: r)[h.length]? = some o := fun o r => by simp
  unfold micro_Check_1.K
  simp only
  unfold micro_Check_1.H
  simp only [go_sem, Nat.reduceEqDiff, Nat.reduceLT, Nat.reduceAdd, Nat.reduceSub, Nat.reduceLeDiff, List.reduceReplicate, Int.reduceToNat, hid', hlen, micro_may.C]
  exact hK

theorem index_vc (l : List Mic) (n : Int) (K : AOut → List AObj → Prop) (x : Bool) (hr : roomy l.length) (h : List AObj) (hh : h = [.box (.int .i64 n)])
    (hK : ∀ r h', (r = -1 ∧ (∀ y ∈ l, mmay y n = true)) ∨ (0 ≤ r ∧ ∃ y ∈ l, mmay y n = false) → K (.ret (.int .i64 r)) h') :
    slices_IndexFunc_sl_api_Micro_api_Micro.K [.sl x (.mics l), .fn (.func 114) [] [.ptr 0 []]] h K := by
  unfold roomy at hr
  unfold slices_IndexFunc_sl_api_Micro_api_Micro.K
  simp only
  unfold slices_IndexFunc_sl_api_Micro_api_Micro.H
  subst hh
  simp only [go_sem, Nat.reduceEqDiff, Nat.reduceLT, Nat.reduceAdd, Nat.reduceSub, Nat.reduceLeDiff, List.reduceReplicate, Int.reduceToNat, joinW_eq]
  unfold slices_IndexFunc_sl_api_Micro_api_Micro.L1
  refine ⟨fun m lv h' => ∃ k : Nat, k + m = l.length ∧ lv = [.int .i64 k] ∧ h' = [.box (.int .i64 n)] ∧ ∀ y ∈ l.take k, mmay y n = true, ⟨l.length, 0, by omega, rfl, rfl, by simp⟩, ?_⟩
  rintro m h' t8 ⟨k, hk, hlv, rfl, hall⟩
  simp only [List.cons.injEq, and_true] at hlv
  subst hlv
  simp only [go_sem, Nat.reduceEqDiff, Nat.reduceLT, Nat.reduceAdd, Nat.reduceSub, Nat.reduceLeDiff, List.reduceReplicate, Int.reduceToNat]
  refine ⟨fun hlt => ⟨by omega, ?_⟩, fun hge => ?_⟩
  · have hkl : k < l.length := by omega
    apply micro_Check_1_vc _ n _ _ 0 rfl
    simp only [go_sem, Nat.reduceEqDiff, Nat.reduceLT, Nat.reduceAdd, Nat.reduceSub, Nat.reduceLeDiff, List.reduceReplicate, Int.reduceToNat]
    refine ⟨fun h => hK _ _ (.inr ⟨by omega, _, getD_mem l k _ hkl, by simpa using h⟩), fun h => ?_⟩
    refine ⟨m - 1, by omega, k + 1, by omega, by rw [w64 (by omega) (by omega)]; rfl, ?_⟩
    intro y hy
    rw [take_next l k ⟨0, 0, 0⟩ hkl] at hy
    rcases List.mem_append.1 hy with hy | hy
    · exact hall y hy
    · rw [List.mem_singleton.1 hy]; simpa using h
  · have : k = l.length := by omega
    subst this
    rw [List.take_length] at hall
    exact hK _ _ (.inl ⟨rfl, hall⟩)

theorem contains_vc (l : List Mic) (n : Int) (K : AOut → List AObj → Prop) (x : Bool) (hr : roomy l.length) (h : List AObj) (hh : h = [.box (.int .i64 n)])
    (hK : ∀ h', K (.ret (.bool (!l.all (mmay · n)))) h') :
    slices_ContainsFunc_sl_api_Micro_api_Micro.K [.sl x (.mics l), .fn (.func 114) [] [.ptr 0 []]] h K := by
  unfold slices_ContainsFunc_sl_api_Micro_api_Micro.K
  simp only
  unfold slices_ContainsFunc_sl_api_Micro_api_Micro.H
  subst hh
  simp only [go_sem, Nat.reduceEqDiff, Nat.reduceLT, Nat.reduceAdd, Nat.reduceSub, Nat.reduceLeDiff, List.reduceReplicate, Int.reduceToNat]
  apply index_vc l n _ x hr _ rfl
  intro r h' hcase
  simp only [go_sem, Nat.reduceEqDiff, Nat.reduceLT, Nat.reduceAdd, Nat.reduceSub, Nat.reduceLeDiff, List.reduceReplicate, Int.reduceToNat]
  have : decide (0 ≤ r) = !l.all (mmay · n) := by
    rcases hcase with ⟨rfl, h⟩ | ⟨h0, y, hy, h⟩
    · have : l.all (mmay · n) = true := List.all_eq_true.2 h
      rw [this]; rfl
    · have : l.all (mmay · n) = false := by
        rw [List.all_eq_false]; exact ⟨y, hy, by simp [h]⟩
      rw [this]; simpa using h0
  rw [this]; exact hK h'

def micro_Check.C : Contract
  | [.sl _ (.mics l), .int .i64 n] => some (false, pD (roomy l.length) (.bool (sizedB n && l.all (mmay · n))))
  | _ => none
set_option maxRecDepth 20000 in
theorem micro_Check.spec : FSpec Try.prog 70 micro_Check.C := by
  refine FSpec.of (ctx_ok (F := []) (S := [(113, slices_ContainsFunc_sl_api_Micro_api_Micro.K)]) (by simp) (by simpa using slices_ContainsFunc_sl_api_Micro_api_Micro.spec) micro_Check.loops) micro_Check.at micro_Check.nm micro_Check.bd ?_
  intro vs b S v news e hS
  unfold micro_Check.C at e
  split at e
  rotate_left
  · cases e
  cases e
  rw [micro_Check.eq]
  unfold micro_Check.H
  simp (maxSteps := 4000000) only [go_sem, Nat.reduceEqDiff, Nat.reduceLT, Nat.reduceAdd, Nat.reduceSub, Nat.reduceLeDiff, List.reduceReplicate, Int.reduceToNat]
  refine ⟨by simp, ?_⟩
  rw [joinW_eq]
  simp only [guardW_bool]
  refine ⟨fun hs => ?_, fun hs => ?_⟩
  · apply contains_vc _ _ _ _ hS _ rfl
    intro h'
    simp only [go_sem, Nat.reduceEqDiff, Nat.reduceLT, Nat.reduceAdd, Nat.reduceSub, Nat.reduceLeDiff, List.reduceReplicate, Int.reduceToNat, Bool.not_not]
    exact post_val (by rw [show sizedB _ = true from hs, Bool.true_and]; rfl) rfl
  · simp only [go_sem, Nat.reduceEqDiff, Nat.reduceLT, Nat.reduceAdd, Nat.reduceSub, Nat.reduceLeDiff, List.reduceReplicate, Int.reduceToNat]
    exact post_val (by rw [show sizedB _ = false from hs, Bool.false_and]; rfl) rfl


def micro_doer_store.K : Con := fun args h K => match args with
  | [a0, a1] => micro_doer_store.H (ctx [(142, pmem_Put.C)] [] micro_doer_store.loops) a0 a1 h K
  | _ => False
theorem micro_doer_store.spec : SSpec Try.prog 136 micro_doer_store.K := by
  refine SSpec.of (ctx_ok (F := [(142, pmem_Put.C)]) (S := []) (by simpa using pmem_Put.spec) (by simp) micro_doer_store.loops) micro_doer_store.at micro_doer_store.nm micro_doer_store.bd ?_
  intro args h K hC
  unfold micro_doer_store.K at hC
  split at hC
  · rw [micro_doer_store.eq]; exact hC
  · exact hC.elim
def micro_doer_persist.K : Con := fun args h K => match args with
  | [a0, a1] => micro_doer_persist.H (ctx [(143, pmem_Flush.C), (144, pmem_Fence.C)] [] micro_doer_persist.loops) a0 a1 h K
  | _ => False
theorem micro_doer_persist.spec : SSpec Try.prog 137 micro_doer_persist.K := by
  refine SSpec.of (ctx_ok (F := [(143, pmem_Flush.C), (144, pmem_Fence.C)]) (S := []) (by simpa using ⟨pmem_Flush.spec, pmem_Fence.spec⟩) (by simp) micro_doer_persist.loops) micro_doer_persist.at micro_doer_persist.nm micro_doer_persist.bd ?_
  intro args h K hC
  unfold micro_doer_persist.K at hC
  split at hC
  · rw [micro_doer_persist.eq]; exact hC
  · exact hC.elim
def micro_kinds.K : Con := fun args h K => match args with
  | [] => micro_kinds.H (ctx [] [] micro_kinds.loops)  h K
  | _ => False
theorem micro_kinds.spec : SSpec Try.prog 125 micro_kinds.K := by
  refine SSpec.of (ctx_ok (F := []) (S := []) (by simp) (by simp) micro_kinds.loops) micro_kinds.at micro_kinds.nm micro_kinds.bd ?_
  intro args h K hC
  unfold micro_kinds.K at hC
  split at hC
  · rw [micro_kinds.eq]; exact hC
  · exact hC.elim
def micro_first.C : Contract
  | [.agg [.sl false (.ints .i64 vol), .sl false (.ints .i64 per), .sl false (.pends pend)], .sl _ (.mics l), .int .i64 n] => some (false, pD (Mm.ok ⟨vol, per, pend⟩ ∧ (∀ x ∈ l, MayN x vol.length) ∧ pend.length + l.length ≤ 1000000 ∧ 0 ≤ n ∧ n ≤ (l.length : Int)) (runS ⟨vol, per, pend⟩ (l.take n.toNat)).V)
  | _ => none
set_option maxRecDepth 20000 in
theorem micro_first.spec : FSpec Try.prog 105 micro_first.C := by
  refine FSpec.of (ctx_ok (F := []) (S := [(125, micro_kinds.K), (136, micro_doer_store.K), (137, micro_doer_persist.K)]) (by simp) (by simpa using ⟨micro_kinds.spec, micro_doer_store.spec, micro_doer_persist.spec⟩) micro_first.loops) micro_first.at micro_first.nm micro_first.bd ?_
  intro vs b S v news e hS
  unfold micro_first.C at e
  split at e
  rotate_left
  · cases e
  cases e
  rw [micro_first.eq]
  unfold micro_first.H
  simp (maxSteps := 4000000) only [go_sem, Nat.reduceEqDiff, Nat.reduceLT, Nat.reduceAdd, Nat.reduceSub, Nat.reduceLeDiff, List.reduceReplicate, Int.reduceToNat, micro_kinds.K, micro_kinds.H]
  rename_i vol per pend _ l n
  obtain ⟨ok, hl, hsz, hn0, hn1⟩ := hS
  rw [joinW_eq]
  unfold micro_first.L1
  refine loop1 (σ := Nat) (fun k => .int .i64 k) (fun k => [.box (memV vol per pend), .box (memV [] [] []), .box (.agg [(runS ⟨vol, per, pend⟩ (l.take k)).V]), .map (.ifn fun j => if j = 2 then some 137 else if j = 1 then some 136 else none)]) (fun k => n.toNat - k) (fun k => k ≤ n.toNat) 0 rfl rfl (Nat.zero_le _) ?_
  intro I back k hk
  have okk := runS_ok (l.take k) ok fun x hx => hl x ((List.take_sublist _ _).subset hx)
  have lenk := runS_len (l.take k) ⟨vol, per, pend⟩
  have pendk := runS_pend_le (l.take k) ⟨vol, per, pend⟩
  rw [List.length_take] at pendk
  simp only [] at lenk pendk
  simp only [go_sem, Nat.reduceEqDiff, Nat.reduceLT, Nat.reduceAdd, Nat.reduceSub, Nat.reduceLeDiff, List.reduceReplicate, Int.reduceToNat]
  refine ⟨fun hlt => ?_, fun hge => ?_⟩
  · have hkl : k < l.length := by omega
    have hnx : runS ⟨vol, per, pend⟩ (l.take (k + 1)) = stepM (runS ⟨vol, per, pend⟩ (l.take k)) (l.getD k ⟨0, 0, 0⟩) := by
      rw [take_next l k ⟨0, 0, 0⟩ hkl, runS_append]; rfl
    have hx := hl _ (getD_mem l k ⟨0, 0, 0⟩ hkl)
    generalize l.getD k ⟨0, 0, 0⟩ = x at *
    generalize runS ⟨vol, per, pend⟩ (l.take k) = m at *
    have hsm : smallM m.vol m.per m.pend := OkM.small okk (by omega)
    refine ⟨by omega, ?_⟩
    rcases hx with ⟨hkd, h0, h1⟩ | ⟨hkd, h0, h1, _⟩
    · have hp : placeB m.vol m.per m.pend x.at_ = true := place_iff.2 ⟨⟨h0, by omega⟩, okk⟩
      have hst : stepM m x = store m x.at_ x.val := by unfold stepM; rw [if_pos hkd]
      have e : (if x.kind = 2 then some 137 else if x.kind = 1 then some 136 else none : Option Nat) = some 136 := by rw [if_neg (by omega), if_pos hkd]
      simp only [e, micro_doer_store.K, micro_doer_store.H, pmem_Put.C, putM_ok hp, go_sem, Nat.reduceEqDiff, Nat.reduceLT, Nat.reduceAdd, Nat.reduceSub, Nat.reduceLeDiff, List.reduceReplicate, Int.reduceToNat]
      refine ⟨by omega, ⟨hsm, by unfold roomy; omega⟩, back (k + 1) (by omega) (by rw [wnext (by omega)]) ?_ (by omega)⟩
      rw [hnx, hst]; rfl
    · have hp : placeB m.vol m.per m.pend (firstI m.vol x.at_) = true := (OkM.first okk h0 (by omega)).2
      have hst : stepM m x = persist m x.at_ := by unfold stepM; rw [if_neg (by omega)]
      have e : (if x.kind = 2 then some 137 else if x.kind = 1 then some 136 else none : Option Nat) = some 137 := by rw [if_pos hkd]
      have okf := okk.flush x.at_
      simp only [e, micro_doer_persist.K, micro_doer_persist.H, pmem_Flush.C, flushM_ok hp, fenceM_ok, check_iff.2 okf, pmem_Fence.C, go_sem, Nat.reduceEqDiff, Nat.reduceLT, Nat.reduceAdd, Nat.reduceSub, Nat.reduceLeDiff, List.reduceReplicate, Int.reduceToNat]
      refine ⟨by omega, hsm, OkM.small okf (by rw [flushP_len]; omega), back (k + 1) (by omega) (by rw [wnext (by omega)]) ?_ (by omega)⟩
      rw [hnx, hst]; rfl
  · have : k = n.toNat := by omega
    subst this
    refine post_val ?_ rfl
    simp only [go_sem, Nat.reduceEqDiff, Nat.reduceLT, Nat.reduceAdd, Nat.reduceSub, Nat.reduceLeDiff, List.reduceReplicate, Int.reduceToNat]

def soundB (m : Mm) (l : List Mic) : Bool := m.okB && stepsB l m.vol.length
def micro_sound.C : Contract
  | [.agg [.sl false (.ints .i64 vol), .sl false (.ints .i64 per), .sl false (.pends pend)], .sl _ (.mics l)] => some (false, pD (smallM vol per pend ∧ roomy l.length) (.bool (soundB ⟨vol, per, pend⟩ l)))
  | _ => none
set_option maxRecDepth 20000 in
theorem micro_sound.spec : FSpec Try.prog 104 micro_sound.C := by
  refine FSpec.of (ctx_ok (F := [(124, pmem_Check.C), (70, micro_Check.C)]) (S := []) (by simpa using ⟨pmem_Check.spec, micro_Check.spec⟩) (by simp) micro_sound.loops) micro_sound.at micro_sound.nm micro_sound.bd ?_
  intro vs b S v news e hS
  unfold micro_sound.C at e
  split at e
  rotate_left
  · cases e
  cases e
  rw [micro_sound.eq]
  unfold micro_sound.H
  simp (maxSteps := 4000000) only [go_sem, Nat.reduceEqDiff, Nat.reduceLT, Nat.reduceAdd, Nat.reduceSub, Nat.reduceLeDiff, List.reduceReplicate, Int.reduceToNat, pmem_Check.C, micro_Check.C]
  exact ⟨hS.1, fun _ => hS.2, post_val rfl rfl⟩
/-- steps that may be, on a memory that may be -/
theorem sound_iff {m : Mm} {l : List Mic} : soundB m l = true ↔ m.ok ∧ ∀ x ∈ l, MayN x m.vol.length := by
  unfold soundB stepsB
  rw [Bool.and_eq_true, Bool.and_eq_true, Mm.ok_iff, List.all_eq_true]
  constructor
  · rintro ⟨h1, _, h2⟩
    exact ⟨h1, fun x hx => (mmay_iff h1.sz).1 (h2 x hx)⟩
  · rintro ⟨h1, h2⟩
    have hmd := h1.md
    have hsz := h1.sz
    refine ⟨h1, ?_, fun x hx => (mmay_iff h1.sz).2 (h2 x hx)⟩
    unfold sizedB
    simp only [Bool.and_eq_true, decide_eq_true_eq]
    refine ⟨⟨by omega, by omega⟩, ?_⟩
    rw [Int.tmod_eq_emod_of_nonneg (by omega)]; omega
def runV (m : Mm) (l : List Mic) : AV := if soundB m l = true then .tup [(runS m l).V, .int .i64 0] else .tup [m.V, .int .i64 40]
theorem runV_ok {m : Mm} {l : List Mic} (h : soundB m l = true) : runV m l = .tup [(runS m l).V, .int .i64 0] := by unfold runV; simp only [h, if_true]
theorem runV_no {m : Mm} {l : List Mic} (h : soundB m l = false) : runV m l = .tup [m.V, .int .i64 40] := by unfold runV; rw [h]; rfl
theorem runV_ex (m : Mm) (l : List Mic) : ∃ (A : Mm) (e : Int), runV m l = .tup [A.V, .int .i64 e] ∧ A.vol.length = m.vol.length ∧ A.per.length = m.per.length ∧ A.pend.length ≤ m.pend.length + l.length := by
  cases h : soundB m l with
  | true => exact ⟨_, _, runV_ok h, runS_len _ _, runS_per _ _, runS_pend_le _ _⟩
  | false => exact ⟨_, _, runV_no h, rfl, rfl, Nat.le_add_right _ _⟩
def micro_Run.C : Contract
  | [.agg [.sl false (.ints .i64 vol), .sl false (.ints .i64 per), .sl false (.pends pend)], .sl _ (.mics l)] => some (false, pD (smallM vol per pend ∧ pend.length + l.length ≤ 1000000) (runV ⟨vol, per, pend⟩ l))
  | _ => none
set_option maxRecDepth 20000 in
theorem micro_Run.spec : FSpec Try.prog 63 micro_Run.C := by
  refine FSpec.of (ctx_ok (F := [(104, micro_sound.C), (105, micro_first.C)]) (S := []) (by simpa using ⟨micro_sound.spec, micro_first.spec⟩) (by simp) micro_Run.loops) micro_Run.at micro_Run.nm micro_Run.bd ?_
  intro vs b S v news e hS
  unfold micro_Run.C at e
  split at e
  rotate_left
  · cases e
  cases e
  rw [micro_Run.eq]
  unfold micro_Run.H
  simp (maxSteps := 4000000) only [go_sem, Nat.reduceEqDiff, Nat.reduceLT, Nat.reduceAdd, Nat.reduceSub, Nat.reduceLeDiff, List.reduceReplicate, Int.reduceToNat, micro_sound.C, micro_first.C]
  rename_i vol per pend _ l
  obtain ⟨hs, hz⟩ := hS
  refine ⟨⟨hs, by unfold roomy; omega⟩, fun h => ?_, fun h => ?_⟩
  · unfold runV; rw [h]; exact post_val rfl rfl
  · obtain ⟨ok, hl⟩ := sound_iff.1 h
    refine ⟨⟨ok, hl, hz, by omega, by omega⟩, ?_⟩
    unfold runV; simp only [h, if_true]
    refine post_val ?_ rfl
    simp only [go_sem, Nat.reduceEqDiff, Nat.reduceLT, Nat.reduceAdd, Nat.reduceSub, Nat.reduceLeDiff, List.reduceReplicate, Int.reduceToNat, Int.toNat_natCast, List.take_length]
def micro_Do.C : Contract
  | [.agg [.sl false (.ints .i64 vol), .sl false (.ints .i64 per), .sl false (.pends pend)], .agg [.int .i64 a, .int .i64 b, .int .i64 c]] => some (false, pD (smallM vol per pend ∧ pend.length + 1 ≤ 1000000) (runV ⟨vol, per, pend⟩ [⟨a, b, c⟩]))
  | _ => none
set_option maxRecDepth 20000 in
theorem micro_Do.spec : FSpec Try.prog 65 micro_Do.C := by
  refine FSpec.of (ctx_ok (F := [(63, micro_Run.C)]) (S := []) (by simpa using micro_Run.spec) (by simp) micro_Do.loops) micro_Do.at micro_Do.nm micro_Do.bd ?_
  intro vs b S v news e hS
  unfold micro_Do.C at e
  split at e
  rotate_left
  · cases e
  cases e
  rw [micro_Do.eq]
  unfold micro_Do.H
  simp (maxSteps := 4000000) only [go_sem, Nat.reduceEqDiff, Nat.reduceLT, Nat.reduceAdd, Nat.reduceSub, Nat.reduceLeDiff, List.reduceReplicate, Int.reduceToNat, micro_Run.C]
  rename_i vol per pend a b c
  unfold runV
  cases h : soundB ⟨vol, per, pend⟩ [⟨a, b, c⟩]
  · simp only [joinW_eq, guard_tt, guard_tf, guard_ft, guard_ff, Int.reduceEq, Int.reduceLT, Int.reduceLE, decide_false, decide_true, Bool.not_false, Bool.not_true, Bool.not_not, not_true_eq_false, not_false_eq_true, true_implies, false_implies, implies_true, and_true, true_and, reduceCtorEq, Bool.and_self, Bool.or_self, Bool.and_true, Bool.true_and, Bool.false_eq_true, if_true, if_false, go_sem, Nat.reduceEqDiff, Nat.reduceLT, Nat.reduceAdd, Nat.reduceSub, Nat.reduceLeDiff, List.reduceReplicate, Int.reduceToNat]
    exact ⟨⟨hS.1, by omega⟩, post_val rfl rfl⟩
  · simp only [joinW_eq, guard_tt, guard_tf, guard_ft, guard_ff, Int.reduceEq, Int.reduceLT, Int.reduceLE, decide_false, decide_true, Bool.not_false, Bool.not_true, Bool.not_not, not_true_eq_false, not_false_eq_true, true_implies, false_implies, implies_true, and_true, true_and, reduceCtorEq, Bool.and_self, Bool.or_self, Bool.and_true, Bool.true_and, Bool.false_eq_true, if_true, if_false, go_sem, Nat.reduceEqDiff, Nat.reduceLT, Nat.reduceAdd, Nat.reduceSub, Nat.reduceLeDiff, List.reduceReplicate, Int.reduceToNat]
    exact ⟨⟨hS.1, by omega⟩, post_val rfl rfl⟩
def cutI (n : Int) (len : Nat) : Int := if (if (len : Int) < n then (len : Int) else n) > 0 then (if (len : Int) < n then (len : Int) else n) else 0
theorem cutI_range (n : Int) (len : Nat) : 0 ≤ cutI n len ∧ cutI n len ≤ (len : Int) := by unfold cutI; split <;> (try split) <;> omega
theorem cutI_nat {n len : Nat} (h : n ≤ len) : (cutI n len).toNat = n := by unfold cutI; split <;> (try split) <;> omega
def mcrashV (m : Mm) (l : List Mic) (n : Int) (keep : List Int) : AV := if soundB m l = true then .tup [.sl false (.ints .i64 (crashW keep (runS m (l.take (cutI n l.length).toNat)).per (runS m (l.take (cutI n l.length).toNat)).pend)), .int .i64 0] else .tup [.sl false (.ints .i64 []), .int .i64 40]
theorem mcrash_ok {m : Mm} {l : List Mic} {n : Int} {keep : List Int} (h : soundB m l = true) : mcrashV m l n keep = .tup [.sl false (.ints .i64 (crashW keep (runS m (l.take (cutI n l.length).toNat)).per (runS m (l.take (cutI n l.length).toNat)).pend)), .int .i64 0] := by unfold mcrashV; simp only [h, if_true]
theorem mcrash_no {m : Mm} {l : List Mic} {n : Int} {keep : List Int} (h : soundB m l = false) : mcrashV m l n keep = .tup [.sl false (.ints .i64 []), .int .i64 40] := by unfold mcrashV; rw [h]; rfl
theorem mcrash_ex (m : Mm) (l : List Mic) (n : Int) (keep : List Int) : ∃ (w : List Int) (e : Int), mcrashV m l n keep = .tup [.sl false (.ints .i64 w), .int .i64 e] ∧ w.length ≤ m.per.length := by
  cases h : soundB m l with
  | true => exact ⟨_, _, mcrash_ok h, by rw [crashW_len, runS_per]; exact Nat.le_refl _⟩
  | false => exact ⟨_, _, mcrash_no h, Nat.zero_le _⟩
def micro_Crash.C : Contract
  | [.agg [.sl false (.ints .i64 vol), .sl false (.ints .i64 per), .sl false (.pends pend)], .sl _ (.mics l), .int .i64 n, .sl _ (.ints .i64 keep)] => some (false, pD (smallM vol per pend ∧ pend.length + l.length ≤ 1000000 ∧ roomy keep.length ∧ i64s keep) (mcrashV ⟨vol, per, pend⟩ l n keep))
  | _ => none
set_option maxRecDepth 20000 in
theorem micro_Crash.spec : FSpec Try.prog 67 micro_Crash.C := by
  refine FSpec.of (ctx_ok (F := [(104, micro_sound.C), (105, micro_first.C), (111, pmem_Crash.C)]) (S := []) (by simpa using ⟨micro_sound.spec, micro_first.spec, pmem_Crash.spec⟩) (by simp) micro_Crash.loops) micro_Crash.at micro_Crash.nm micro_Crash.bd ?_
  intro vs b S v news e hS
  unfold micro_Crash.C at e
  split at e
  rotate_left
  · cases e
  cases e
  rw [micro_Crash.eq]
  unfold micro_Crash.H
  simp (maxSteps := 4000000) only [go_sem, Nat.reduceEqDiff, Nat.reduceLT, Nat.reduceAdd, Nat.reduceSub, Nat.reduceLeDiff, List.reduceReplicate, Int.reduceToNat, micro_sound.C, micro_first.C, pmem_Crash.C]
  rename_i vol per pend _ l n _ keep
  obtain ⟨hs, hz, hk1, hk2⟩ := hS
  have hfold : (if (if (l.length : Int) < n then (l.length : Int) else n) > 0 then (if (l.length : Int) < n then (l.length : Int) else n) else 0) = cutI n l.length := rfl
  rw [hfold]
  have hc := cutI_range n l.length
  refine ⟨⟨hs, by unfold roomy; omega⟩, fun h => ?_, fun h => ?_⟩
  · unfold mcrashV; rw [h]; exact post_val rfl rfl
  · obtain ⟨ok, hl⟩ := sound_iff.1 h
    unfold mcrashV; simp only [h, if_true]
    have okk := runS_ok (l.take (cutI n l.length).toNat) ok fun x hx => hl x ((List.take_sublist _ _).subset hx)
    have pendk := runS_pend_le (l.take (cutI n l.length).toNat) ⟨vol, per, pend⟩
    rw [List.length_take] at pendk
    simp only [] at pendk
    generalize runS ⟨vol, per, pend⟩ (l.take (cutI n l.length).toNat) = m at *
    have hsm : smallM m.vol m.per m.pend := OkM.small okk (by omega)
    have hck : checkB m.vol m.per m.pend = true := check_iff.2 okk
    simp only [hck, crashM_ok, go_sem, Nat.reduceEqDiff, Nat.reduceLT, Nat.reduceAdd, Nat.reduceSub, Nat.reduceLeDiff, List.reduceReplicate, Int.reduceToNat]
    exact ⟨⟨ok, hl, hz, hc⟩, ⟨hsm, hk1, hk2⟩, post_val rfl rfl⟩
end Lam
namespace Lam
open Go Go.Proofs
set_option linter.unusedVariables false
def super_Words.loops : Nat → LInfo
  | _ => ⟨[], [], [], [], []⟩
def super_Words.H (c : Ctx) (t0 : AV) (t1 : AV) (h : List AObj) (K : AOut → List AObj → Prop) : Prop :=
  callW c (.fn (.func 72) [] []) [t0, t1] h (fun t10 h =>
  allocW T_super_head h fun t6 h =>
  runH (storeH T_super_head h t6 t10) h fun _ h =>
  runD (fitD T_super_head (loadD h t6)) h fun t11 h =>
  callW c (.fn (.func 73) [] []) [t11] h (fun t12 h =>
  runD (unD .not t12) h fun t13 h =>
  condW t13
  (K (.ret (.tup [(.sl true (.ints .i64 [])), (.int .i64 1)])) h)
  (runD (makeSliceD T_sl_int (.int .i64 16) (.int .i64 16) h.length) h fun t14 h =>
  runD (fieldAddrD T_super_head t6 0) h fun t16 h =>
  runD (fitD T_int (loadD h t16)) h fun t17 h =>
  runD (fieldAddrD T_super_head t6 1) h fun t18 h =>
  runD (fitD T_int (loadD h t18)) h fun t19 h =>
  runD (fieldAddrD T_super_head t6 2) h fun t20 h =>
  runD (fitD T_int (loadD h t20)) h fun t21 h =>
  runD (fieldAddrD T_super_head t6 3) h fun t22 h =>
  runD (fitD T_int (loadD h t22)) h fun t23 h =>
  runD (buildSliceD T_sl_int 4 [(0, t17), (1, t19), (2, t21), (3, t23)] h.length) h fun t24 h =>
  runM (copyH T_sl_int h t14 t24) h fun t25 h =>
  K (.ret (.tup [t14, (.int .i64 0)])) h))
  (fun v h => K (.pan v) h))
  (fun v h => K (.pan v) h)
def super_Read.loops : Nat → LInfo
  | 6 => ⟨[47], [false], [5, 45, 46], [], []⟩
  | _ => ⟨[], [], [], [], []⟩
def super_Read.L1 (c : Ctx) (J1 : List AObj → Prop) (J4 : AV → List AObj → Prop) (K : AOut → List AObj → Prop) (lv : List AV) (h0 : List AObj) (n0 : Nat) (c5 : AV) (c45 : AV) (c46 : AV) : Prop :=
  ∃ I : Nat → List AV → List AObj → Prop, (∃ n, I n lv h0) ∧ ∀ n h, ∀ t47, I n [t47] h →
    runD (binD T_int .lss t47 c46) h fun t48 h =>
    condW t48
    (runD (indexAddrD T_sl_int h c45 t47) h fun t49 h =>
    runD (fitD T_int (loadD h t49)) h fun t50 h =>
    runD (binD T_int .neq t50 (.int .i64 0)) h fun t52 h =>
    condW t52
    (J1 h)
    (runD (binD T_int .add t47 (.int .i64 1)) h fun t53 h =>
    (∃ m, m < n ∧ I m (AV.norms n0 h [t53]) (normH n0 h)) ∧ AV.norms n0 h [c5, c45, c46] = [c5, c45, c46]))
    (J4 c5 h)
def super_Read.H (c : Ctx) (t0 : AV) (h : List AObj) (K : AOut → List AObj → Prop) : Prop :=
  joinW (fun (J1 : List AObj → Prop) =>
  allocW T_super_head h fun t5 h =>
  runD (lenD T_sl_int h t0) h fun t9 h =>
  runD (binD T_int .lss t9 (.int .i64 32)) h fun t10 h =>
  condW t10
  (J1 h)
  (runD (indexAddrD T_sl_int h t0 (.int .i64 0)) h fun t12 h =>
  runD (fitD T_int (loadD h t12)) h fun t13 h =>
  runD (indexAddrD T_sl_int h t0 (.int .i64 1)) h fun t15 h =>
  runD (fitD T_int (loadD h t15)) h fun t16 h =>
  runD (indexAddrD T_sl_int h t0 (.int .i64 2)) h fun t18 h =>
  runD (fitD T_int (loadD h t18)) h fun t19 h =>
  runD (indexAddrD T_sl_int h t0 (.int .i64 3)) h fun t21 h =>
  runD (fitD T_int (loadD h t21)) h fun t22 h =>
  runD (buildD T_super_head [(0, t13), (1, t16), (2, t19), (3, t22)]) h fun t23 h =>
  runH (storeH T_super_head h t5 t23) h fun _ h =>
  runD (fitD T_super_head (loadD h t5)) h fun t24 h =>
  runD (fieldAddrD T_super_head t5 1) h fun t25 h =>
  runD (fitD T_int (loadD h t25)) h fun t26 h =>
  runD (fieldAddrD T_super_head t5 3) h fun t27 h =>
  runD (fitD T_int (loadD h t27)) h fun t28 h =>
  callW c.noS (.fn (.func 72) [] []) [t26, t28] h (fun t29 h =>
  runD (binD T_super_head .neq t24 t29) h fun t30 h =>
  joinW (fun (J2 : AV → AV → List AObj → Prop) =>
  guardW t30 false
  (runD (fitD T_super_head (loadD h t5)) h fun t32 h =>
    callW c.noS (.fn (.func 73) [] []) [t32] h (fun t33 h =>
    runD (unD .not t33) h fun t34 h =>
    J2 (.bool false) t34 h)
    (fun _ _ => False))
  (J2 (.bool true) .und h))
  (fun t31 t34 h => runD (pickD t31 (.bool true) t34) h fun t35 h =>
  joinW (fun (J3 : AV → AV → List AObj → Prop) =>
  guardW t35 false
  (runD (fieldAddrD T_super_head t5 1) h fun t37 h =>
    runD (fitD T_int (loadD h t37)) h fun t38 h =>
    runD (lenD T_sl_int h t0) h fun t40 h =>
    runD (binD T_int .quo t40 (.int .i64 16)) h fun t41 h =>
    runD (binD T_int .neq t38 t41) h fun t42 h =>
    J3 (.bool false) t42 h)
  (J3 (.bool true) .und h))
  (fun t36 t42 h => runD (pickD t36 (.bool true) t42) h fun t43 h =>
  condW t43
  (J1 h)
  (runD (sliceD T_sl_int h t0 (some (.int .i64 4)) (some (.int .i64 16)) none) h fun t45 h =>
  runD (lenD T_sl_int h t45) h fun t46 h =>
  joinW (fun (J4 : AV → List AObj → Prop) =>
  promV [false] [(.int .i64 0)] h fun lv h => super_Read.L1 c J1 J4 K (AV.norms h.length h lv) (normH h.length h) h.length (AV.norm h.length h t5) (AV.norm h.length h t45) (AV.norm h.length h t46))
  (fun t5 h => runD (fieldAddrD T_super_head t5 1) h fun t54 h =>
  runD (fitD T_int (loadD h t54)) h fun t55 h =>
  runD (fieldAddrD T_super_head t5 3) h fun t56 h =>
  runD (fitD T_int (loadD h t56)) h fun t57 h =>
  K (.ret (.tup [t55, t57, (.int .i64 0)])) h)))))
  (fun _ _ => False)))
  (fun h => K (.ret (.tup [(.int .i64 0), (.int .i64 0), (.int .i64 80)])) h)
def super_Root.loops : Nat → LInfo
  | 2 => ⟨[], [], [], [(6, none), (3, some [16, 19])], []⟩
  | _ => ⟨[], [], [], [], []⟩
def super_Root.H (c : Ctx) (t0 : AV) (t1 : AV) (h : List AObj) (K : AOut → List AObj → Prop) : Prop :=
  runD (buildD T_api_Micro [(0, (.int .i64 1)), (1, (.int .i64 3)), (2, t1)]) h fun t8 h =>
  runD (buildD T_api_Micro [(0, (.int .i64 2))]) h fun t9 h =>
  runD (buildSliceD T_sl_api_Micro 2 [(0, t8), (1, t9)] h.length) h fun t10 h =>
  callW c (.fn (.func 72) [] []) [t0, t1] h (fun t13 h =>
  callW c (.fn (.func 73) [] []) [t13] h (fun t14 h =>
  runD (unD .not t14) h fun t15 h =>
  joinW (fun (J1 : AV → AV → List AObj → Prop) =>
  guardW t15 false
  (callW c (.fn (.func 70) [] []) [t10, (.int .i64 16)] h (fun t18 h =>
    runD (unD .not t18) h fun t19 h =>
    J1 (.bool false) t19 h)
    (fun v h => K (.pan v) h))
  (J1 (.bool true) .und h))
  (fun t16 t19 h => runD (pickD t16 (.bool true) t19) h fun t20 h =>
  condW t20
  (K (.ret (.tup [(.sl true (.mics [])), (.int .i64 1)])) h)
  (K (.ret (.tup [t10, (.int .i64 0)])) h)))
  (fun v h => K (.pan v) h))
  (fun v h => K (.pan v) h)
def super_of.loops : Nat → LInfo
  | _ => ⟨[], [], [], [], []⟩
def super_of.H (c : Ctx) (t0 : AV) (t1 : AV) (h : List AObj) (K : AOut → List AObj → Prop) : Prop :=
  allocW T_super_head h fun t4 h =>
  runD (buildSliceD T_sl_int 2 [(0, (.int .i64 7015)), (1, t0)] h.length) h fun t7 h =>
  callW c (.fn (.func 116) [] []) [t7] h (fun t8 h =>
  runD (buildD T_super_head [(0, (.int .i64 7015)), (1, t0), (2, t8), (3, t1)]) h fun t10 h =>
  runH (storeH T_super_head h t4 t10) h fun _ h =>
  loadRes (fitD T_super_head (loadD h t4)) fun r0 => K (.ret r0) h)
  (fun v h => K (.pan v) h)
def super_head_may.loops : Nat → LInfo
  | 1 => ⟨[], [], [], [(4, none), (3, some [6, 9]), (2, none), (3, some [11, 14]), (2, none), (5, some [16, 21])], []⟩
  | _ => ⟨[], [], [], [], []⟩
def super_head_may.H (c : Ctx) (t0 : AV) (h : List AObj) (K : AOut → List AObj → Prop) : Prop :=
  boxW T_super_head t0 h fun t1 h =>
  runD (fieldAddrD T_super_head t1 1) h fun t3 h =>
  runD (fitD T_int (loadD h t3)) h fun t4 h =>
  runD (binD T_int .geq t4 (.int .i64 2)) h fun t5 h =>
  joinW (fun (J1 : AV → AV → List AObj → Prop) =>
  guardW t5 true
  (runD (fieldAddrD T_super_head t1 1) h fun t7 h =>
    runD (fitD T_int (loadD h t7)) h fun t8 h =>
    runD (binD T_int .leq t8 (.int .i64 256)) h fun t9 h =>
    J1 (.bool true) t9 h)
  (J1 (.bool false) .und h))
  (fun t6 t9 h => runD (pickD t6 t9 (.bool false)) h fun t10 h =>
  joinW (fun (J2 : AV → AV → List AObj → Prop) =>
  guardW t10 true
  (runD (fieldAddrD T_super_head t1 3) h fun t12 h =>
    runD (fitD T_int (loadD h t12)) h fun t13 h =>
    runD (binD T_int .geq t13 (.int .i64 1)) h fun t14 h =>
    J2 (.bool true) t14 h)
  (J2 (.bool false) .und h))
  (fun t11 t14 h => runD (pickD t11 t14 (.bool false)) h fun t15 h =>
  joinW (fun (J3 : AV → AV → List AObj → Prop) =>
  guardW t15 true
  (runD (fieldAddrD T_super_head t1 3) h fun t17 h =>
    runD (fitD T_int (loadD h t17)) h fun t18 h =>
    runD (fieldAddrD T_super_head t1 1) h fun t19 h =>
    runD (fitD T_int (loadD h t19)) h fun t20 h =>
    runD (binD T_int .lss t18 t20) h fun t21 h =>
    J3 (.bool true) t21 h)
  (J3 (.bool false) .und h))
  (fun t16 t21 h => runD (pickD t16 t21 (.bool false)) h fun t22 h =>
  K (.ret t22) h)))
theorem super_Words.eq (F : List (FuncId × Contract)) (S : List (FuncId × Con)) (t0 t1 : AV) (h : List AObj) (K : AOut → List AObj → Prop) : funW (ctx F S super_Words.loops) Try.f16 [t0, t1] h K = super_Words.H (ctx F S super_Words.loops) t0 t1 h K := by kernel_rfl
theorem super_Read.eq (F : List (FuncId × Contract)) (S : List (FuncId × Con)) (t0 : AV) (h : List AObj) (K : AOut → List AObj → Prop) : funW (ctx F S super_Read.loops) Try.f18 [t0] h K = super_Read.H (ctx F S super_Read.loops) t0 h K := by kernel_rfl
theorem super_Root.eq (F : List (FuncId × Contract)) (S : List (FuncId × Con)) (t0 t1 : AV) (h : List AObj) (K : AOut → List AObj → Prop) : funW (ctx F S super_Root.loops) Try.f20 [t0, t1] h K = super_Root.H (ctx F S super_Root.loops) t0 t1 h K := by kernel_rfl
theorem super_of.eq (F : List (FuncId × Contract)) (S : List (FuncId × Con)) (t0 t1 : AV) (h : List AObj) (K : AOut → List AObj → Prop) : funW (ctx F S super_of.loops) Try.f72 [t0, t1] h K = super_of.H (ctx F S super_of.loops) t0 t1 h K := by kernel_rfl
theorem super_head_may.eq (F : List (FuncId × Contract)) (S : List (FuncId × Con)) (t0 : AV) (h : List AObj) (K : AOut → List AObj → Prop) : funW (ctx F S super_head_may.loops) Try.f73 [t0] h K = super_head_may.H (ctx F S super_head_may.loops) t0 h K := by kernel_rfl
theorem super_Words.at : Try.prog.funcs[16]? = some Try.f16 := by kernel_rfl
theorem super_Words.nm : (Try.f16.name == "runtime.NumGoroutine") = false := by kernel_rfl
theorem super_Words.bd : Try.f16.body.isNone = false := by kernel_rfl
theorem super_Read.at : Try.prog.funcs[18]? = some Try.f18 := by kernel_rfl
theorem super_Read.nm : (Try.f18.name == "runtime.NumGoroutine") = false := by kernel_rfl
theorem super_Read.bd : Try.f18.body.isNone = false := by kernel_rfl
theorem super_Root.at : Try.prog.funcs[20]? = some Try.f20 := by kernel_rfl
theorem super_Root.nm : (Try.f20.name == "runtime.NumGoroutine") = false := by kernel_rfl
theorem super_Root.bd : Try.f20.body.isNone = false := by kernel_rfl
theorem super_of.at : Try.prog.funcs[72]? = some Try.f72 := by kernel_rfl
theorem super_of.nm : (Try.f72.name == "runtime.NumGoroutine") = false := by kernel_rfl
theorem super_of.bd : Try.f72.body.isNone = false := by kernel_rfl
theorem super_head_may.at : Try.prog.funcs[73]? = some Try.f73 := by kernel_rfl
theorem super_head_may.nm : (Try.f73.name == "runtime.NumGoroutine") = false := by kernel_rfl
theorem super_head_may.bd : Try.f73.body.isNone = false := by kernel_rfl
end Lam
namespace Lam
open Go Go.Proofs
set_option linter.unusedVariables false
set_option linter.unnecessarySimpa false
set_option linter.unusedSimpArgs false
def headV (b r : Int) : AV := .agg [.int .i64 7015, .int .i64 b, .int .i64 (sumOf [7015, b]), .int .i64 r]
def super_of.C : Contract
  | [.int .i64 b, .int .i64 r] => some (false, pD True (headV b r))
  | _ => none
set_option maxRecDepth 20000 in
theorem super_of.spec : FSpec Try.prog 72 super_of.C := by
  refine FSpec.of (ctx_ok (F := [(116, sum_Of.C)]) (S := []) (by simpa using sum_Of.spec) (by simp) super_of.loops) super_of.at super_of.nm super_of.bd ?_
  intro vs b S v news e hS
  unfold super_of.C at e
  split at e
  rotate_left
  · cases e
  cases e
  rw [super_of.eq]
  unfold super_of.H
  simp (maxSteps := 4000000) only [go_sem, Nat.reduceEqDiff, Nat.reduceLT, Nat.reduceAdd, Nat.reduceSub, Nat.reduceLeDiff, List.reduceReplicate, Int.reduceToNat, sum_Of.C]
  exact ⟨by unfold roomy; decide, post_val rfl rfl⟩
def mayB (b r : Int) : Bool := decide (2 ≤ b) && decide (b ≤ 256) && decide (1 ≤ r) && decide (r < b)
def super_head_may.C : Contract
  | [.agg [.int .i64 _, .int .i64 b, .int .i64 _, .int .i64 r]] => some (false, pD True (.bool (mayB b r)))
  | _ => none
set_option maxRecDepth 20000 in
theorem super_head_may.spec : FSpec Try.prog 73 super_head_may.C := by
  refine FSpec.of (ctx_ok (F := []) (S := []) (by simp) (by simp) super_head_may.loops) super_head_may.at super_head_may.nm super_head_may.bd ?_
  intro vs b S v news e hS
  unfold super_head_may.C at e
  split at e
  rotate_left
  · cases e
  cases e
  rw [super_head_may.eq]
  unfold super_head_may.H
  simp (maxSteps := 4000000) only [go_sem, Nat.reduceEqDiff, Nat.reduceLT, Nat.reduceAdd, Nat.reduceSub, Nat.reduceLeDiff, List.reduceReplicate, Int.reduceToNat]
  exact post_val rfl rfl
def superW (b r : Int) : List Int := [7015, b, sumOf [7015, b], r] ++ List.replicate 12 0
def super_Words.C : Contract
  | [.int .i64 b, .int .i64 r] => some (false, pD True (if mayB b r = true then .tup [.sl false (.ints .i64 (superW b r)), .int .i64 0] else .tup [.sl false (.ints .i64 []), .int .i64 1]))
  | _ => none
set_option maxRecDepth 20000 in
theorem super_Words.spec : FSpec Try.prog 16 super_Words.C := by
  refine FSpec.of (ctx_ok (F := [(72, super_of.C), (73, super_head_may.C)]) (S := []) (by simpa using ⟨super_of.spec, super_head_may.spec⟩) (by simp) super_Words.loops) super_Words.at super_Words.nm super_Words.bd ?_
  intro vs b S v news e hS
  unfold super_Words.C at e
  split at e
  rotate_left
  · cases e
  cases e
  rw [super_Words.eq]
  unfold super_Words.H
  simp (maxSteps := 4000000) only [go_sem, Nat.reduceEqDiff, Nat.reduceLT, Nat.reduceAdd, Nat.reduceSub, Nat.reduceLeDiff, List.reduceReplicate, Int.reduceToNat, super_of.C, super_head_may.C, headV]
  refine ⟨fun h => ?_, fun h => ?_⟩
  · simp only [h, Bool.false_eq_true, if_false]; exact post_val rfl rfl
  · refine ⟨by unfold roomy; decide, ?_⟩
    simp only [h, if_true]; exact post_val rfl rfl

def super_Root.C : Contract
  | [.int .i64 b, .int .i64 r] => some (false, pD True (if mayB b r = true then .tup [.sl false (.mics [⟨1, 3, r⟩, ⟨2, 0, 0⟩]), .int .i64 0] else .tup [.sl false (.mics []), .int .i64 1]))
  | _ => none
set_option maxRecDepth 20000 in
theorem super_Root.spec : FSpec Try.prog 20 super_Root.C := by
  refine FSpec.of (ctx_ok (F := [(72, super_of.C), (73, super_head_may.C), (70, micro_Check.C)]) (S := []) (by simpa using ⟨super_of.spec, super_head_may.spec, micro_Check.spec⟩) (by simp) super_Root.loops) super_Root.at super_Root.nm super_Root.bd ?_
  intro vs b S v news e hS
  unfold super_Root.C at e
  split at e
  rotate_left
  · cases e
  cases e
  rw [super_Root.eq]
  unfold super_Root.H
  simp (maxSteps := 4000000) only [go_sem, Nat.reduceEqDiff, Nat.reduceLT, Nat.reduceAdd, Nat.reduceSub, Nat.reduceLeDiff, List.reduceReplicate, Int.reduceToNat, super_of.C, super_head_may.C, micro_Check.C, headV]
  rename_i b r
  have h1 : (sizedB 16 && [({ kind := 1, at_ := 3, val := r } : Mic), { kind := 2, at_ := 0, val := 0 }].all fun x => mmay x 16) = true := by
    simp [sizedB, mmay, w64]
  simp only [h1, go_sem, Nat.reduceEqDiff, Nat.reduceLT, Nat.reduceAdd, Nat.reduceSub, Nat.reduceLeDiff, List.reduceReplicate, Int.reduceToNat]
  refine ⟨fun _ => by unfold roomy; decide, ?_⟩
  cases hm : mayB b r with
  | true =>
    simp only [if_true, go_sem, Nat.reduceEqDiff, Nat.reduceLT, Nat.reduceAdd, Nat.reduceSub, Nat.reduceLeDiff, List.reduceReplicate, Int.reduceToNat]
    exact post_val rfl rfl
  | false =>
    simp only [Bool.false_eq_true, if_false, go_sem, Nat.reduceEqDiff, Nat.reduceLT, Nat.reduceAdd, Nat.reduceSub, Nat.reduceLeDiff, List.reduceReplicate, Int.reduceToNat]
    exact post_val rfl rfl

def headB (l : List Int) : Bool := decide (l.getD 0 0 = 7015) && decide (l.getD 2 0 = sumOf [7015, l.getD 1 0]) && mayB (l.getD 1 0) (l.getD 3 0) && decide (l.getD 1 0 = ((l.length / 16 : Nat) : Int))
def readB (l : List Int) : Bool := decide (32 ≤ l.length) && headB l && ((l.drop 4).take 12).all (fun w => decide (w = 0))
theorem bnot3 (a b m d : Bool) : (!(a && b) || !m || !d) = !(a && b && m && d) := by cases a <;> cases b <;> cases m <;> cases d <;> rfl
def sreadV (l : List Int) : AV := if readB l = true then .tup [.int .i64 (l.getD 1 0), .int .i64 (l.getD 3 0), .int .i64 0] else .tup [.int .i64 0, .int .i64 0, .int .i64 80]
@[go_sem] theorem sreadV_noSl (l : List Int) : (sreadV l).noSl = true := by unfold sreadV; split <;> rfl
def super_Read.C : Contract
  | [.sl _ (.ints .i64 l)] => some (false, pD (roomy l.length) (sreadV l))
  | _ => none
theorem read_bad (l : List Int) (hb : readB l = false) (h : List AObj) : Post false (sreadV l) [] (.ret (.tup [.int .i64 0, .int .i64 0, .int .i64 80])) h := by
  unfold sreadV; rw [hb]; exact post_val rfl rfl
set_option maxRecDepth 20000 in
theorem super_Read.spec : FSpec Try.prog 18 super_Read.C := by
  refine FSpec.of (ctx_ok (F := [(72, super_of.C), (73, super_head_may.C)]) (S := []) (by simpa using ⟨super_of.spec, super_head_may.spec⟩) (by simp) super_Read.loops) super_Read.at super_Read.nm super_Read.bd ?_
  intro vs b S v news e hS
  unfold super_Read.C at e
  split at e
  rotate_left
  · cases e
  cases e
  rw [super_Read.eq]
  unfold super_Read.H
  simp (maxSteps := 4000000) only [go_sem, Nat.reduceEqDiff, Nat.reduceLT, Nat.reduceAdd, Nat.reduceSub, Nat.reduceLeDiff, List.reduceReplicate, Int.reduceToNat, super_of.C, super_head_may.C, headV]
  rename_i l
  unfold roomy at hS
  have hw : IntKind.i64.wrap ((l.length : Int).tdiv 16) = ((l.length / 16 : Nat) : Int) := by rw [tdiv16]; apply w64 <;> omega
  rw [joinW_eq]
  refine ⟨fun h => ?_, fun h => ?_⟩
  · apply read_bad
    have : ¬ 32 ≤ l.length := by omega
    simp [readB, this]
  refine ⟨by omega, by omega, by omega, by omega, by simp, ?_⟩
  rw [hw, bnot3]
  refine ⟨fun hc => read_bad l ?_ _, fun hc => ⟨by omega, ?_⟩⟩
  · have hc : headB l = false := by rw [Bool.not_eq_true'] at hc; exact hc
    simp [readB, hc]
  · have hc : headB l = true := by rw [Bool.not_eq_false'] at hc; exact hc
    have h32 : 32 ≤ l.length := by omega
    have hlen : ((l.drop 4).take 12).length = 12 := by simp; omega
    rw [joinW_eq]
    unfold super_Read.L1
    generalize hz : (l.drop 4).take 12 = z at *
    refine ⟨fun m lv h' => ∃ k : Nat, k + m = z.length ∧ lv = [.int .i64 k] ∧ h' = [.box (.agg [.int .i64 (l.getD 0 0), .int .i64 (l.getD 1 0), .int .i64 (l.getD 2 0), .int .i64 (l.getD 3 0)])] ∧ ∀ y ∈ z.take k, y = 0, ⟨z.length, 0, by omega, rfl, rfl, by simp⟩, ?_⟩
    rintro m h' t8 ⟨k, hk, hlv, rfl, hall⟩
    simp only [List.cons.injEq, and_true] at hlv
    subst hlv
    simp only [go_sem, Nat.reduceEqDiff, Nat.reduceLT, Nat.reduceAdd, Nat.reduceSub, Nat.reduceLeDiff, List.reduceReplicate, Int.reduceToNat]
    refine ⟨fun hlt => ⟨by omega, fun h0 => ?_, fun h0 => ?_⟩, fun hge => ?_⟩
    · apply read_bad
      have hkz : k < z.length := by omega
      have : z.all (fun w => decide (w = 0)) = false := by
        rw [List.all_eq_false]; exact ⟨_, getD_mem z k 0 hkz, by simpa using h0⟩
      simp [readB, hz, this]
    · have hkz : k < z.length := by omega
      refine ⟨m - 1, by omega, k + 1, by omega, by rw [w64 (by omega) (by omega)]; rfl, ?_⟩
      intro y hy
      rw [take_next z k 0 hkz] at hy
      rcases List.mem_append.1 hy with hy | hy
      · exact hall y hy
      · rw [List.mem_singleton.1 hy]; exact h0
    · have : k = z.length := by omega
      subst this
      rw [List.take_length] at hall
      have ha : z.all (fun w => decide (w = 0)) = true := by
        rw [List.all_eq_true]; intro y hy; simpa using hall y hy
      have hb : readB l = true := by simp [readB, hz, ha, hc, h32]
      unfold sreadV
      rw [if_pos hb]
      exact post_val rfl rfl

end Lam
namespace Lam
open Go Go.Proofs
set_option linter.unusedVariables false
def lamplighterref02_Numbers.loops : Nat → LInfo
  | 4 => ⟨[5], [false], [0, 1], [], []⟩
  | _ => ⟨[], [], [], [], []⟩
def lamplighterref02_Numbers.L1 (c : Ctx) (J1 : List AObj → Prop) (K : AOut → List AObj → Prop) (lv : List AV) (h0 : List AObj) (n0 : Nat) (c0 : AV) (c1 : AV) : Prop :=
  ∃ I : Nat → List AV → List AObj → Prop, (∃ n, I n lv h0) ∧ ∀ n h, ∀ t5, I n [t5] h →
    runD (lenD T_sl_int h c0) h fun t13 h =>
    runD (binD T_int .lss t5 t13) h fun t14 h =>
    condW t14
    (runD (indexAddrD T_sl_int h c0 t5) h fun t19 h =>
    runD (fitD T_int (loadD h t19)) h fun t20 h =>
    runD (indexAddrD T_sl_int h c1 t5) h fun t23 h =>
    runD (fitD T_int (loadD h t23)) h fun t24 h =>
    runD (binD T_int .neq t20 t24) h fun t25 h =>
    condW t25
    (K (.ret (.bool false)) h)
    (runD (binD T_int .add t5 (.int .i64 1)) h fun t16 h =>
    (∃ m, m < n ∧ I m (AV.norms n0 h [t16]) (normH n0 h)) ∧ AV.norms n0 h [c0, c1] = [c0, c1]))
    (J1 h)
def lamplighterref02_Numbers.H (c : Ctx) (t0 : AV) (t1 : AV) (h : List AObj) (K : AOut → List AObj → Prop) : Prop :=
  runD (lenD T_sl_int h t0) h fun t7 h =>
  runD (lenD T_sl_int h t1) h fun t9 h =>
  runD (binD T_int .neq t7 t9) h fun t10 h =>
  condW t10
  (K (.ret (.bool false)) h)
  (joinW (fun (J1 : List AObj → Prop) =>
  promV [false] [(.int .i64 0)] h fun lv h => lamplighterref02_Numbers.L1 c J1 K (AV.norms h.length h lv) (normH h.length h) h.length (AV.norm h.length h t0) (AV.norm h.length h t1))
  (fun h => K (.ret (.bool true)) h))
def lamplighterref02_Text.loops : Nat → LInfo
  | 1 => ⟨[], [], [], [(3, none), (5, some [15, 20])], []⟩
  | 5 => ⟨[6, 7], [true, false], [0, 1], [], []⟩
  | 12 => ⟨[8, 9, 10], [false, false, false], [0, 1, 6, 7], [], []⟩
  | _ => ⟨[], [], [], [], []⟩
def lamplighterref02_Text.L2 (c : Ctx) (J4 : AV → AV → AV → AV → AV → List AObj → Prop) (K : AOut → List AObj → Prop) (lv : List AV) (h0 : List AObj) (n0 : Nat) (c0 : AV) (c1 : AV) (c6 : AV) (c7 : AV) : Prop :=
  ∃ I : Nat → List AV → List AObj → Prop, (∃ n, I n lv h0) ∧ ∀ n h, ∀ t8, ∀ t9, ∀ t10, I n [t8, t9, t10] h →
    runD (binD T_int .lss t10 (.int .i64 7)) h fun t38 h =>
    condW t38
    (runD (binD T_int .rem t9 (.int .i64 256)) h fun t42 h =>
    runD (convD h T_int T_uint8 t42) h fun t43 h =>
    runD (buildSliceD T_sl_uint8 1 [(0, t43)] h.length) h fun t44 h =>
    runDM (appendD T_sl_uint8 h t44 t8 h.length) (appendH T_sl_uint8 h t44 t8) h fun t46 h =>
    runD (binD T_int .quo t9 (.int .i64 256)) h fun t48 h =>
    runD (binD T_int .add t10 (.int .i64 1)) h fun t40 h =>
    (∃ m, m < n ∧ I m (AV.norms n0 h [t46, t48, t40]) (normH n0 h)) ∧ AV.norms n0 h [c0, c1, c6, c7] = [c0, c1, c6, c7])
    (J4 c0 c1 c6 c7 t8 h)
def lamplighterref02_Text.L1 (c : Ctx) (J2 : AV → AV → AV → List AObj → Prop) (K : AOut → List AObj → Prop) (lv : List AV) (h0 : List AObj) (n0 : Nat) (c0 : AV) (c1 : AV) : Prop :=
  ∃ I : Nat → List AV → List AObj → Prop, (∃ n, I n lv h0) ∧ ∀ n h, ∀ t6, ∀ t7, I n [t6, t7] h →
    runD (lenD T_sl_int h c0) h fun t24 h =>
    runD (binD T_int .lss t7 t24) h fun t25 h =>
    condW t25
    (joinW (fun (J3 : AV → AV → AV → AV → List AObj → Prop) =>
    runD (indexAddrD T_sl_int h c0 t7) h fun t30 h =>
    runD (fitD T_int (loadD h t30)) h fun t31 h =>
    runD (binD T_int .lss t31 (.int .i64 0)) h fun t32 h =>
    condW t32
    (K (.ret (.tup [(.str []), (.int .i64 20)])) h)
    (runD (indexAddrD T_sl_int h c0 t7) h fun t35 h =>
    runD (fitD T_int (loadD h t35)) h fun t36 h =>
    joinW (fun (J4 : AV → AV → AV → AV → AV → List AObj → Prop) =>
    promV [false, false, false] [(.sl true (.ints .u8 [])), t36, (.int .i64 0)] h fun lv h => lamplighterref02_Text.L2 c J4 K (AV.norms h.length h lv) (normH h.length h) h.length (AV.norm h.length h c0) (AV.norm h.length h c1) (AV.norm h.length h t6) (AV.norm h.length h t7))
    (fun t0 t1 t6 t7 t8 h => runDM (appendD T_sl_uint8 h t6 t8 h.length) (appendH T_sl_uint8 h t6 t8) h fun t51 h =>
    J3 t0 t1 t51 t7 h)))
    (fun t0 t1 t6 t7 h => runD (binD T_int .add t7 (.int .i64 1)) h fun t27 h =>
    (∃ m, m < n ∧ I m (AV.norms n0 h [t6, t27]) (normH n0 h)) ∧ AV.norms n0 h [t0, t1] = [c0, c1]))
    (J2 c0 c1 t6 h)
def lamplighterref02_Text.H (c : Ctx) (t0 : AV) (t1 : AV) (h : List AObj) (K : AOut → List AObj → Prop) : Prop :=
  runD (binD T_int .lss t1 (.int .i64 0)) h fun t14 h =>
  joinW (fun (J1 : AV → AV → List AObj → Prop) =>
  guardW t14 false
  (runD (lenD T_sl_int h t0) h fun t18 h =>
    runD (binD T_int .mul (.int .i64 7) t18) h fun t19 h =>
    runD (binD T_int .gtr t1 t19) h fun t20 h =>
    J1 (.bool false) t20 h)
  (J1 (.bool true) .und h))
  (fun t15 t20 h => runD (pickD t15 (.bool true) t20) h fun t21 h =>
  condW t21
  (K (.ret (.tup [(.str []), (.int .i64 20)])) h)
  (joinW (fun (J2 : AV → AV → AV → List AObj → Prop) =>
  promV [true, false] [(.sl true (.ints .u8 [])), (.int .i64 0)] h fun lv h => lamplighterref02_Text.L1 c J2 K (AV.norms h.length h lv) (normH h.length h) h.length (AV.norm h.length h t0) (AV.norm h.length h t1))
  (fun t0 t1 t6 h => runD (sliceD T_sl_uint8 h t6 none (some t1) none) h fun t54 h =>
  runD (convD h T_sl_uint8 T_string t54) h fun t55 h =>
  callW c (.fn (.func 121) [] []) [t55] h (fun t57 h =>
  callW c (.fn (.func 22) [] []) [t57, t0] h (fun t60 h =>
  runD (unD .not t60) h fun t61 h =>
  condW t61
  (K (.ret (.tup [(.str []), (.int .i64 20)])) h)
  (K (.ret (.tup [t55, (.int .i64 0)])) h))
  (fun v h => K (.pan v) h))
  (fun v h => K (.pan v) h))))
def lamplighterref02_Check.loops : Nat → LInfo
  | 1 => ⟨[], [], [], [(4, none), (3, some [6, 9])], []⟩
  | _ => ⟨[], [], [], [], []⟩
def lamplighterref02_Check.H (c : Ctx) (t0 : AV) (h : List AObj) (K : AOut → List AObj → Prop) : Prop :=
  runD (lenD T_string h t0) h fun t4 h =>
  runD (binD T_int .geq t4 (.int .i64 1)) h fun t5 h =>
  joinW (fun (J1 : AV → AV → List AObj → Prop) =>
  guardW t5 true
  (runD (lenD T_string h t0) h fun t8 h =>
    runD (binD T_int .leq t8 (.int .i64 21)) h fun t9 h =>
    J1 (.bool true) t9 h)
  (J1 (.bool false) .und h))
  (fun t6 t9 h => runD (pickD t6 t9 (.bool false)) h fun t10 h =>
  K (.ret t10) h)
def lamplighterref02_CheckVal.loops : Nat → LInfo
  | _ => ⟨[], [], [], [], []⟩
def lamplighterref02_CheckVal.H (c : Ctx) (t0 : AV) (h : List AObj) (K : AOut → List AObj → Prop) : Prop :=
  runD (lenD T_string h t0) h fun t4 h =>
  runD (binD T_int .leq t4 (.int .i64 21)) h fun t5 h =>
  K (.ret t5) h
def lamplighterref02_Words.loops : Nat → LInfo
  | 3 => ⟨[3, 4], [true, false], [0], [], []⟩
  | 7 => ⟨[5, 6], [false, false], [0, 3, 4], [], []⟩
  | _ => ⟨[], [], [], [], []⟩
def lamplighterref02_Words.L2 (c : Ctx) (J3 : AV → AV → AV → AV → List AObj → Prop) (K : AOut → List AObj → Prop) (lv : List AV) (h0 : List AObj) (n0 : Nat) (c0 : AV) (c3 : AV) (c4 : AV) : Prop :=
  ∃ I : Nat → List AV → List AObj → Prop, (∃ n, I n lv h0) ∧ ∀ n h, ∀ t5, ∀ t6, I n [t5, t6] h →
    runD (binD T_int .add c4 (.int .i64 7)) h fun t16 h =>
    runD (binD T_int .lss t6 t16) h fun t17 h =>
    condW t17
    (runD (binD T_int .mul t5 (.int .i64 256)) h fun t21 h =>
    runD (lenD T_string h c0) h fun t24 h =>
    runD (binD T_int .lss t6 t24) h fun t25 h =>
    joinW (fun (J4 : AV → List AObj → Prop) =>
    condW t25
    (runD (indexD T_string c0 t6) h fun t29 h =>
      runD (convD h T_uint8 T_int t29) h fun t30 h =>
      runD (binD T_int .add t21 t30) h fun t31 h =>
      J4 t31 h)
    (J4 t21 h))
    (fun t5 h => runD (binD T_int .add t6 (.int .i64 1)) h fun t19 h =>
    (∃ m, m < n ∧ I m (AV.norms n0 h [t5, t19]) (normH n0 h)) ∧ AV.norms n0 h [c0, c3, c4] = [c0, c3, c4]))
    (J3 c0 c3 c4 t5 h)
def lamplighterref02_Words.L1 (c : Ctx) (J1 : AV → List AObj → Prop) (K : AOut → List AObj → Prop) (lv : List AV) (h0 : List AObj) (n0 : Nat) (c0 : AV) : Prop :=
  ∃ I : Nat → List AV → List AObj → Prop, (∃ n, I n lv h0) ∧ ∀ n h, ∀ t3, ∀ t4, I n [t3, t4] h →
    runD (lenD T_string h c0) h fun t9 h =>
    runD (binD T_int .lss t4 t9) h fun t10 h =>
    condW t10
    (joinW (fun (J2 : AV → AV → AV → List AObj → Prop) =>
    joinW (fun (J3 : AV → AV → AV → AV → List AObj → Prop) =>
    promV [false, false] [(.int .i64 0), t4] h fun lv h => lamplighterref02_Words.L2 c J3 K (AV.norms h.length h lv) (normH h.length h) h.length (AV.norm h.length h c0) (AV.norm h.length h t3) (AV.norm h.length h t4))
    (fun t0 t3 t4 t5 h => runD (buildSliceD T_sl_int 1 [(0, t5)] h.length) h fun t34 h =>
    runDM (appendD T_sl_int h t3 t34 h.length) (appendH T_sl_int h t3 t34) h fun t35 h =>
    J2 t0 t35 t4 h))
    (fun t0 t3 t4 h => runD (binD T_int .add t4 (.int .i64 7)) h fun t12 h =>
    (∃ m, m < n ∧ I m (AV.norms n0 h [t3, t12]) (normH n0 h)) ∧ AV.norms n0 h [t0] = [c0]))
    (J1 t3 h)
def lamplighterref02_Words.H (c : Ctx) (t0 : AV) (h : List AObj) (K : AOut → List AObj → Prop) : Prop :=
  joinW (fun (J1 : AV → List AObj → Prop) =>
  promV [true, false] [(.sl true (.ints .i64 [])), (.int .i64 0)] h fun lv h => lamplighterref02_Words.L1 c J1 K (AV.norms h.length h lv) (normH h.length h) h.length (AV.norm h.length h t0))
  (fun t3 h => K (.ret t3) h)
theorem lamplighterref02_Numbers.eq (F : List (FuncId × Contract)) (S : List (FuncId × Con)) (t0 t1 : AV) (h : List AObj) (K : AOut → List AObj → Prop) : funW (ctx F S lamplighterref02_Numbers.loops) Try.f22 [t0, t1] h K = lamplighterref02_Numbers.H (ctx F S lamplighterref02_Numbers.loops) t0 t1 h K := by kernel_rfl
theorem lamplighterref02_Text.eq (F : List (FuncId × Contract)) (S : List (FuncId × Con)) (t0 t1 : AV) (h : List AObj) (K : AOut → List AObj → Prop) : funW (ctx F S lamplighterref02_Text.loops) Try.f98 [t0, t1] h K = lamplighterref02_Text.H (ctx F S lamplighterref02_Text.loops) t0 t1 h K := by kernel_rfl
theorem lamplighterref02_Check.eq (F : List (FuncId × Contract)) (S : List (FuncId × Con)) (t0 : AV) (h : List AObj) (K : AOut → List AObj → Prop) : funW (ctx F S lamplighterref02_Check.loops) Try.f101 [t0] h K = lamplighterref02_Check.H (ctx F S lamplighterref02_Check.loops) t0 h K := by kernel_rfl
theorem lamplighterref02_CheckVal.eq (F : List (FuncId × Contract)) (S : List (FuncId × Con)) (t0 : AV) (h : List AObj) (K : AOut → List AObj → Prop) : funW (ctx F S lamplighterref02_CheckVal.loops) Try.f102 [t0] h K = lamplighterref02_CheckVal.H (ctx F S lamplighterref02_CheckVal.loops) t0 h K := by kernel_rfl
theorem lamplighterref02_Words.eq (F : List (FuncId × Contract)) (S : List (FuncId × Con)) (t0 : AV) (h : List AObj) (K : AOut → List AObj → Prop) : funW (ctx F S lamplighterref02_Words.loops) Try.f121 [t0] h K = lamplighterref02_Words.H (ctx F S lamplighterref02_Words.loops) t0 h K := by kernel_rfl
theorem lamplighterref02_Numbers.at : Try.prog.funcs[22]? = some Try.f22 := by kernel_rfl
theorem lamplighterref02_Numbers.nm : (Try.f22.name == "runtime.NumGoroutine") = false := by kernel_rfl
theorem lamplighterref02_Numbers.bd : Try.f22.body.isNone = false := by kernel_rfl
theorem lamplighterref02_Text.at : Try.prog.funcs[98]? = some Try.f98 := by kernel_rfl
theorem lamplighterref02_Text.nm : (Try.f98.name == "runtime.NumGoroutine") = false := by kernel_rfl
theorem lamplighterref02_Text.bd : Try.f98.body.isNone = false := by kernel_rfl
theorem lamplighterref02_Check.at : Try.prog.funcs[101]? = some Try.f101 := by kernel_rfl
theorem lamplighterref02_Check.nm : (Try.f101.name == "runtime.NumGoroutine") = false := by kernel_rfl
theorem lamplighterref02_Check.bd : Try.f101.body.isNone = false := by kernel_rfl
theorem lamplighterref02_CheckVal.at : Try.prog.funcs[102]? = some Try.f102 := by kernel_rfl
theorem lamplighterref02_CheckVal.nm : (Try.f102.name == "runtime.NumGoroutine") = false := by kernel_rfl
theorem lamplighterref02_CheckVal.bd : Try.f102.body.isNone = false := by kernel_rfl
theorem lamplighterref02_Words.at : Try.prog.funcs[121]? = some Try.f121 := by kernel_rfl
theorem lamplighterref02_Words.nm : (Try.f121.name == "runtime.NumGoroutine") = false := by kernel_rfl
theorem lamplighterref02_Words.bd : Try.f121.body.isNone = false := by kernel_rfl
end Lam
namespace Lam
open Go Go.Proofs
set_option linter.unusedVariables false
set_option linter.unnecessarySimpa false
set_option linter.unusedSimpArgs false
def lamplighterref02_Numbers.C : Contract
  | [.sl _ (.ints .i64 a), .sl _ (.ints .i64 b)] => some (false, pD (roomy a.length) (.bool (decide (a = b))))
  | _ => none
set_option maxRecDepth 20000 in
theorem lamplighterref02_Numbers.spec : FSpec Try.prog 22 lamplighterref02_Numbers.C := by
  refine FSpec.of (ctx_ok (F := []) (S := []) (by simp) (by simp) lamplighterref02_Numbers.loops) lamplighterref02_Numbers.at lamplighterref02_Numbers.nm lamplighterref02_Numbers.bd ?_
  intro vs b S v news e hS
  unfold lamplighterref02_Numbers.C at e
  split at e
  rotate_left
  · cases e
  cases e
  rw [lamplighterref02_Numbers.eq]
  unfold lamplighterref02_Numbers.H
  simp (maxSteps := 4000000) only [go_sem, Nat.reduceEqDiff, Nat.reduceLT, Nat.reduceAdd, Nat.reduceSub, Nat.reduceLeDiff, List.reduceReplicate, Int.reduceToNat]
  rename_i a _ b
  unfold roomy at hS
  refine ⟨fun hne => ?_, fun heq => ?_⟩
  · have : decide (a = b) = false := by rw [decide_eq_false_iff_not]; rintro rfl; exact hne rfl
    rw [this]; exact post_val rfl rfl
  rw [joinW_eq]
  unfold lamplighterref02_Numbers.L1
  have hlen : a.length = b.length := by omega
  refine loop1 (fun k : Nat => .int .i64 k) (fun _ => []) (fun k => a.length - k) (fun k => k ≤ a.length ∧ ∀ i, i < k → a.getD i 0 = b.getD i 0) 0 rfl rfl ⟨Nat.zero_le _, fun i hi => absurd hi (Nat.not_lt_zero i)⟩ ?_
  rintro I back k ⟨hk, hall⟩
  simp only [go_sem, Nat.reduceEqDiff, Nat.reduceLT, Nat.reduceAdd, Nat.reduceSub, Nat.reduceLeDiff, List.reduceReplicate, Int.reduceToNat]
  refine ⟨fun hlt => ⟨by omega, by omega, fun h0 => ?_, fun h0 => ?_⟩, fun hge => ?_⟩
  · have : decide (a = b) = false := by rw [decide_eq_false_iff_not]; rintro rfl; exact h0 rfl
    rw [this]; exact post_val rfl rfl
  · refine back (k + 1) (by omega) (by rw [wnext (by omega)]) rfl ⟨by omega, fun i hi => ?_⟩
    by_cases e : i = k
    · subst e; exact h0
    · exact hall i (by omega)
  · rw [decide_eq_true (ext_d 0 hlen fun i hi => hall i (by omega))]; exact post_val rfl rfl
end Lam
namespace Lam
open Go Go.Proofs
set_option linter.unusedVariables false
def lamplighterlaw08_awake.loops : Nat → LInfo
  | 6 => ⟨[], [], [], [(4, none), (4, some [43, 47]), (2, none), (2, some [49, 51]), (2, none), (2, some [53, 55]), (2, none), (2, some [57, 59]), (2, none), (2, some [61, 63]), (2, none), (2, some [65, 67]), (2, none), (3, some [69, 72]), (2, none), (5, some [74, 79]), (2, none), (2, some [81, 83]), (2, none), (2, some [85, 87])], []⟩
  | _ => ⟨[], [], [], [], []⟩
def lamplighterlaw08_awake.H (c : Ctx) (h : List AObj) (K : AOut → List AObj → Prop) : Prop :=
  callW c (.fn (.func 16) [] []) [(.int .i64 2), (.int .i64 1)] h (fun t14 h =>
  runD (extractD t14 0) h fun t15 h =>
  runD (extractD t14 1) h fun t16 h =>
  runD (buildSliceD T_sl_int 0 [] h.length) h fun t18 h =>
  runDM (appendD T_sl_int h t18 t15 h.length) (appendH T_sl_int h t18 t15) h fun t20 h =>
  appendW T_sl_int T_int t20 (.int .i64 16) h fun t21 h =>
  callW c (.fn (.func 18) [] []) [t21] h (fun t22 h =>
  runD (extractD t22 0) h fun t23 h =>
  runD (extractD t22 1) h fun t24 h =>
  runD (extractD t22 2) h fun t25 h =>
  callW c (.fn (.func 18) [] []) [t15] h (fun t28 h =>
  runD (extractD t28 0) h fun t29 h =>
  runD (extractD t28 1) h fun t30 h =>
  runD (extractD t28 2) h fun t31 h =>
  callW c (.fn (.func 20) [] []) [(.int .i64 5), (.int .i64 4)] h (fun t33 h =>
  runD (extractD t33 0) h fun t34 h =>
  runD (extractD t33 1) h fun t35 h =>
  callW c (.fn (.func 16) [] []) [(.int .i64 1), (.int .i64 1)] h (fun t37 h =>
  runD (extractD t37 0) h fun t38 h =>
  runD (extractD t37 1) h fun t39 h =>
  runD (lenD T_sl_int h t15) h fun t41 h =>
  runD (binD T_int .eql t41 (.int .i64 16)) h fun t42 h =>
  joinW (fun (J1 : AV → AV → List AObj → Prop) =>
  guardW t42 true
  (runD (indexAddrD T_sl_int h t15 (.int .i64 0)) h fun t45 h =>
    runD (fitD T_int (loadD h t45)) h fun t46 h =>
    runD (binD T_int .eql t46 (.int .i64 7015)) h fun t47 h =>
    J1 (.bool true) t47 h)
  (J1 (.bool false) .und h))
  (fun t43 t47 h => runD (pickD t43 t47 (.bool false)) h fun t48 h =>
  joinW (fun (J2 : AV → AV → List AObj → Prop) =>
  guardW t48 true
  (runD (binD T_api_Errno .eql t16 (.int .i64 0)) h fun t51 h =>
    J2 (.bool true) t51 h)
  (J2 (.bool false) .und h))
  (fun t49 t51 h => runD (pickD t49 t51 (.bool false)) h fun t52 h =>
  joinW (fun (J3 : AV → AV → List AObj → Prop) =>
  guardW t52 true
  (runD (binD T_int .eql t23 (.int .i64 2)) h fun t55 h =>
    J3 (.bool true) t55 h)
  (J3 (.bool false) .und h))
  (fun t53 t55 h => runD (pickD t53 t55 (.bool false)) h fun t56 h =>
  joinW (fun (J4 : AV → AV → List AObj → Prop) =>
  guardW t56 true
  (runD (binD T_int .eql t24 (.int .i64 1)) h fun t59 h =>
    J4 (.bool true) t59 h)
  (J4 (.bool false) .und h))
  (fun t57 t59 h => runD (pickD t57 t59 (.bool false)) h fun t60 h =>
  joinW (fun (J5 : AV → AV → List AObj → Prop) =>
  guardW t60 true
  (runD (binD T_api_Errno .eql t25 (.int .i64 0)) h fun t63 h =>
    J5 (.bool true) t63 h)
  (J5 (.bool false) .und h))
  (fun t61 t63 h => runD (pickD t61 t63 (.bool false)) h fun t64 h =>
  joinW (fun (J6 : AV → AV → List AObj → Prop) =>
  guardW t64 true
  (runD (binD T_api_Errno .eql t31 (.int .i64 80)) h fun t67 h =>
    J6 (.bool true) t67 h)
  (J6 (.bool false) .und h))
  (fun t65 t67 h => runD (pickD t65 t67 (.bool false)) h fun t68 h =>
  joinW (fun (J7 : AV → AV → List AObj → Prop) =>
  guardW t68 true
  (runD (lenD T_sl_api_Micro h t34) h fun t71 h =>
    runD (binD T_int .eql t71 (.int .i64 2)) h fun t72 h =>
    J7 (.bool true) t72 h)
  (J7 (.bool false) .und h))
  (fun t69 t72 h => runD (pickD t69 t72 (.bool false)) h fun t73 h =>
  joinW (fun (J8 : AV → AV → List AObj → Prop) =>
  guardW t73 true
  (runD (indexAddrD T_sl_api_Micro h t34 (.int .i64 0)) h fun t76 h =>
    runD (fieldAddrD T_api_Micro t76 2) h fun t77 h =>
    runD (fitD T_int (loadD h t77)) h fun t78 h =>
    runD (binD T_int .eql t78 (.int .i64 4)) h fun t79 h =>
    J8 (.bool true) t79 h)
  (J8 (.bool false) .und h))
  (fun t74 t79 h => runD (pickD t74 t79 (.bool false)) h fun t80 h =>
  joinW (fun (J9 : AV → AV → List AObj → Prop) =>
  guardW t80 true
  (runD (binD T_api_Errno .eql t35 (.int .i64 0)) h fun t83 h =>
    J9 (.bool true) t83 h)
  (J9 (.bool false) .und h))
  (fun t81 t83 h => runD (pickD t81 t83 (.bool false)) h fun t84 h =>
  joinW (fun (J10 : AV → AV → List AObj → Prop) =>
  guardW t84 true
  (runD (binD T_api_Errno .eql t39 (.int .i64 1)) h fun t87 h =>
    J10 (.bool true) t87 h)
  (J10 (.bool false) .und h))
  (fun t85 t87 h => runD (pickD t85 t87 (.bool false)) h fun t88 h =>
  runD (pickD t88 (.bool true) (.bool false)) h fun t90 h =>
  K (.ret t90) h)))))))))))
  (fun v h => K (.pan v) h))
  (fun v h => K (.pan v) h))
  (fun v h => K (.pan v) h))
  (fun v h => K (.pan v) h))
  (fun v h => K (.pan v) h)
theorem lamplighterlaw08_awake.eq (F : List (FuncId × Contract)) (S : List (FuncId × Con)) (h : List AObj) (K : AOut → List AObj → Prop) : funW (ctx F S lamplighterlaw08_awake.loops) Try.f15 [] h K = lamplighterlaw08_awake.H (ctx F S lamplighterlaw08_awake.loops)  h K := by kernel_rfl
theorem lamplighterlaw08_awake.at : Try.prog.funcs[15]? = some Try.f15 := by kernel_rfl
theorem lamplighterlaw08_awake.nm : (Try.f15.name == "runtime.NumGoroutine") = false := by kernel_rfl
theorem lamplighterlaw08_awake.bd : Try.f15.body.isNone = false := by kernel_rfl
end Lam
namespace Lam
open Go Go.Proofs
set_option linter.unusedVariables false
set_option linter.unnecessarySimpa false
set_option linter.unusedSimpArgs false
def lamplighterlaw08_awake.C : Contract
  | [] => some (false, pD True (.bool true))
  | _ => none
set_option maxRecDepth 20000 in
theorem lamplighterlaw08_awake.spec : FSpec Try.prog 15 lamplighterlaw08_awake.C := by
  refine FSpec.of (ctx_ok (F := [(16, super_Words.C), (18, super_Read.C), (20, super_Root.C)]) (S := []) (by simpa using ⟨super_Words.spec, super_Read.spec, super_Root.spec⟩) (by simp) lamplighterlaw08_awake.loops) lamplighterlaw08_awake.at lamplighterlaw08_awake.nm lamplighterlaw08_awake.bd ?_
  intro vs b S v news e hS
  unfold lamplighterlaw08_awake.C at e
  split at e
  rotate_left
  · cases e
  cases e
  rw [lamplighterlaw08_awake.eq]
  unfold lamplighterlaw08_awake.H
  simp (maxSteps := 4000000) only [go_sem, Nat.reduceEqDiff, Nat.reduceLT, Nat.reduceAdd, Nat.reduceSub, Nat.reduceLeDiff, List.reduceReplicate, Int.reduceToNat, super_Words.C, super_Read.C, super_Root.C, superW]
  have m1 : mayB 2 1 = true := by decide
  have m2 : mayB 5 4 = true := by decide
  have m3 : mayB 1 1 = false := by decide
  have r1 : sreadV [7015, 2, sumOf [7015, 2], 1, 0, 0, 0, 0, 0, 0, 0, 0, 0, 0, 0, 0, 0, 0, 0, 0, 0, 0, 0, 0, 0, 0, 0, 0, 0, 0, 0, 0] = .tup [.int .i64 2, .int .i64 1, .int .i64 0] := by
    have : readB [7015, 2, sumOf [7015, 2], 1, 0, 0, 0, 0, 0, 0, 0, 0, 0, 0, 0, 0, 0, 0, 0, 0, 0, 0, 0, 0, 0, 0, 0, 0, 0, 0, 0, 0] = true := by simp [readB, headB, m1]
    unfold sreadV; rw [if_pos this]; rfl
  have r2 : sreadV [7015, 2, sumOf [7015, 2], 1, 0, 0, 0, 0, 0, 0, 0, 0, 0, 0, 0, 0] = .tup [.int .i64 0, .int .i64 0, .int .i64 80] := by
    have : readB [7015, 2, sumOf [7015, 2], 1, 0, 0, 0, 0, 0, 0, 0, 0, 0, 0, 0, 0] = false := by simp [readB]
    unfold sreadV; rw [this]; rfl
  simp only [m1, m2, m3, r1, r2, go_sem, Nat.reduceEqDiff, Nat.reduceLT, Nat.reduceAdd, Nat.reduceSub, Nat.reduceLeDiff, List.reduceReplicate, Int.reduceToNat, super_Read.C]
  refine ⟨by unfold roomy; decide, by decide, by unfold roomy; decide, by unfold roomy; decide, by unfold roomy; decide, ?_⟩
  exact ⟨by decide, by decide, post_val rfl rfl⟩
end Lam
namespace Lam
open Go Go.Proofs
set_option linter.unusedVariables false
def lamplighterref03_Of.loops : Nat → LInfo
  | 3 => ⟨[3, 4], [false, false], [0], [], []⟩
  | _ => ⟨[], [], [], [], []⟩
def lamplighterref03_Of.L1 (c : Ctx) (J1 : AV → List AObj → Prop) (K : AOut → List AObj → Prop) (lv : List AV) (h0 : List AObj) (n0 : Nat) (c0 : AV) : Prop :=
  ∃ I : Nat → List AV → List AObj → Prop, (∃ n, I n lv h0) ∧ ∀ n h, ∀ t3, ∀ t4, I n [t3, t4] h →
    runD (lenD T_sl_int h c0) h fun t7 h =>
    runD (binD T_int .lss t4 t7) h fun t8 h =>
    condW t8
    (runD (indexAddrD T_sl_int h c0 t4) h fun t14 h =>
    runD (fitD T_int (loadD h t14)) h fun t15 h =>
    callW c (.fn (.func 117) [] []) [t3, t15] h (fun t16 h =>
    runD (binD T_int .add t4 (.int .i64 1)) h fun t10 h =>
    (∃ m, m < n ∧ I m (AV.norms n0 h [t16, t10]) (normH n0 h)) ∧ AV.norms n0 h [c0] = [c0])
    (fun v h => K (.pan v) h))
    (J1 t3 h)
def lamplighterref03_Of.H (c : Ctx) (t0 : AV) (h : List AObj) (K : AOut → List AObj → Prop) : Prop :=
  joinW (fun (J1 : AV → List AObj → Prop) =>
  promV [false, false] [(.int .u32 4294967295), (.int .i64 0)] h fun lv h => lamplighterref03_Of.L1 c J1 K (AV.norms h.length h lv) (normH h.length h) h.length (AV.norm h.length h t0))
  (fun t3 h => runD (binD T_uint32 .sub (.int .u32 4294967295) t3) h fun t18 h =>
  runD (convD h T_uint32 T_int t18) h fun t19 h =>
  K (.ret t19) h)
def lamplighterref03_Word.loops : Nat → LInfo
  | 4 => ⟨[5, 6, 7], [false, false, false], [0], [], []⟩
  | 9 => ⟨[0, 8], [false, false], [6], [], []⟩
  | _ => ⟨[], [], [], [], []⟩
def lamplighterref03_Word.L1 (c : Ctx) (J1 : AV → AV → List AObj → Prop) (K : AOut → List AObj → Prop) (lv : List AV) (h0 : List AObj) (n0 : Nat) (c0 : AV) : Prop :=
  ∃ I : Nat → List AV → List AObj → Prop, (∃ n, I n lv h0) ∧ ∀ n h, ∀ t5, ∀ t6, ∀ t7, I n [t5, t6, t7] h →
    runD (binD T_int .lss t7 (.int .i64 8)) h fun t12 h =>
    condW t12
    (runD (binD T_uint64 .rem t5 (.int .u64 256)) h fun t16 h =>
    runD (convD h T_uint64 T_uint8 t16) h fun t17 h =>
    runD (buildSliceD T_sl_uint8 1 [(0, t17)] h.length) h fun t18 h =>
    runDM (appendD T_sl_uint8 h t18 t6 h.length) (appendH T_sl_uint8 h t18 t6) h fun t20 h =>
    runD (binD T_uint64 .quo t5 (.int .u64 256)) h fun t22 h =>
    runD (binD T_int .add t7 (.int .i64 1)) h fun t14 h =>
    (∃ m, m < n ∧ I m (AV.norms n0 h [t22, t20, t14]) (normH n0 h)) ∧ AV.norms n0 h [c0] = [c0])
    (J1 c0 t6 h)
def lamplighterref03_Word.L2 (c : Ctx) (J2 : AV → List AObj → Prop) (K : AOut → List AObj → Prop) (lv : List AV) (h0 : List AObj) (n0 : Nat) (c6 : AV) : Prop :=
  ∃ I : Nat → List AV → List AObj → Prop, (∃ n, I n lv h0) ∧ ∀ n h, ∀ t0, ∀ t8, I n [t0, t8] h →
    runD (binD T_int .lss t8 (.int .i64 8)) h fun t24 h =>
    condW t24
    (runD (indexAddrD T_sl_uint8 h c6 t8) h fun t30 h =>
    runD (fitD T_uint8 (loadD h t30)) h fun t31 h =>
    callW c (.fn (.func 134) [] []) [t0, t31] h (fun t32 h =>
    runD (binD T_int .add t8 (.int .i64 1)) h fun t26 h =>
    (∃ m, m < n ∧ I m (AV.norms n0 h [t32, t26]) (normH n0 h)) ∧ AV.norms n0 h [c6] = [c6])
    (fun v h => K (.pan v) h))
    (J2 t0 h)
def lamplighterref03_Word.H (c : Ctx) (t0 : AV) (t1 : AV) (h : List AObj) (K : AOut → List AObj → Prop) : Prop :=
  runD (convD h T_int T_uint64 t1) h fun t10 h =>
  joinW (fun (J1 : AV → AV → List AObj → Prop) =>
  promV [false, false, false] [t10, (.sl true (.ints .u8 [])), (.int .i64 0)] h fun lv h => lamplighterref03_Word.L1 c J1 K (AV.norms h.length h lv) (normH h.length h) h.length (AV.norm h.length h t0))
  (fun t0 t6 h => joinW (fun (J2 : AV → List AObj → Prop) =>
  promV [false, false] [t0, (.int .i64 0)] h fun lv h => lamplighterref03_Word.L2 c J2 K (AV.norms h.length h lv) (normH h.length h) h.length (AV.norm h.length h t6))
  (fun t0 h => K (.ret t0) h))
def lamplighterref03_Byte.loops : Nat → LInfo
  | 3 => ⟨[0, 5], [false, false], [], [], []⟩
  | _ => ⟨[], [], [], [], []⟩
def lamplighterref03_Byte.L1 (c : Ctx) (J1 : AV → List AObj → Prop) (K : AOut → List AObj → Prop) (lv : List AV) (h0 : List AObj) (n0 : Nat) : Prop :=
  ∃ I : Nat → List AV → List AObj → Prop, (∃ n, I n lv h0) ∧ ∀ n h, ∀ t0, ∀ t5, I n [t0, t5] h →
    runD (binD T_int .lss t5 (.int .i64 8)) h fun t11 h =>
    condW t11
    (callW c (.fn (.func 140) [] []) [t0] h (fun t15 h =>
    runD (binD T_int .add t5 (.int .i64 1)) h fun t13 h =>
    (∃ m, m < n ∧ I m (AV.norms n0 h [t15, t13]) (normH n0 h)) ∧ AV.norms n0 h [] = [])
    (fun v h => K (.pan v) h))
    (J1 t0 h)
def lamplighterref03_Byte.H (c : Ctx) (t0 : AV) (t1 : AV) (h : List AObj) (K : AOut → List AObj → Prop) : Prop :=
  runD (convD h T_uint8 T_uint32 t1) h fun t8 h =>
  callW c (.fn (.func 139) [] []) [t0, t8] h (fun t9 h =>
  joinW (fun (J1 : AV → List AObj → Prop) =>
  promV [false, false] [t9, (.int .i64 0)] h fun lv h => lamplighterref03_Byte.L1 c J1 K (AV.norms h.length h lv) (normH h.length h) h.length)
  (fun t0 h => K (.ret t0) h))
  (fun v h => K (.pan v) h)
def lamplighterref03_turn.loops : Nat → LInfo
  | _ => ⟨[], [], [], [], []⟩
def lamplighterref03_turn.H (c : Ctx) (t0 : AV) (t1 : AV) (h : List AObj) (K : AOut → List AObj → Prop) : Prop :=
  runD (binD T_uint32 .or t0 t1) h fun t7 h =>
  runD (binD T_uint32 .and t0 t1) h fun t10 h =>
  runD (binD T_uint32 .sub t7 t10) h fun t11 h =>
  K (.ret t11) h
def lamplighterref03_move.loops : Nat → LInfo
  | _ => ⟨[], [], [], [], []⟩
def lamplighterref03_move.H (c : Ctx) (t0 : AV) (h : List AObj) (K : AOut → List AObj → Prop) : Prop :=
  runD (binD T_uint32 .rem t0 (.int .u32 2)) h fun t4 h =>
  runD (binD T_uint32 .eql t4 (.int .u32 1)) h fun t5 h =>
  condW t5
  (runD (binD T_uint32 .quo t0 (.int .u32 2)) h fun t7 h =>
    callW c (.fn (.func 139) [] []) [t7, (.int .u32 3988292384)] h (fun t8 h =>
    K (.ret t8) h)
    (fun v h => K (.pan v) h))
  (runD (binD T_uint32 .quo t0 (.int .u32 2)) h fun t10 h =>
  K (.ret t10) h)
theorem lamplighterref03_Of.eq (F : List (FuncId × Contract)) (S : List (FuncId × Con)) (t0 : AV) (h : List AObj) (K : AOut → List AObj → Prop) : funW (ctx F S lamplighterref03_Of.loops) Try.f75 [t0] h K = lamplighterref03_Of.H (ctx F S lamplighterref03_Of.loops) t0 h K := by kernel_rfl
theorem lamplighterref03_Word.eq (F : List (FuncId × Contract)) (S : List (FuncId × Con)) (t0 t1 : AV) (h : List AObj) (K : AOut → List AObj → Prop) : funW (ctx F S lamplighterref03_Word.loops) Try.f117 [t0, t1] h K = lamplighterref03_Word.H (ctx F S lamplighterref03_Word.loops) t0 t1 h K := by kernel_rfl
theorem lamplighterref03_Byte.eq (F : List (FuncId × Contract)) (S : List (FuncId × Con)) (t0 t1 : AV) (h : List AObj) (K : AOut → List AObj → Prop) : funW (ctx F S lamplighterref03_Byte.loops) Try.f134 [t0, t1] h K = lamplighterref03_Byte.H (ctx F S lamplighterref03_Byte.loops) t0 t1 h K := by kernel_rfl
theorem lamplighterref03_turn.eq (F : List (FuncId × Contract)) (S : List (FuncId × Con)) (t0 t1 : AV) (h : List AObj) (K : AOut → List AObj → Prop) : funW (ctx F S lamplighterref03_turn.loops) Try.f139 [t0, t1] h K = lamplighterref03_turn.H (ctx F S lamplighterref03_turn.loops) t0 t1 h K := by kernel_rfl
theorem lamplighterref03_move.eq (F : List (FuncId × Contract)) (S : List (FuncId × Con)) (t0 : AV) (h : List AObj) (K : AOut → List AObj → Prop) : funW (ctx F S lamplighterref03_move.loops) Try.f140 [t0] h K = lamplighterref03_move.H (ctx F S lamplighterref03_move.loops) t0 h K := by kernel_rfl
theorem lamplighterref03_Of.at : Try.prog.funcs[75]? = some Try.f75 := by kernel_rfl
theorem lamplighterref03_Of.nm : (Try.f75.name == "runtime.NumGoroutine") = false := by kernel_rfl
theorem lamplighterref03_Of.bd : Try.f75.body.isNone = false := by kernel_rfl
theorem lamplighterref03_Word.at : Try.prog.funcs[117]? = some Try.f117 := by kernel_rfl
theorem lamplighterref03_Word.nm : (Try.f117.name == "runtime.NumGoroutine") = false := by kernel_rfl
theorem lamplighterref03_Word.bd : Try.f117.body.isNone = false := by kernel_rfl
theorem lamplighterref03_Byte.at : Try.prog.funcs[134]? = some Try.f134 := by kernel_rfl
theorem lamplighterref03_Byte.nm : (Try.f134.name == "runtime.NumGoroutine") = false := by kernel_rfl
theorem lamplighterref03_Byte.bd : Try.f134.body.isNone = false := by kernel_rfl
theorem lamplighterref03_turn.at : Try.prog.funcs[139]? = some Try.f139 := by kernel_rfl
theorem lamplighterref03_turn.nm : (Try.f139.name == "runtime.NumGoroutine") = false := by kernel_rfl
theorem lamplighterref03_turn.bd : Try.f139.body.isNone = false := by kernel_rfl
theorem lamplighterref03_move.at : Try.prog.funcs[140]? = some Try.f140 := by kernel_rfl
theorem lamplighterref03_move.nm : (Try.f140.name == "runtime.NumGoroutine") = false := by kernel_rfl
theorem lamplighterref03_move.bd : Try.f140.body.isNone = false := by kernel_rfl
end Lam
namespace Lam
open Go Go.Proofs
set_option linter.unusedVariables false
set_option linter.unnecessarySimpa false
set_option linter.unusedSimpArgs false
def U32 (c : Int) : Prop := 0 ≤ c ∧ c < 4294967296
def lamplighterref03_turn.C : Contract
  | [.int .u32 a, .int .u32 b] => some (false, pD (U32 a ∧ U32 b) (.int .u32 (xor32 a b)))
  | _ => none
set_option maxRecDepth 20000 in
theorem lamplighterref03_turn.spec : FSpec Try.prog 139 lamplighterref03_turn.C := by
  refine FSpec.of (ctx_ok (F := []) (S := []) (by simp) (by simp) lamplighterref03_turn.loops) lamplighterref03_turn.at lamplighterref03_turn.nm lamplighterref03_turn.bd ?_
  intro vs b S v news e hS
  unfold lamplighterref03_turn.C at e
  split at e
  rotate_left
  · cases e
  cases e
  rw [lamplighterref03_turn.eq]
  unfold lamplighterref03_turn.H
  simp (maxSteps := 4000000) only [go_sem, Nat.reduceEqDiff, Nat.reduceLT, Nat.reduceAdd, Nat.reduceSub, Nat.reduceLeDiff, List.reduceReplicate, Int.reduceToNat]
  rename_i a b
  rw [turn_eq hS.1.1 hS.1.2 hS.2.1 hS.2.2]
  exact post_val rfl rfl
def lamplighterref03_move.C : Contract
  | [.int .u32 a] => some (false, pD (U32 a) (.int .u32 (bitS a)))
  | _ => none
set_option maxRecDepth 20000 in
theorem lamplighterref03_move.spec : FSpec Try.prog 140 lamplighterref03_move.C := by
  refine FSpec.of (ctx_ok (F := [(139, lamplighterref03_turn.C)]) (S := []) (by simpa using lamplighterref03_turn.spec) (by simp) lamplighterref03_move.loops) lamplighterref03_move.at lamplighterref03_move.nm lamplighterref03_move.bd ?_
  intro vs b S v news e hS
  unfold lamplighterref03_move.C at e
  split at e
  rotate_left
  · cases e
  cases e
  rw [lamplighterref03_move.eq]
  unfold lamplighterref03_move.H
  simp (maxSteps := 4000000) only [go_sem, Nat.reduceEqDiff, Nat.reduceLT, Nat.reduceAdd, Nat.reduceSub, Nat.reduceLeDiff, List.reduceReplicate, Int.reduceToNat, lamplighterref03_turn.C]
  rename_i a
  have h := bitS_move hS.1 hS.2
  have hr : U32 (IntKind.u32.wrap (a.tdiv 2)) := u32_range _
  refine ⟨by decide, fun e => ⟨by decide, ⟨hr, by unfold U32; omega⟩, ?_⟩, fun e => ⟨by decide, ?_⟩⟩
  · rw [h, if_pos e]; exact post_val rfl rfl
  · rw [h, if_neg e]; exact post_val rfl rfl
def lamplighterref03_Byte.C : Contract
  | [.int .u32 c, .int .u8 b] => some (false, pD (U32 c ∧ 0 ≤ b ∧ b < 256) (.int .u32 (withS tabL c b)))
  | _ => none
set_option maxRecDepth 20000 in
theorem lamplighterref03_Byte.spec : FSpec Try.prog 134 lamplighterref03_Byte.C := by
  refine FSpec.of (ctx_ok (F := [(139, lamplighterref03_turn.C), (140, lamplighterref03_move.C)]) (S := []) (by simpa using ⟨lamplighterref03_turn.spec, lamplighterref03_move.spec⟩) (by simp) lamplighterref03_Byte.loops) lamplighterref03_Byte.at lamplighterref03_Byte.nm lamplighterref03_Byte.bd ?_
  intro vs b S v news e hS
  unfold lamplighterref03_Byte.C at e
  split at e
  rotate_left
  · cases e
  cases e
  rw [lamplighterref03_Byte.eq]
  unfold lamplighterref03_Byte.H
  simp (maxSteps := 4000000) only [go_sem, Nat.reduceEqDiff, Nat.reduceLT, Nat.reduceAdd, Nat.reduceSub, Nat.reduceLeDiff, List.reduceReplicate, Int.reduceToNat, lamplighterref03_turn.C, lamplighterref03_move.C]
  rename_i c b
  obtain ⟨hc, hb0, hb1⟩ := hS
  have eb : IntKind.u32.wrap b = b := wrap32 hb0 (by omega)
  rw [eb]
  refine ⟨⟨hc, by unfold U32; omega⟩, ?_⟩
  rw [joinW_eq]
  unfold lamplighterref03_Byte.L1
  refine loop2 (σ := Nat) (fun k => .int .u32 (bitN k (xor32 c b))) (fun k => .int .i64 k) (fun k => []) (fun k => 8 - k) (fun k => k ≤ 8) 0 rfl rfl (Nat.zero_le _) ?_
  intro I back k hk
  have hx : U32 (xor32 c b) := xor32_range
  simp only [lamplighterref03_move.C, go_sem, Nat.reduceEqDiff, Nat.reduceLT, Nat.reduceAdd, Nat.reduceSub, Nat.reduceLeDiff, List.reduceReplicate, Int.reduceToNat]
  refine ⟨fun hlt => ⟨bitN_range hx.1 hx.2 k, back (k + 1) (by omega) (by rw [wnext (by omega)]; rfl) rfl (by omega)⟩, fun hge => ?_⟩
  obtain rfl : k = 8 := by omega
  rw [byte_eq hc.1 hc.2 hb0 hb1]
  exact post_val rfl rfl
def bytesLo (w : Int) : Nat → List Int
  | 0 => []
  | k + 1 => byteAt w (7 - k) :: bytesLo w k
theorem bytesLo_len (w : Int) : ∀ k, (bytesLo w k).length = k
  | 0 => rfl
  | k + 1 => by rw [bytesLo, List.length_cons, bytesLo_len w k]
theorem bytesLo_get (w : Int) (j : Nat) (h : j < 8) : (bytesLo w 8).getD j 0 = byteAt w j := by
  rcases j with _|_|_|_|_|_|_|_|j <;> first | rfl | omega
def lamplighterref03_Word.C : Contract
  | [.int .u32 c, .int .i64 w] => some (false, pD (U32 c) (.int .u32 (wordS tabL c w)))
  | _ => none
set_option maxRecDepth 20000 in
theorem lamplighterref03_Word.spec : FSpec Try.prog 117 lamplighterref03_Word.C := by
  refine FSpec.of (ctx_ok (F := [(134, lamplighterref03_Byte.C)]) (S := []) (by simpa using lamplighterref03_Byte.spec) (by simp) lamplighterref03_Word.loops) lamplighterref03_Word.at lamplighterref03_Word.nm lamplighterref03_Word.bd ?_
  intro vs b S v news e hS
  unfold lamplighterref03_Word.C at e
  split at e
  rotate_left
  · cases e
  cases e
  rw [lamplighterref03_Word.eq]
  unfold lamplighterref03_Word.H
  simp (maxSteps := 4000000) only [go_sem, Nat.reduceEqDiff, Nat.reduceLT, Nat.reduceAdd, Nat.reduceSub, Nat.reduceLeDiff, List.reduceReplicate, Int.reduceToNat, lamplighterref03_Byte.C]
  rename_i c w
  rw [joinW_eq]
  unfold lamplighterref03_Word.L1
  refine loop3 (σ := Nat) (fun k => .int .u64 ((IntKind.u64.wrap w) / 256 ^ k)) (fun k => .sl false (.ints .u8 (bytesLo w k))) (fun k => .int .i64 k) (fun k => []) (fun k => 8 - k) (fun k => k ≤ 8) 0 (by simp [bytesLo]) rfl (Nat.zero_le _) ?_
  rintro I back k hk
  simp only [go_sem, Nat.reduceEqDiff, Nat.reduceLT, Nat.reduceAdd, Nat.reduceSub, Nat.reduceLeDiff, List.reduceReplicate, Int.reduceToNat]
  have hU := u64_range w
  have hlo := bytesLo_len w k
  rw [hlo]
  refine ⟨fun hlt => ⟨by decide, by unfold roomy; omega, by decide, ?_⟩, fun hge => ?_⟩
  · refine back (k + 1) (by omega) ?_ rfl (by omega)
    have hp : (0 : Int) < 256 ^ k := Int.pow_pos (by decide)
    have hd0 : 0 ≤ IntKind.u64.wrap w / 256 ^ k := Int.ediv_nonneg hU.1 (by omega)
    have hd1 : IntKind.u64.wrap w / 256 ^ k ≤ IntKind.u64.wrap w := Int.ediv_le_self _ hU.1
    have hb : IntKind.u8.wrap ((IntKind.u64.wrap w / 256 ^ k).tmod 256) = byteAt w (7 - k) := by
      unfold byteAt
      have e1 : (Int.toNat (56 - 8 * ((7 - k : Nat) : Int))) = 8 * k := by omega
      rw [e1, Nat.min_eq_left (by omega), Int.fdiv_eq_ediv_of_nonneg _ (by exact Int.le_of_lt (Int.pow_pos (by decide))), show (2 : Int) ^ (8 * k) = 256 ^ k from by rw [Int.pow_mul]; rfl, Int.tmod_eq_emod_of_nonneg hd0]
      simp [IntKind.wrap, IntKind.bits, IntKind.signed]
    have hq : IntKind.u64.wrap ((IntKind.u64.wrap w / 256 ^ k).tdiv 256) = IntKind.u64.wrap w / 256 ^ (k + 1) := by
      rw [Int.tdiv_eq_ediv_of_nonneg hd0, Int.pow_succ, ← Int.ediv_ediv_of_nonneg (by omega)]
      generalize IntKind.u64.wrap w / 256 ^ k = z at *
      simp [IntKind.wrap, IntKind.bits, IntKind.signed]; omega
    rw [hb, hq, wnext (by omega)]
    rfl
  obtain rfl : k = 8 := by omega
  rw [joinW_eq]
  unfold lamplighterref03_Word.L2
  refine loop2 (σ := Nat) (fun k => .int .u32 (wordN tabL w k c)) (fun k => .int .i64 k) (fun k => []) (fun k => 8 - k) (fun k => k ≤ 8) 0 rfl rfl (Nat.zero_le _) ?_
  intro I2 back2 j hj
  have hr := wordN_range (t := tabL) (w := w) hS.1 hS.2 j
  have hbr := byteAt_range (w := w) (k := j)
  simp only [lamplighterref03_Byte.C, hlo, go_sem, Nat.reduceEqDiff, Nat.reduceLT, Nat.reduceAdd, Nat.reduceSub, Nat.reduceLeDiff, List.reduceReplicate, Int.reduceToNat]
  refine ⟨fun hlt => ⟨by omega, ?_⟩, fun hge => ?_⟩
  · have hg : (bytesLo w 8).getD j 0 = byteAt w j := bytesLo_get w j (by omega)
    rw [hg]
    exact ⟨⟨hr, hbr⟩, back2 (j + 1) (by omega) (by rw [wnext (by omega)]; rfl) rfl (by omega)⟩
  · obtain rfl : j = 8 := by omega
    exact post_val rfl rfl
def lamplighterref03_Of.C : Contract
  | [.sl _ (.ints .i64 l)] => some (false, pD (roomy l.length) (.int .i64 (sumOf l)))
  | _ => none
set_option maxRecDepth 20000 in
theorem lamplighterref03_Of.spec : FSpec Try.prog 75 lamplighterref03_Of.C := by
  refine FSpec.of (ctx_ok (F := [(117, lamplighterref03_Word.C)]) (S := []) (by simpa using lamplighterref03_Word.spec) (by simp) lamplighterref03_Of.loops) lamplighterref03_Of.at lamplighterref03_Of.nm lamplighterref03_Of.bd ?_
  intro vs b S v news e hS
  unfold lamplighterref03_Of.C at e
  split at e
  rotate_left
  · cases e
  cases e
  rw [lamplighterref03_Of.eq]
  unfold lamplighterref03_Of.H
  simp (maxSteps := 4000000) only [go_sem, Nat.reduceEqDiff, Nat.reduceLT, Nat.reduceAdd, Nat.reduceSub, Nat.reduceLeDiff, List.reduceReplicate, Int.reduceToNat, lamplighterref03_Word.C]
  rename_i x l
  unfold roomy at hS
  rw [joinW_eq]
  unfold lamplighterref03_Of.L1
  refine loop2 (σ := Nat) (fun k => .int .u32 ((l.take k).foldl (wordS tabL) 4294967295)) (fun k => .int .i64 k) (fun k => []) (fun k => l.length - k) (fun k => k ≤ l.length) 0 rfl rfl (Nat.zero_le _) ?_
  intro I back k hk
  have hr := sumC_range (l.take k) 4294967295 (by decide) (by decide)
  simp only [lamplighterref03_Word.C, go_sem, Nat.reduceEqDiff, Nat.reduceLT, Nat.reduceAdd, Nat.reduceSub, Nat.reduceLeDiff, List.reduceReplicate, Int.reduceToNat]
  refine ⟨fun hlt => ⟨by omega, hr, back (k + 1) (by omega) ?_ rfl (by omega)⟩, fun hge => ?_⟩
  · rw [wnext (by omega), take_next l k 0 (by omega), List.foldl_append]; rfl
  · obtain rfl : k = l.length := by omega
    rw [List.take_length] at hr ⊢
    have : IntKind.i64.wrap (IntKind.u32.wrap (4294967295 - l.foldl (wordS tabL) 4294967295)) = sumOf l := by
      unfold sumOf sumC
      rw [notI32 hr.1 hr.2]
    rw [this]; exact post_val rfl rfl
end Lam
namespace Lam
open Go Go.Proofs
set_option linter.unusedVariables false
def lamplighterref08_Words.loops : Nat → LInfo
  | _ => ⟨[], [], [], [], []⟩
def lamplighterref08_Words.H (c : Ctx) (t0 : AV) (t1 : AV) (h : List AObj) (K : AOut → List AObj → Prop) : Prop :=
  callW c (.fn (.func 74) [] []) [t0, t1] h (fun t9 h =>
  runD (unD .not t9) h fun t10 h =>
  condW t10
  (K (.ret (.tup [(.sl true (.ints .i64 [])), (.int .i64 1)])) h)
  (runD (buildSliceD T_sl_int 2 [(0, (.int .i64 7015)), (1, t0)] h.length) h fun t12 h =>
  callW c (.fn (.func 75) [] []) [t12] h (fun t13 h =>
  runD (buildSliceD T_sl_int 16 [(0, (.int .i64 7015)), (1, t0), (2, t13), (3, t1), (4, (.int .i64 0)), (5, (.int .i64 0)), (6, (.int .i64 0)), (7, (.int .i64 0)), (8, (.int .i64 0)), (9, (.int .i64 0)), (10, (.int .i64 0)), (11, (.int .i64 0)), (12, (.int .i64 0)), (13, (.int .i64 0)), (14, (.int .i64 0)), (15, (.int .i64 0))] h.length) h fun t17 h =>
  K (.ret (.tup [t17, (.int .i64 0)])) h)
  (fun v h => K (.pan v) h)))
  (fun v h => K (.pan v) h)
def lamplighterref08_Read.loops : Nat → LInfo
  | 4 => ⟨[], [], [], [(3, none), (7, some [22, 29]), (2, none), (5, some [31, 36])], []⟩
  | _ => ⟨[], [], [], [], []⟩
def lamplighterref08_Read.H (c : Ctx) (t0 : AV) (h : List AObj) (K : AOut → List AObj → Prop) : Prop :=
  runD (lenD T_sl_int h t0) h fun t8 h =>
  runD (binD T_int .lss t8 (.int .i64 32)) h fun t9 h =>
  condW t9
  (K (.ret (.tup [(.int .i64 0), (.int .i64 0), (.int .i64 80)])) h)
  (runD (indexAddrD T_sl_int h t0 (.int .i64 1)) h fun t12 h =>
  runD (fitD T_int (loadD h t12)) h fun t13 h =>
  runD (indexAddrD T_sl_int h t0 (.int .i64 3)) h fun t15 h =>
  runD (fitD T_int (loadD h t15)) h fun t16 h =>
  callW c.noS (.fn (.func 17) [] []) [t13, t16] h (fun t17 h =>
  runD (extractD t17 0) h fun t18 h =>
  runD (extractD t17 1) h fun t19 h =>
  runD (binD T_api_Errno .neq t19 (.int .i64 0)) h fun t21 h =>
  joinW (fun (J1 : AV → AV → List AObj → Prop) =>
  guardW t21 false
  (runD (indexAddrD T_sl_int h t0 (.int .i64 1)) h fun t24 h =>
    runD (fitD T_int (loadD h t24)) h fun t25 h =>
    runD (lenD T_sl_int h t0) h fun t27 h =>
    runD (binD T_int .quo t27 (.int .i64 16)) h fun t28 h =>
    runD (binD T_int .neq t25 t28) h fun t29 h =>
    J1 (.bool false) t29 h)
  (J1 (.bool true) .und h))
  (fun t22 t29 h => runD (pickD t22 (.bool true) t29) h fun t30 h =>
  joinW (fun (J2 : AV → AV → List AObj → Prop) =>
  guardW t30 false
  (runD (sliceD T_sl_int h t0 none (some (.int .i64 16)) none) h fun t34 h =>
    callW c (.fn (.func 22) [] []) [t18, t34] h (fun t35 h =>
    runD (unD .not t35) h fun t36 h =>
    J2 (.bool false) t36 h)
    (fun v h => K (.pan v) h))
  (J2 (.bool true) .und h))
  (fun t31 t36 h => runD (pickD t31 (.bool true) t36) h fun t37 h =>
  condW t37
  (K (.ret (.tup [(.int .i64 0), (.int .i64 0), (.int .i64 80)])) h)
  (runD (indexAddrD T_sl_int h t0 (.int .i64 1)) h fun t39 h =>
  runD (fitD T_int (loadD h t39)) h fun t40 h =>
  runD (indexAddrD T_sl_int h t0 (.int .i64 3)) h fun t42 h =>
  runD (fitD T_int (loadD h t42)) h fun t43 h =>
  K (.ret (.tup [t40, t43, (.int .i64 0)])) h))))
  (fun _ _ => False))
def lamplighterref08_Root.loops : Nat → LInfo
  | _ => ⟨[], [], [], [], []⟩
def lamplighterref08_Root.H (c : Ctx) (t0 : AV) (t1 : AV) (h : List AObj) (K : AOut → List AObj → Prop) : Prop :=
  callW c (.fn (.func 74) [] []) [t0, t1] h (fun t8 h =>
  runD (unD .not t8) h fun t9 h =>
  condW t9
  (K (.ret (.tup [(.sl true (.mics [])), (.int .i64 1)])) h)
  (runD (buildD T_api_Micro [(0, (.int .i64 1)), (1, (.int .i64 3)), (2, t1)]) h fun t11 h =>
  runD (buildD T_api_Micro [(0, (.int .i64 2))]) h fun t12 h =>
  runD (buildSliceD T_sl_api_Micro 2 [(0, t11), (1, t12)] h.length) h fun t13 h =>
  K (.ret (.tup [t13, (.int .i64 0)])) h))
  (fun v h => K (.pan v) h)
def lamplighterref08_may.loops : Nat → LInfo
  | 1 => ⟨[], [], [], [(3, none), (2, some [7, 9]), (2, none), (2, some [11, 13]), (2, none), (3, some [15, 18])], []⟩
  | _ => ⟨[], [], [], [], []⟩
def lamplighterref08_may.H (c : Ctx) (t0 : AV) (t1 : AV) (h : List AObj) (K : AOut → List AObj → Prop) : Prop :=
  runD (binD T_int .geq t0 (.int .i64 2)) h fun t6 h =>
  joinW (fun (J1 : AV → AV → List AObj → Prop) =>
  guardW t6 true
  (runD (binD T_int .leq t0 (.int .i64 256)) h fun t9 h =>
    J1 (.bool true) t9 h)
  (J1 (.bool false) .und h))
  (fun t7 t9 h => runD (pickD t7 t9 (.bool false)) h fun t10 h =>
  joinW (fun (J2 : AV → AV → List AObj → Prop) =>
  guardW t10 true
  (runD (binD T_int .geq t1 (.int .i64 1)) h fun t13 h =>
    J2 (.bool true) t13 h)
  (J2 (.bool false) .und h))
  (fun t11 t13 h => runD (pickD t11 t13 (.bool false)) h fun t14 h =>
  joinW (fun (J3 : AV → AV → List AObj → Prop) =>
  guardW t14 true
  (runD (binD T_int .lss t1 t0) h fun t18 h =>
    J3 (.bool true) t18 h)
  (J3 (.bool false) .und h))
  (fun t15 t18 h => runD (pickD t15 t18 (.bool false)) h fun t19 h =>
  K (.ret t19) h)))
theorem lamplighterref08_Words.eq (F : List (FuncId × Contract)) (S : List (FuncId × Con)) (t0 t1 : AV) (h : List AObj) (K : AOut → List AObj → Prop) : funW (ctx F S lamplighterref08_Words.loops) Try.f17 [t0, t1] h K = lamplighterref08_Words.H (ctx F S lamplighterref08_Words.loops) t0 t1 h K := by kernel_rfl
theorem lamplighterref08_Read.eq (F : List (FuncId × Contract)) (S : List (FuncId × Con)) (t0 : AV) (h : List AObj) (K : AOut → List AObj → Prop) : funW (ctx F S lamplighterref08_Read.loops) Try.f19 [t0] h K = lamplighterref08_Read.H (ctx F S lamplighterref08_Read.loops) t0 h K := by kernel_rfl
theorem lamplighterref08_Root.eq (F : List (FuncId × Contract)) (S : List (FuncId × Con)) (t0 t1 : AV) (h : List AObj) (K : AOut → List AObj → Prop) : funW (ctx F S lamplighterref08_Root.loops) Try.f21 [t0, t1] h K = lamplighterref08_Root.H (ctx F S lamplighterref08_Root.loops) t0 t1 h K := by kernel_rfl
theorem lamplighterref08_may.eq (F : List (FuncId × Contract)) (S : List (FuncId × Con)) (t0 t1 : AV) (h : List AObj) (K : AOut → List AObj → Prop) : funW (ctx F S lamplighterref08_may.loops) Try.f74 [t0, t1] h K = lamplighterref08_may.H (ctx F S lamplighterref08_may.loops) t0 t1 h K := by kernel_rfl
theorem lamplighterref08_Words.at : Try.prog.funcs[17]? = some Try.f17 := by kernel_rfl
theorem lamplighterref08_Words.nm : (Try.f17.name == "runtime.NumGoroutine") = false := by kernel_rfl
theorem lamplighterref08_Words.bd : Try.f17.body.isNone = false := by kernel_rfl
theorem lamplighterref08_Read.at : Try.prog.funcs[19]? = some Try.f19 := by kernel_rfl
theorem lamplighterref08_Read.nm : (Try.f19.name == "runtime.NumGoroutine") = false := by kernel_rfl
theorem lamplighterref08_Read.bd : Try.f19.body.isNone = false := by kernel_rfl
theorem lamplighterref08_Root.at : Try.prog.funcs[21]? = some Try.f21 := by kernel_rfl
theorem lamplighterref08_Root.nm : (Try.f21.name == "runtime.NumGoroutine") = false := by kernel_rfl
theorem lamplighterref08_Root.bd : Try.f21.body.isNone = false := by kernel_rfl
theorem lamplighterref08_may.at : Try.prog.funcs[74]? = some Try.f74 := by kernel_rfl
theorem lamplighterref08_may.nm : (Try.f74.name == "runtime.NumGoroutine") = false := by kernel_rfl
theorem lamplighterref08_may.bd : Try.f74.body.isNone = false := by kernel_rfl
end Lam
namespace Lam
open Go Go.Proofs
set_option linter.unusedVariables false
set_option linter.unnecessarySimpa false
set_option linter.unusedSimpArgs false
def lamplighterref08_may.C : Contract
  | [.int .i64 b, .int .i64 r] => some (false, pD True (.bool (mayB b r)))
  | _ => none
set_option maxRecDepth 20000 in
theorem lamplighterref08_may.spec : FSpec Try.prog 74 lamplighterref08_may.C := by
  refine FSpec.of (ctx_ok (F := []) (S := []) (by simp) (by simp) lamplighterref08_may.loops) lamplighterref08_may.at lamplighterref08_may.nm lamplighterref08_may.bd ?_
  intro vs b S v news e hS
  unfold lamplighterref08_may.C at e
  split at e
  rotate_left
  · cases e
  cases e
  rw [lamplighterref08_may.eq]
  unfold lamplighterref08_may.H
  simp (maxSteps := 4000000) only [go_sem, Nat.reduceEqDiff, Nat.reduceLT, Nat.reduceAdd, Nat.reduceSub, Nat.reduceLeDiff, List.reduceReplicate, Int.reduceToNat]
  exact post_val rfl rfl
def lamplighterref08_Words.C : Contract
  | [.int .i64 b, .int .i64 r] => some (false, pD True (if mayB b r = true then .tup [.sl false (.ints .i64 (superW b r)), .int .i64 0] else .tup [.sl false (.ints .i64 []), .int .i64 1]))
  | _ => none
set_option maxRecDepth 20000 in
theorem lamplighterref08_Words.spec : FSpec Try.prog 17 lamplighterref08_Words.C := by
  refine FSpec.of (ctx_ok (F := [(74, lamplighterref08_may.C), (75, lamplighterref03_Of.C)]) (S := []) (by simpa using ⟨lamplighterref08_may.spec, lamplighterref03_Of.spec⟩) (by simp) lamplighterref08_Words.loops) lamplighterref08_Words.at lamplighterref08_Words.nm lamplighterref08_Words.bd ?_
  intro vs b S v news e hS
  unfold lamplighterref08_Words.C at e
  split at e
  rotate_left
  · cases e
  cases e
  rw [lamplighterref08_Words.eq]
  unfold lamplighterref08_Words.H
  simp (maxSteps := 4000000) only [go_sem, Nat.reduceEqDiff, Nat.reduceLT, Nat.reduceAdd, Nat.reduceSub, Nat.reduceLeDiff, List.reduceReplicate, Int.reduceToNat, lamplighterref08_may.C, lamplighterref03_Of.C]
  refine ⟨fun h => ?_, fun h => ?_⟩
  · simp only [h, Bool.false_eq_true, if_false]; exact post_val rfl rfl
  · refine ⟨by unfold roomy; decide, ?_⟩
    simp only [h, if_true]; exact post_val rfl rfl
def lamplighterref08_Root.C : Contract
  | [.int .i64 b, .int .i64 r] => some (false, pD True (if mayB b r = true then .tup [.sl false (.mics [⟨1, 3, r⟩, ⟨2, 0, 0⟩]), .int .i64 0] else .tup [.sl false (.mics []), .int .i64 1]))
  | _ => none
set_option maxRecDepth 20000 in
theorem lamplighterref08_Root.spec : FSpec Try.prog 21 lamplighterref08_Root.C := by
  refine FSpec.of (ctx_ok (F := [(74, lamplighterref08_may.C)]) (S := []) (by simpa using lamplighterref08_may.spec) (by simp) lamplighterref08_Root.loops) lamplighterref08_Root.at lamplighterref08_Root.nm lamplighterref08_Root.bd ?_
  intro vs b S v news e hS
  unfold lamplighterref08_Root.C at e
  split at e
  rotate_left
  · cases e
  cases e
  rw [lamplighterref08_Root.eq]
  unfold lamplighterref08_Root.H
  simp (maxSteps := 4000000) only [go_sem, Nat.reduceEqDiff, Nat.reduceLT, Nat.reduceAdd, Nat.reduceSub, Nat.reduceLeDiff, List.reduceReplicate, Int.reduceToNat, lamplighterref08_may.C]
  refine ⟨fun h => ?_, fun h => ?_⟩
  · simp only [h, Bool.false_eq_true, if_false]; exact post_val rfl rfl
  · simp only [h, if_true]; exact post_val rfl rfl
def lamplighterref08_Read.C : Contract
  | [.sl _ (.ints .i64 l)] => some (false, pD (roomy l.length) (sreadV l))
  | _ => none
theorem superW_hi (b r : Int) {i : Nat} (h : 4 ≤ i) : (superW b r).getD i 0 = 0 := by
  unfold superW
  rw [getD_append_right _ _ _ _ (by simpa using h)]; exact getD_rep _ _
theorem reads_words {l : List Int} (h : 32 ≤ l.length) : readB l = (mayB (l.getD 1 0) (l.getD 3 0) && decide (l.getD 1 0 = ((l.length / 16 : Nat) : Int)) && decide (superW (l.getD 1 0) (l.getD 3 0) = l.take 16)) := by
  have hlw : ∀ b r, (superW b r).length = 16 := fun b r => by simp [superW]
  have hlt : (l.take 16).length = 16 := by simp; omega
  rw [Bool.eq_iff_iff]
  unfold readB headB
  simp only [Bool.and_eq_true, decide_eq_true_eq, List.all_eq_true]
  constructor
  · rintro ⟨⟨h0, ⟨⟨h1, h2⟩, h3⟩, h4⟩, h5⟩
    refine ⟨⟨h3, h4⟩, ?_⟩
    refine ext_d 0 (by rw [hlw, hlt]) fun i hi => ?_
    rw [hlw] at hi
    rw [getD_take, if_pos hi]
    rcases i with _|_|_|_|i
    · exact h1.symm
    · rfl
    · exact h2.symm
    · rfl
    · rw [superW_hi _ _ (by omega)]
      have hm : l.getD (i + 1 + 1 + 1 + 1) 0 ∈ (l.drop 4).take 12 := by
        have := getD_mem ((l.drop 4).take 12) i 0 (by simp; omega)
        rw [getD_take, if_pos (by omega), getD_drop, show 4 + i = i + 1 + 1 + 1 + 1 from by omega] at this
        exact this
      exact (h5 _ hm).symm
  · rintro ⟨⟨h3, h4⟩, h5⟩
    have hg : ∀ i, i < 16 → (superW (l.getD 1 0) (l.getD 3 0)).getD i 0 = l.getD i 0 := fun i hi => by
      rw [h5, getD_take, if_pos hi]
    refine ⟨⟨h, ⟨⟨(hg 0 (by omega)).symm, (hg 2 (by omega)).symm⟩, h3⟩, h4⟩, fun x hx => ?_⟩
    obtain ⟨i, hi, rfl⟩ := List.getElem_of_mem hx
    have hi' : i < 12 := by rw [List.length_take] at hi; omega
    have := hg (4 + i) (by omega)
    rw [superW_hi _ _ (by omega)] at this
    have e : ((l.drop 4).take 12)[i] = ((l.drop 4).take 12).getD i 0 := by
      rw [List.getD_eq_getElem?_getD, List.getElem?_eq_getElem hi]; rfl
    rw [e, getD_take, if_pos hi', getD_drop, ← this]
set_option maxRecDepth 20000 in
theorem lamplighterref08_Read.spec : FSpec Try.prog 19 lamplighterref08_Read.C := by
  refine FSpec.of (ctx_ok (F := [(17, lamplighterref08_Words.C), (22, lamplighterref02_Numbers.C)]) (S := []) (by simpa using ⟨lamplighterref08_Words.spec, lamplighterref02_Numbers.spec⟩) (by simp) lamplighterref08_Read.loops) lamplighterref08_Read.at lamplighterref08_Read.nm lamplighterref08_Read.bd ?_
  intro vs b S v news e hS
  unfold lamplighterref08_Read.C at e
  split at e
  rotate_left
  · cases e
  cases e
  rw [lamplighterref08_Read.eq]
  unfold lamplighterref08_Read.H
  simp (maxSteps := 4000000) only [go_sem, Nat.reduceEqDiff, Nat.reduceLT, Nat.reduceAdd, Nat.reduceSub, Nat.reduceLeDiff, List.reduceReplicate, Int.reduceToNat, lamplighterref08_Words.C, lamplighterref02_Numbers.C]
  rename_i l
  unfold roomy at hS
  have hw : IntKind.i64.wrap ((l.length : Int).tdiv 16) = ((l.length / 16 : Nat) : Int) := by rw [tdiv16]; apply w64 <;> omega
  have hlw : ∀ b r, (superW b r).length = 16 := fun b r => by simp [superW]
  refine ⟨fun h => ?_, fun h => ?_⟩
  · apply read_bad
    have : ¬ 32 ≤ l.length := by omega
    simp [readB, this]
  have hrw := reads_words (l := l) (by omega)
  have good : readB l = true → ∀ h, Post false (sreadV l) [] (.ret (.tup [.int .i64 (l.getD 1 0), .int .i64 (l.getD 3 0), .int .i64 0])) h := fun hb h => by
    unfold sreadV; rw [if_pos hb]; exact post_val rfl rfl
  refine ⟨by omega, by omega, ?_⟩
  cases hm : mayB (l.getD 1 0) (l.getD 3 0) with
  | false =>
    rw [hm] at hrw
    simp only [joinW_eq, guard_tt, guard_tf, guard_ft, guard_ff, Int.reduceEq, Int.reduceLT, Int.reduceLE, decide_false, decide_true, Bool.not_false, Bool.not_true, Bool.not_not, not_true_eq_false, not_false_eq_true, true_implies, false_implies, implies_true, and_true, true_and, reduceCtorEq, Bool.and_self, Bool.or_self, Bool.and_true, Bool.true_and, Bool.false_eq_true, if_true, if_false, go_sem, Nat.reduceEqDiff, Nat.reduceLT, Nat.reduceAdd, Nat.reduceSub, Nat.reduceLeDiff, List.reduceReplicate, Int.reduceToNat]
    exact read_bad l hrw _
  | true =>
    rw [hm] at hrw
    simp only [hw, lamplighterref02_Numbers.C, hlw, joinW_eq, guard_tt, guard_tf, guard_ft, guard_ff, Int.reduceEq, Int.reduceLT, Int.reduceLE, decide_false, decide_true, Bool.not_false, Bool.not_true, Bool.not_not, not_true_eq_false, not_false_eq_true, true_implies, false_implies, implies_true, and_true, true_and, reduceCtorEq, Bool.and_self, Bool.or_self, Bool.and_true, Bool.true_and, Bool.false_eq_true, if_true, if_false, go_sem, Nat.reduceEqDiff, Nat.reduceLT, Nat.reduceAdd, Nat.reduceSub, Nat.reduceLeDiff, List.reduceReplicate, Int.reduceToNat]
    cases h1 : decide (l.getD 1 0 = ((l.length / 16 : Nat) : Int)) with
    | false =>
      rw [h1] at hrw
      simp only [Bool.not_false, guard_tf]
      exact ⟨by omega, read_bad l hrw _⟩
    | true =>
      rw [h1] at hrw
      simp only [Bool.not_true, guard_ff]
      refine ⟨by omega, by omega, by unfold roomy; omega, fun hne => ?_, fun heq => ?_⟩
      · rw [decide_eq_false hne] at hrw; exact read_bad l hrw _
      · rw [decide_eq_true heq] at hrw; exact ⟨by omega, by omega, good hrw _⟩
end Lam
