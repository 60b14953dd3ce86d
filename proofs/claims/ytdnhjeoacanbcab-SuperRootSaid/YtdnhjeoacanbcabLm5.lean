/- What functions of the program come to, each proved from its code. -/
import Derived.Test.YtdnhjeoacanbcabLm4
set_option linter.unnecessarySimpa false
set_option linter.unusedSectionVars false
namespace Lam
open Go Go.Proofs
set_option linter.unusedVariables false
set_option linter.unusedSimpArgs false
theorem sum_table_L2 (c t3 : Int) (xs : List Int) (h : List AObj) (J : AV → AV → AV → AV → List AObj → Prop) (K : AOut → List AObj → Prop) (hh : h = [AObj.row .arr 0 (.ints .u32 xs)])
    (hJ : J (.ptr 0 []) (.int .i64 t3) (.int .u32 (bitN 8 c)) (.int .i64 t3) h) :
    sum_table.L2 (ctx [] [] sum_table.loops) J K [.int .u32 c, .int .i64 0] h 1 (.ptr 0 []) (.int .i64 t3) (.int .i64 t3) := by
  unfold sum_table.L2
  refine ⟨fun n lv h' => ∃ k : Nat, k + n = 8 ∧ lv = [.int .u32 (bitN k c), .int .i64 k] ∧ h' = h, ⟨8, 0, rfl, rfl, rfl⟩, ?_⟩
  rintro n h' t2 t8 ⟨k, hk, hlv, rfl⟩
  simp only [List.cons.injEq, and_true] at hlv
  obtain ⟨rfl, rfl⟩ := hlv
  subst hh
  simp only [go_sem, Nat.reduceLT]
  refine ⟨fun hlt => ⟨by decide, n - 1, by omega, k + 1, by omega, ?_⟩, fun hge => ?_⟩
  · rw [w64 (by omega) (by omega)]
    rfl
  · have : k = 8 := by omega
    subst this; exact hJ

theorem sum_table_L1 (J : AV → List AObj → Prop) (K : AOut → List AObj → Prop) (hJ : J (.ptr 0 []) [AObj.row .arr 0 (.ints .u32 tabL)]) :
    sum_table.L1 (ctx [] [] sum_table.loops) J K [.int .i64 0] [AObj.row .arr 0 (.ints .u32 (List.replicate 256 0))] 1 (.ptr 0 []) := by
  unfold sum_table.L1
  refine ⟨fun n lv h' => ∃ k : Nat, k + n = 256 ∧ lv = [.int .i64 k] ∧ h' = [AObj.row .arr 0 (.ints .u32 ((List.range k).map tabE ++ List.replicate n 0))], ⟨256, 0, rfl, rfl, rfl⟩, ?_⟩
  rintro n h' t3 ⟨k, hk, hlv, rfl⟩
  simp only [List.cons.injEq, and_true] at hlv
  subst hlv
  simp only [go_sem, Nat.reduceLT]
  refine ⟨fun hlt => ?_, fun hge => ?_⟩
  · simp only [joinW_eq]
    apply sum_table_L2 _ _ _ _ _ _ rfl
    have hlen : ((List.range k).map tabE ++ List.replicate n 0).length = 256 := by simp; omega
    simp only [go_sem, Nat.reduceLT, hlen, Int.toNat_natCast]
    refine ⟨by omega, by omega, n - 1, by omega, k + 1, by omega, ?_, ?_⟩
    · rw [w64 (by omega) (by omega)]; rfl
    · obtain ⟨m, rfl⟩ : ∃ m, n = m + 1 := ⟨n - 1, by omega⟩
      simp [List.range_succ, List.replicate_succ, tabE]
  · have hn : n = 0 := by omega
    have hk : k = 256 := by omega
    subst hn hk
    simpa [tabL] using hJ

theorem sum_table_vc : sum_table.H (ctx [] [] sum_table.loops) [] (Post false (.arr (.ints .u32 tabL)) []) := by
  unfold sum_table.H
  simp only [go_sem, Nat.reduceLT]
  simp only [joinW_eq]
  apply sum_table_L1
  have : tabL.length = 256 := by simp [tabL]
  simp only [go_sem, this]
  exact post_val rfl rfl

def sum_table.C : Contract
  | [] => some (false, pD True (.arr (.ints .u32 tabL)))
  | _ => none
theorem sum_table.spec : FSpec Try.prog 90 sum_table.C := by
  refine FSpec.of (ctx_ok (F := []) (S := []) (by simp) (by simp) sum_table.loops) sum_table.at sum_table.nm sum_table.bd ?_
  intro vs b S v news e hS
  unfold sum_table.C at e
  split at e
  rotate_left
  · cases e
  rw [sum_table.eq]
  cases e
  exact sum_table_vc
def sum_with.K : Con := fun args h K => match args with
  | [a0, a1, a2] => sum_with.H (ctx [] [] sum_with.loops) a0 a1 a2 h K
  | _ => False
theorem sum_with.spec : SSpec Try.prog 96 sum_with.K := by
  refine SSpec.of (ctx_ok (F := []) (S := []) (by simp) (by simp) sum_with.loops) sum_with.at sum_with.nm sum_with.bd ?_
  intro args h K hC
  unfold sum_with.K at hC
  split at hC
  · rw [sum_with.eq]; exact hC
  · exact hC.elim
theorem sum_with_vc (t : List Int) (ht : t.length = 256) (c b : Int) (h : List AObj) (K : AOut → List AObj → Prop) (id : Nat) (hid : h[id]? = some (.row .arr 0 (.ints .u32 t))) (hK : K (.ret (.int .u32 (withS t c b))) h) :
    sum_with.K [.ptr id [], .int .u32 c, .int .u8 b] h K := by
  unfold sum_with.K
  simp only
  unfold sum_with.H
  simp only [go_sem, hid, ht]
  have hr : 0 ≤ xorI .u8 (IntKind.u8.wrap c) b ∧ xorI .u8 (IntKind.u8.wrap c) b < 256 := u8_range _
  exact ⟨by decide, hr, (Int.toNat_lt hr.1).2 hr.2, hK⟩

def sum_word.K : Con := fun args h K => match args with
  | [a0, a1, a2] => sum_word.H (ctx [] [(96, sum_with.K)] sum_word.loops) a0 a1 a2 h K
  | _ => False
theorem sum_word.spec : SSpec Try.prog 91 sum_word.K := by
  refine SSpec.of (ctx_ok (F := []) (S := [(96, sum_with.K)]) (by simp) (by simpa using sum_with.spec) sum_word.loops) sum_word.at sum_word.nm sum_word.bd ?_
  intro args h K hC
  unfold sum_word.K at hC
  split at hC
  · rw [sum_word.eq]; exact hC
  · exact hC.elim
theorem sum_word_vc (t : List Int) (ht : t.length = 256) (c w : Int) (h : List AObj) (K : AOut → List AObj → Prop) (hh : h = [.row .arr 0 (.ints .u32 t)]) (hK : K (.ret (.int .u32 (wordS t c w))) h) :
    sum_word.K [.ptr 0 [], .int .u32 c, .int .i64 w] h K := by
  unfold sum_word.K
  simp only
  unfold sum_word.H
  subst hh
  simp only [joinW_eq, go_sem, Nat.reduceLT]
  unfold sum_word.L1
  refine ⟨fun n lv h' => ∃ k : Nat, k + n = 8 ∧ lv = [.int .u32 (wordN t w k c), .int .i64 (56 - 8 * k)] ∧ h' = [.row .arr 0 (.ints .u32 t)], ⟨8, 0, rfl, rfl, rfl⟩, ?_⟩
  rintro n h' t1 t7 ⟨k, hk, hlv, rfl⟩
  simp only [List.cons.injEq, and_true] at hlv
  obtain ⟨rfl, rfl⟩ := hlv
  simp only [go_sem, Nat.reduceLT, Nat.reduceEqDiff]
  refine ⟨fun hlt => ?_, fun hge => ?_⟩
  · refine ⟨hlt, ?_⟩
    apply sum_with_vc t ht _ _ _ _ _ rfl
    simp only [go_sem, Nat.reduceLT]
    refine ⟨n - 1, by omega, k + 1, by omega, ?_⟩
    rw [w64 (by omega) (by omega)]
    simp only [wordN]
    congr 3
    omega
  · have : k = 8 := by omega
    subst this; exact hK

def sum_Of.C : Contract
  | [.sl _ (.ints .i64 l)] => some (false, pD (roomy l.length) (.int .i64 (sumOf l)))
  | _ => none
theorem sum_Of.spec : FSpec Try.prog 81 sum_Of.C := by
  refine FSpec.of (ctx_ok (F := [(90, sum_table.C)]) (S := [(91, sum_word.K)]) (by simpa using sum_table.spec) (by simpa using sum_word.spec) sum_Of.loops) sum_Of.at sum_Of.nm sum_Of.bd ?_
  intro vs b S v news e hS
  unfold sum_Of.C at e
  split at e
  rotate_left
  · cases e
  rw [sum_Of.eq]
  rename_i x l
  cases e
  unfold roomy at hS
  unfold sum_Of.H
  have htl : tabL.length = 256 := tabL_len
  simp only [go_sem, Nat.reduceEqDiff, Nat.reduceLT, sum_table.C, htl, List.length_replicate, joinW_eq]
  unfold sum_Of.L1
  refine ⟨fun n lv h' => ∃ k : Nat, k + n = l.length ∧ lv = [.int .u32 ((l.take k).foldl (wordS tabL) 4294967295), .int .i64 k] ∧ h' = [.row .arr 0 (.ints .u32 tabL)], ⟨l.length, 0, by omega, rfl, rfl⟩, ?_⟩
  rintro n h' t4 t10 ⟨k, hk, hlv, rfl⟩
  simp only [List.cons.injEq, and_true] at hlv
  obtain ⟨rfl, rfl⟩ := hlv
  simp only [go_sem, Nat.reduceLT, Nat.reduceEqDiff]
  refine ⟨fun hlt => ?_, fun hge => ?_⟩
  · refine ⟨by omega, ?_⟩
    apply sum_word_vc tabL htl _ _ _ _ rfl
    simp only [go_sem, Nat.reduceLT]
    refine ⟨n - 1, by omega, k + 1, by omega, ?_⟩
    rw [w64 (by omega) (by omega)]
    have hkl : k < l.length := by omega
    have : l.take (k + 1) = l.take k ++ [l.getD k 0] := by
      rw [List.take_add_one, List.getElem?_eq_getElem hkl, List.getD_eq_getElem?_getD, List.getElem?_eq_getElem hkl]; rfl
    rw [this, List.foldl_append]
    rfl
  · have : k = l.length := by omega
    subst this
    rw [List.take_length]
    exact post_val rfl rfl
end Lam
namespace Lam
open Go Go.Proofs
set_option linter.unusedVariables false
def pmem_Check.loops : Nat → LInfo
  | 1 => ⟨[], [], [], [(8, none), (5, some [14, 19])], []⟩
  | 6 => ⟨[28], [false], [1, 3, 4, 26, 27], [], []⟩
  | 8 => ⟨[], [], [], [(4, none), (5, some [35, 40]), (2, none), (9, some [42, 51])], []⟩
  | 10 => ⟨[], [], [], [(10, none), (3, some [62, 65])], []⟩
  | _ => ⟨[], [], [], [], []⟩
def pmem_Check.L1 (c : Ctx) (J2 : AV → AV → List AObj → Prop) (K : AOut → List AObj → Prop) (lv : List AV) (h0 : List AObj) (n0 : Nat) (c1 : AV) (c3 : AV) (c4 : AV) (c26 : AV) (c27 : AV) : Prop :=
  ∃ I : Nat → List AV → List AObj → Prop, (∃ n, I n lv h0) ∧ ∀ n h, ∀ t28, I n [t28] h →
    runD (binD T_int .lss t28 c27) h fun t29 h =>
    condW t29
    (runD (indexAddrD T_sl_api_Pending h c26 t28) h fun t30 h =>
    runD (fitD T_api_Pending (loadD h t30)) h fun t31 h =>
    allocW T_api_Pending h fun t6 h =>
    runH (storeH T_api_Pending h t6 t31) h fun _ h =>
    runD (fieldAddrD T_api_Pending t6 0) h fun t32 h =>
    runD (fitD T_int (loadD h t32)) h fun t33 h =>
    runD (binD T_int .lss t33 (.int .i64 0)) h fun t34 h =>
    joinW (fun (J3 : AV → AV → List AObj → Prop) =>
    guardW t34 false
    (runD (fieldAddrD T_api_Pending t6 0) h fun t36 h =>
      runD (fitD T_int (loadD h t36)) h fun t37 h =>
      runD (lenD T_sl_int h c3) h fun t39 h =>
      runD (binD T_int .geq t37 t39) h fun t40 h =>
      J3 (.bool false) t40 h)
    (J3 (.bool true) .und h))
    (fun t35 t40 h => runD (pickD t35 (.bool true) t40) h fun t41 h =>
    joinW (fun (J4 : AV → AV → List AObj → Prop) =>
    guardW t41 false
    (runD (fieldAddrD T_api_Pending t6 2) h fun t43 h =>
      runD (fitD T_bool (loadD h t43)) h fun t44 h =>
      joinW (fun (J5 : AV → AV → List AObj → Prop) =>
      guardW t44 true
      (runD (fieldAddrD T_api_Pending t6 0) h fun t47 h =>
        runD (fitD T_int (loadD h t47)) h fun t48 h =>
        runD (binD T_int .quo t48 (.int .i64 8)) h fun t49 h =>
        runD (lookupD T_map_int_bool h c4 t49) h fun t50 h =>
        J5 (.bool true) t50 h)
      (J5 (.bool false) .und h))
      (fun t45 t50 h => runD (pickD t45 t50 (.bool false)) h fun t51 h =>
      J4 (.bool false) t51 h))
    (J4 (.bool true) .und h))
    (fun t42 t51 h => runD (pickD t42 (.bool true) t51) h fun t52 h =>
    condW t52
    (K (.ret (.bool false)) h)
    (runD (fieldAddrD T_api_Pending t6 0) h fun t54 h =>
    runD (fitD T_int (loadD h t54)) h fun t55 h =>
    runD (binD T_int .quo t55 (.int .i64 8)) h fun t56 h =>
    runD (fieldAddrD T_api_Pending t6 0) h fun t58 h =>
    runD (fitD T_int (loadD h t58)) h fun t59 h =>
    runD (binD T_int .quo t59 (.int .i64 8)) h fun t60 h =>
    runD (lookupD T_map_int_bool h c4 t60) h fun t61 h =>
    joinW (fun (J6 : AV → AV → List AObj → Prop) =>
    guardW t61 false
    (runD (fieldAddrD T_api_Pending t6 2) h fun t63 h =>
      runD (fitD T_bool (loadD h t63)) h fun t64 h =>
      runD (unD .not t64) h fun t65 h =>
      J6 (.bool false) t65 h)
    (J6 (.bool true) .und h))
    (fun t62 t65 h => runD (pickD t62 (.bool true) t65) h fun t66 h =>
    runH (mapSetH T_map_int_bool h c4 t56 t66) h fun _ h =>
    runD (fieldAddrD T_api_Pending t6 0) h fun t68 h =>
    runD (fitD T_int (loadD h t68)) h fun t69 h =>
    runD (fieldAddrD T_api_Pending t6 1) h fun t70 h =>
    runD (fitD T_int (loadD h t70)) h fun t71 h =>
    runD (indexAddrD T_sl_int h c3 t69) h fun t72 h =>
    runH (storeH T_int h t72 t71) h fun _ h =>
    runD (binD T_int .add t28 (.int .i64 1)) h fun t73 h =>
    (∃ m, m < n ∧ I m (AV.norms n0 h [t73]) (normH n0 h)) ∧ AV.norms n0 h [c1, c3, c4, c26, c27] = [c1, c3, c4, c26, c27])))))
    (J2 c1 c3 h)
def pmem_Check.H (c : Ctx) (t0 : AV) (h : List AObj) (K : AOut → List AObj → Prop) : Prop :=
  boxW T_api_Mem t0 h fun t1 h =>
  runD (fieldAddrD T_api_Mem t1 0) h fun t7 h =>
  runD (fitD T_sl_int (loadD h t7)) h fun t8 h =>
  runD (lenD T_sl_int h t8) h fun t9 h =>
  runD (fieldAddrD T_api_Mem t1 1) h fun t10 h =>
  runD (fitD T_sl_int (loadD h t10)) h fun t11 h =>
  runD (lenD T_sl_int h t11) h fun t12 h =>
  runD (binD T_int .neq t9 t12) h fun t13 h =>
  joinW (fun (J1 : AV → AV → List AObj → Prop) =>
  guardW t13 false
  (runD (fieldAddrD T_api_Mem t1 0) h fun t15 h =>
    runD (fitD T_sl_int (loadD h t15)) h fun t16 h =>
    runD (lenD T_sl_int h t16) h fun t17 h =>
    callW c (.fn (.func 54) [] []) [t17] h (fun t18 h =>
    runD (unD .not t18) h fun t19 h =>
    J1 (.bool false) t19 h)
    (fun v h => K (.pan v) h))
  (J1 (.bool true) .und h))
  (fun t14 t19 h => runD (pickD t14 (.bool true) t19) h fun t20 h =>
  condW t20
  (K (.ret (.bool false)) h)
  (runD (fieldAddrD T_api_Mem t1 1) h fun t21 h =>
  runD (fitD T_sl_int (loadD h t21)) h fun t22 h =>
  callW c (.fn (.func 55) [] []) [t22] h (fun t23 h =>
  runD (makeMapD T_map_int_bool h.length) h fun t24 h =>
  runD (fieldAddrD T_api_Mem t1 2) h fun t25 h =>
  runD (fitD T_sl_api_Pending (loadD h t25)) h fun t26 h =>
  runD (lenD T_sl_api_Pending h t26) h fun t27 h =>
  joinW (fun (J2 : AV → AV → List AObj → Prop) =>
  promV [false] [(.int .i64 0)] h fun lv h => pmem_Check.L1 c J2 K (AV.norms h.length h lv) (normH h.length h) h.length (AV.norm h.length h t1) (AV.norm h.length h t23) (AV.norm h.length h t24) (AV.norm h.length h t26) (AV.norm h.length h t27))
  (fun t1 t3 h => runD (fieldAddrD T_api_Mem t1 0) h fun t75 h =>
  runD (fitD T_sl_int (loadD h t75)) h fun t76 h =>
  callW c (.fn (.func 56) [] []) [t3, t76] h (fun t77 h =>
  K (.ret t77) h)
  (fun v h => K (.pan v) h)))
  (fun v h => K (.pan v) h)))
def pmem_New.loops : Nat → LInfo
  | _ => ⟨[], [], [], [], []⟩
def pmem_New.H (c : Ctx) (t0 : AV) (h : List AObj) (K : AOut → List AObj → Prop) : Prop :=
  allocW T_api_Mem h fun t2 h =>
  runD (lenD T_sl_int h t0) h fun t5 h =>
  callW c (.fn (.func 54) [] []) [t5] h (fun t6 h =>
  runD (unD .not t6) h fun t7 h =>
  condW t7
  (runD (buildD T_api_Mem []) h fun t8 h =>
    runH (storeH T_api_Mem h t2 t8) h fun _ h =>
    loadRes (fitD T_api_Mem (loadD h t2)) fun r0 => K (.ret (.tup [r0, (.int .i64 40)])) h)
  (callW c (.fn (.func 55) [] []) [t0] h (fun t10 h =>
  callW c (.fn (.func 55) [] []) [t0] h (fun t12 h =>
  runD (buildD T_api_Mem [(0, t10), (1, t12)]) h fun t13 h =>
  runH (storeH T_api_Mem h t2 t13) h fun _ h =>
  loadRes (fitD T_api_Mem (loadD h t2)) fun r0 => K (.ret (.tup [r0, (.int .i64 0)])) h)
  (fun v h => K (.pan v) h))
  (fun v h => K (.pan v) h)))
  (fun v h => K (.pan v) h)
def pmem_sized.loops : Nat → LInfo
  | 1 => ⟨[], [], [], [(3, none), (3, some [5, 8])], []⟩
  | _ => ⟨[], [], [], [], []⟩
def pmem_sized.H (c : Ctx) (t0 : AV) (h : List AObj) (K : AOut → List AObj → Prop) : Prop :=
  runD (binD T_int .leq t0 (.int .i64 4096)) h fun t4 h =>
  joinW (fun (J1 : AV → AV → List AObj → Prop) =>
  guardW t4 true
  (runD (binD T_int .rem t0 (.int .i64 8)) h fun t7 h =>
    runD (binD T_int .eql t7 (.int .i64 0)) h fun t8 h =>
    J1 (.bool true) t8 h)
  (J1 (.bool false) .und h))
  (fun t5 t8 h => runD (pickD t5 t8 (.bool false)) h fun t9 h =>
  K (.ret t9) h)
def pmem_Crash.loops : Nat → LInfo
  | 5 => ⟨[15], [false], [2, 6, 13, 14], [], []⟩
  | _ => ⟨[], [], [], [], []⟩
def pmem_Crash.L1 (c : Ctx) (J1 : AV → AV → List AObj → Prop) (K : AOut → List AObj → Prop) (lv : List AV) (h0 : List AObj) (n0 : Nat) (c2 : AV) (c6 : AV) (c13 : AV) (c14 : AV) : Prop :=
  ∃ I : Nat → List AV → List AObj → Prop, (∃ n, I n lv h0) ∧ ∀ n h, ∀ t15, I n [t15] h →
    runD (binD T_int .lss t15 c14) h fun t16 h =>
    condW t16
    (runD (indexAddrD T_sl_int h c13 t15) h fun t18 h =>
    runD (fitD T_int (loadD h t18)) h fun t19 h =>
    runD (fitD T_map_int_int (loadD h c6)) h fun t20 h =>
    runH (mapSetH T_map_int_int h t20 t15 t19) h fun _ h =>
    runD (binD T_int .add t15 (.int .i64 1)) h fun t23 h =>
    (∃ m, m < n ∧ I m (AV.norms n0 h [t23]) (normH n0 h)) ∧ AV.norms n0 h [c2, c6, c13, c14] = [c2, c6, c13, c14])
    (J1 c2 c6 h)
def pmem_Crash.H (c : Ctx) (t0 : AV) (t1 : AV) (h : List AObj) (K : AOut → List AObj → Prop) : Prop :=
  boxW T_api_Mem t0 h fun t2 h =>
  runD (fitD T_api_Mem (loadD h t2)) h fun t9 h =>
  callW c (.fn (.func 19) [] []) [t9] h (fun t10 h =>
  runD (unD .not t10) h fun t11 h =>
  condW t11
  (K (.ret (.tup [(.sl true (.ints .i64 [])), (.int .i64 40)])) h)
  (runD (makeMapD T_map_int_int h.length) h fun t12 h =>
  allocW T_map_int_int h fun t6 h =>
  runH (storeH T_map_int_int h t6 t12) h fun _ h =>
  runD (lenD T_sl_int h t1) h fun t14 h =>
  joinW (fun (J1 : AV → AV → List AObj → Prop) =>
  promV [false] [(.int .i64 0)] h fun lv h => pmem_Crash.L1 c J1 K (AV.norms h.length h lv) (normH h.length h) h.length (AV.norm h.length h t2) (AV.norm h.length h t6) (AV.norm h.length h t1) (AV.norm h.length h t14))
  (fun t2 t6 h => runD (fitD T_api_Mem (loadD h t2)) h fun t24 h =>
  callW c (.fn (.func 78) [] []) [t24, (.fn (.func 79) [] [t6])] h (fun t26 h =>
  runD (fieldD T_api_Mem t26 1) h fun t27 h =>
  K (.ret (.tup [t27, (.int .i64 0)])) h)
  (fun v h => K (.pan v) h))))
  (fun v h => K (.pan v) h)
def pmem_keep.loops : Nat → LInfo
  | 3 => ⟨[17], [false], [1, 4, 5, 15, 16], [], [5]⟩
  | _ => ⟨[], [], [], [], []⟩
def pmem_keep.L1 (c : Ctx) (J1 : AV → AV → List AObj → Prop) (K : AOut → List AObj → Prop) (lv : List AV) (h0 : List AObj) (n0 : Nat) (c1 : AV) (c4 : AV) (c5 : AV) (c15 : AV) (c16 : AV) : Prop :=
  ∃ I : Nat → List AV → List AObj → Prop, (∃ n, I n lv h0) ∧ ∀ n h, ∀ t17, I n [t17] h →
    runD (binD T_int .lss t17 c16) h fun t18 h =>
    condW t18
    (joinW (fun (J2 : List AObj → Prop) =>
    runD (indexAddrD T_sl_api_Pending h c15 t17) h fun t19 h =>
    runD (fitD T_api_Pending (loadD h t19)) h fun t20 h =>
    allocW T_api_Pending h fun t7 h =>
    runH (storeH T_api_Pending h t7 t20) h fun _ h =>
    runD (fitD T_api_Pending (loadD h t7)) h fun t22 h =>
    callW c c1 [t22] h (fun t23 h =>
    condW t23
    (runD (fieldAddrD T_api_Mem c5 1) h fun t24 h =>
      runD (fitD T_sl_int (loadD h t24)) h fun t25 h =>
      runD (fieldAddrD T_api_Pending t7 0) h fun t26 h =>
      runD (fitD T_int (loadD h t26)) h fun t27 h =>
      runD (fieldAddrD T_api_Pending t7 1) h fun t28 h =>
      runD (fitD T_int (loadD h t28)) h fun t29 h =>
      runD (indexAddrD T_sl_int h t25 t27) h fun t30 h =>
      runH (storeH T_int h t30 t29) h fun _ h =>
      J2 h)
    (runD (fieldAddrD T_api_Mem c5 2) h fun t31 h =>
    runD (fitD T_sl_api_Pending (loadD h t31)) h fun t32 h =>
    runD (fitD T_api_Pending (loadD h t7)) h fun t33 h =>
    runD (buildSliceD T_sl_api_Pending 1 [(0, t33)] h.length) h fun t34 h =>
    runDM (appendD T_sl_api_Pending h t32 t34 h.length) (appendH T_sl_api_Pending h t32 t34) h fun t35 h =>
    runD (fieldAddrD T_api_Mem c5 2) h fun t36 h =>
    runH (storeH T_sl_api_Pending h t36 t35) h fun _ h =>
    J2 h))
    (fun v h => K (.pan v) h))
    (fun h => runD (binD T_int .add t17 (.int .i64 1)) h fun t37 h =>
    (∃ m, m < n ∧ I m (AV.norms n0 h [t37]) (normH n0 h)) ∧ AV.norms n0 h [c1, c4, c5, c15, c16] = [c1, c4, c5, c15, c16]))
    (J1 c4 c5 h)
def pmem_keep.H (c : Ctx) (t0 : AV) (t1 : AV) (h : List AObj) (K : AOut → List AObj → Prop) : Prop :=
  boxW T_api_Mem t0 h fun t2 h =>
  allocW T_api_Mem h fun t4 h =>
  runD (fieldAddrD T_api_Mem t2 0) h fun t8 h =>
  runD (fitD T_sl_int (loadD h t8)) h fun t9 h =>
  runD (fieldAddrD T_api_Mem t2 1) h fun t10 h =>
  runD (fitD T_sl_int (loadD h t10)) h fun t11 h =>
  callW c.noS (.fn (.func 55) [] []) [t11] h (fun t12 h =>
  runD (buildD T_api_Mem [(0, t9), (1, t12)]) h fun t13 h =>
  allocW T_api_Mem h fun t5 h =>
  runH (storeH T_api_Mem h t5 t13) h fun _ h =>
  runD (fieldAddrD T_api_Mem t2 2) h fun t14 h =>
  runD (fitD T_sl_api_Pending (loadD h t14)) h fun t15 h =>
  runD (lenD T_sl_api_Pending h t15) h fun t16 h =>
  joinW (fun (J1 : AV → AV → List AObj → Prop) =>
  promV [false] [(.int .i64 0)] (boxH [t5] h) fun lv h => pmem_keep.L1 c J1 K (AV.norms h.length h lv) (normH h.length h) h.length (AV.norm h.length h t1) (AV.norm h.length h t4) (AV.norm h.length h t5) (AV.norm h.length h t15) (AV.norm h.length h t16))
  (fun t4 t5 h => runD (fitD T_api_Mem (loadD h t5)) h fun t38 h =>
  runH (storeH T_api_Mem h t4 t38) h fun _ h =>
  loadRes (fitD T_api_Mem (loadD h t4)) fun r0 => K (.ret r0) h))
  (fun _ _ => False)
def pmem_Crash_1.loops : Nat → LInfo
  | _ => ⟨[], [], [], [], []⟩
def pmem_Crash_1.H (c : Ctx) (t0 : AV) (t1 : AV) (h : List AObj) (K : AOut → List AObj → Prop) : Prop :=
  boxW T_api_Pending t0 h fun t2 h =>
  runD (fitD T_map_int_int (loadD h t1)) h fun t5 h =>
  runD (fieldAddrD T_api_Pending t2 0) h fun t6 h =>
  runD (fitD T_int (loadD h t6)) h fun t7 h =>
  runD (binD T_int .quo t7 (.int .i64 8)) h fun t8 h =>
  runD (lookupD T_map_int_int h t5 t8) h fun t9 h =>
  runD (fitD T_map_int_int (loadD h t1)) h fun t10 h =>
  runD (fieldAddrD T_api_Pending t2 0) h fun t11 h =>
  runD (fitD T_int (loadD h t11)) h fun t12 h =>
  runD (binD T_int .quo t12 (.int .i64 8)) h fun t13 h =>
  runD (maxD t9 (.int .i64 1)) h fun t15 h =>
  runD (binD T_int .sub t15 (.int .i64 1)) h fun t16 h =>
  runH (mapSetH T_map_int_int h t10 t13 t16) h fun _ h =>
  runD (binD T_int .gtr t9 (.int .i64 0)) h fun t18 h =>
  K (.ret t18) h
def pmem_Put.loops : Nat → LInfo
  | _ => ⟨[], [], [], [], []⟩
def pmem_Put.H (c : Ctx) (t0 : AV) (t1 : AV) (t2 : AV) (h : List AObj) (K : AOut → List AObj → Prop) : Prop :=
  boxW T_api_Mem t0 h fun t3 h =>
  allocW T_api_Mem h fun t6 h =>
  runD (fitD T_api_Mem (loadD h t3)) h fun t9 h =>
  callW c (.fn (.func 98) [] []) [t9, t1] h (fun t11 h =>
  runD (unD .not t11) h fun t12 h =>
  condW t12
  (runD (fitD T_api_Mem (loadD h t3)) h fun t13 h =>
    runH (storeH T_api_Mem h t6 t13) h fun _ h =>
    loadRes (fitD T_api_Mem (loadD h t6)) fun r0 => K (.ret (.tup [r0, (.int .i64 40)])) h)
  (runD (fieldAddrD T_api_Mem t3 0) h fun t14 h =>
  runD (fitD T_sl_int (loadD h t14)) h fun t15 h =>
  runD (lenD T_sl_int h t15) h fun t16 h =>
  runD (makeSliceD T_sl_int t16 t16 h.length) h fun t17 h =>
  runD (fieldAddrD T_api_Mem t3 0) h fun t19 h =>
  runD (fitD T_sl_int (loadD h t19)) h fun t20 h =>
  runM (copyH T_sl_int h t17 t20) h fun t21 h =>
  runD (indexAddrD T_sl_int h t17 t1) h fun t25 h =>
  runH (storeH T_int h t25 t2) h fun _ h =>
  runD (fieldAddrD T_api_Mem t3 1) h fun t27 h =>
  runD (fitD T_sl_int (loadD h t27)) h fun t28 h =>
  runD (fieldAddrD T_api_Mem t3 2) h fun t29 h =>
  runD (fitD T_sl_api_Pending (loadD h t29)) h fun t30 h =>
  callW c.noS (.fn (.func 99) [] []) [t30] h (fun t31 h =>
  runD (buildD T_api_Pending [(0, t1), (1, t2)]) h fun t34 h =>
  runD (buildSliceD T_sl_api_Pending 1 [(0, t34)] h.length) h fun t35 h =>
  runDM (appendD T_sl_api_Pending h t31 t35 h.length) (appendH T_sl_api_Pending h t31 t35) h fun t36 h =>
  runD (buildD T_api_Mem [(0, t17), (1, t28), (2, t36)]) h fun t37 h =>
  runH (storeH T_api_Mem h t6 t37) h fun _ h =>
  sepB t31 [t27] = true ∧ loadRes (fitD T_api_Mem (loadD h t6)) fun r0 => K (.ret (.tup [r0, (.int .i64 0)])) h)
  (fun _ _ => False)))
  (fun v h => K (.pan v) h)
def pmem_Flush.loops : Nat → LInfo
  | _ => ⟨[], [], [], [], []⟩
def pmem_Flush.H (c : Ctx) (t0 : AV) (t1 : AV) (h : List AObj) (K : AOut → List AObj → Prop) : Prop :=
  boxW T_api_Mem t0 h fun t2 h =>
  allocW T_api_Mem h fun t4 h =>
  runD (fitD T_api_Mem (loadD h t2)) h fun t8 h =>
  runD (fitD T_api_Mem (loadD h t2)) h fun t9 h =>
  callW c.noS (.fn (.func 100) [] []) [t9, t1] h (fun t11 h =>
  callW c.noS (.fn (.func 98) [] []) [t8, t11] h (fun t12 h =>
  runD (unD .not t12) h fun t13 h =>
  condW t13
  (runD (fitD T_api_Mem (loadD h t2)) h fun t14 h =>
    runH (storeH T_api_Mem h t4 t14) h fun _ h =>
    loadRes (fitD T_api_Mem (loadD h t4)) fun r0 => K (.ret (.tup [r0, (.int .i64 40)])) h)
  (runD (fieldAddrD T_api_Mem t2 2) h fun t15 h =>
  runD (fitD T_sl_api_Pending (loadD h t15)) h fun t16 h =>
  callW c (.fn (.func 101) [] []) [t16] h (fun t17 h =>
  allocW T_sl_api_Pending h fun t6 h =>
  runH (storeH T_sl_api_Pending h t6 t17) h fun _ h =>
  runD (fitD T_api_Mem (loadD h t2)) h fun t18 h =>
  callW c (.fn (.func 102) [] []) [t18, t1] h (fun t20 h =>
  joinW (fun (J1 : AV → AV → AV → List AObj → Prop) =>
  rangeX c.iterS t20 h
  (fun id r args h K => lpIs h id .ready r ∧ argX1 args fun t21 =>
  lpIs h id .ready r ∧
  runD (fitD T_sl_api_Pending (loadD (List.set h id (.lp .busy none r)) t6)) (List.set h id (.lp .busy none r)) fun t22 h =>
  runD (indexAddrD T_sl_api_Pending h t22 t21) h fun t24 h =>
  runD (fieldAddrD T_api_Pending t24 2) h fun t25 h =>
  runH (storeH T_bool h t25 (.bool true)) h fun _ h =>
  lpIs h id .busy r ∧ K (.ret (.bool true)) (List.set h id (.lp .ready none r)))
  (fun id r ao h => endX id r ao h
  (fun h => J1 t2 t4 t6 h)
  (fun h => loadRes (fitD T_api_Mem (loadD h t4)) fun r0 => K (.ret (.tup [r0, (.int .i64 0)])) h)
  (fun i h => exitW i 0 (J1 t2 t4 t6 h) (False))
  (fun l h => False)
  (fun v h => K (.pan v) h)))
  (fun t2 t4 t6 h => runD (fitD T_sl_api_Pending (loadD h t6)) h fun t26 h =>
  runD (fieldAddrD T_api_Mem t2 2) h fun t27 h =>
  runH (storeH T_sl_api_Pending h t27 t26) h fun _ h =>
  runD (fitD T_api_Mem (loadD h t2)) h fun t28 h =>
  runH (storeH T_api_Mem h t4 t28) h fun _ h =>
  loadRes (fitD T_api_Mem (loadD h t4)) fun r0 => K (.ret (.tup [r0, (.int .i64 0)])) h))
  (fun v h => K (.pan v) h))
  (fun v h => K (.pan v) h)))
  (fun _ _ => False))
  (fun _ _ => False)
def pmem_Fence.loops : Nat → LInfo
  | _ => ⟨[], [], [], [], []⟩
def pmem_Fence.H (c : Ctx) (t0 : AV) (h : List AObj) (K : AOut → List AObj → Prop) : Prop :=
  boxW T_api_Mem t0 h fun t1 h =>
  allocW T_api_Mem h fun t2 h =>
  runD (fitD T_api_Mem (loadD h t1)) h fun t4 h =>
  callW c (.fn (.func 19) [] []) [t4] h (fun t5 h =>
  runD (unD .not t5) h fun t6 h =>
  condW t6
  (runD (fitD T_api_Mem (loadD h t1)) h fun t7 h =>
    runH (storeH T_api_Mem h t2 t7) h fun _ h =>
    loadRes (fitD T_api_Mem (loadD h t2)) fun r0 => K (.ret (.tup [r0, (.int .i64 40)])) h)
  (runD (fitD T_api_Mem (loadD h t1)) h fun t8 h =>
  callW c (.fn (.func 78) [] []) [t8, (.fn (.func 103) [] [])] h (fun t9 h =>
  runH (storeH T_api_Mem h t2 t9) h fun _ h =>
  loadRes (fitD T_api_Mem (loadD h t2)) fun r0 => K (.ret (.tup [r0, (.int .i64 0)])) h)
  (fun v h => K (.pan v) h)))
  (fun v h => K (.pan v) h)
def pmem_place.loops : Nat → LInfo
  | 1 => ⟨[], [], [], [(3, none), (5, some [7, 12]), (2, none), (2, some [14, 16])], []⟩
  | _ => ⟨[], [], [], [], []⟩
def pmem_place.H (c : Ctx) (t0 : AV) (t1 : AV) (h : List AObj) (K : AOut → List AObj → Prop) : Prop :=
  boxW T_api_Mem t0 h fun t2 h =>
  runD (binD T_int .geq t1 (.int .i64 0)) h fun t6 h =>
  joinW (fun (J1 : AV → AV → List AObj → Prop) =>
  guardW t6 true
  (runD (fieldAddrD T_api_Mem t2 0) h fun t9 h =>
    runD (fitD T_sl_int (loadD h t9)) h fun t10 h =>
    runD (lenD T_sl_int h t10) h fun t11 h =>
    runD (binD T_int .lss t1 t11) h fun t12 h =>
    J1 (.bool true) t12 h)
  (J1 (.bool false) .und h))
  (fun t7 t12 h => runD (pickD t7 t12 (.bool false)) h fun t13 h =>
  joinW (fun (J2 : AV → AV → List AObj → Prop) =>
  guardW t13 true
  (runD (fitD T_api_Mem (loadD h t2)) h fun t15 h =>
    callW c (.fn (.func 19) [] []) [t15] h (fun t16 h =>
    J2 (.bool true) t16 h)
    (fun v h => K (.pan v) h))
  (J2 (.bool false) .und h))
  (fun t14 t16 h => runD (pickD t14 t16 (.bool false)) h fun t17 h =>
  K (.ret t17) h))
def pmem_first.loops : Nat → LInfo
  | 1 => ⟨[], [], [], [(3, none), (6, some [7, 13])], []⟩
  | _ => ⟨[], [], [], [], []⟩
def pmem_first.H (c : Ctx) (t0 : AV) (t1 : AV) (h : List AObj) (K : AOut → List AObj → Prop) : Prop :=
  boxW T_api_Mem t0 h fun t2 h =>
  runD (binD T_int .lss t1 (.int .i64 0)) h fun t6 h =>
  joinW (fun (J1 : AV → AV → List AObj → Prop) =>
  guardW t6 false
  (runD (fieldAddrD T_api_Mem t2 0) h fun t9 h =>
    runD (fitD T_sl_int (loadD h t9)) h fun t10 h =>
    runD (lenD T_sl_int h t10) h fun t11 h =>
    runD (binD T_int .quo t11 (.int .i64 8)) h fun t12 h =>
    runD (binD T_int .geq t1 t12) h fun t13 h =>
    J1 (.bool false) t13 h)
  (J1 (.bool true) .und h))
  (fun t7 t13 h => runD (pickD t7 (.bool true) t13) h fun t14 h =>
  condW t14
  (K (.ret (.int .i64 (-1))) h)
  (runD (binD T_int .mul t1 (.int .i64 8)) h fun t16 h =>
  K (.ret t16) h))
def pmem_of.loops : Nat → LInfo
  | _ => ⟨[], [], [], [], []⟩
def pmem_of.H (c : Ctx) (t0 : AV) (t1 : AV) (h : List AObj) (K : AOut → List AObj → Prop) : Prop :=
  boxW T_api_Mem t0 h fun t2 h =>
  boxW T_int t1 h fun t3 h =>
  K (.ret (.fn (.func 104) [] [t2, t3])) h
def pmem_Fence_1.loops : Nat → LInfo
  | _ => ⟨[], [], [], [], []⟩
def pmem_Fence_1.H (c : Ctx) (t0 : AV) (h : List AObj) (K : AOut → List AObj → Prop) : Prop :=
  boxW T_api_Pending t0 h fun t1 h =>
  runD (fieldAddrD T_api_Pending t1 2) h fun t3 h =>
  runD (fitD T_bool (loadD h t3)) h fun t4 h =>
  K (.ret t4) h
def pmem_of_1.loops : Nat → LInfo
  | 1 => ⟨[9], [false], [0, 2, 7, 8], [], []⟩
  | 3 => ⟨[], [], [], [(6, none), (4, some [19, 23])], []⟩
  | _ => ⟨[], [], [], [], []⟩
def pmem_of_1.L1 (c : Ctx) (J1 : List AObj → Prop) (K : AOut → List AObj → Prop) (lv : List AV) (h0 : List AObj) (n0 : Nat) (c0 : AV) (c2 : AV) (c7 : AV) (c8 : AV) : Prop :=
  ∃ I : Nat → List AV → List AObj → Prop, (∃ n, I n lv h0) ∧ ∀ n h, ∀ t9, I n [t9] h →
    runD (binD T_int .lss t9 c8) h fun t10 h =>
    condW t10
    (runD (indexAddrD T_sl_api_Pending h c7 t9) h fun t12 h =>
    runD (fitD T_api_Pending (loadD h t12)) h fun t13 h =>
    allocW T_api_Pending h fun t5 h =>
    runH (storeH T_api_Pending h t5 t13) h fun _ h =>
    runD (fieldAddrD T_api_Pending t5 0) h fun t14 h =>
    runD (fitD T_int (loadD h t14)) h fun t15 h =>
    runD (binD T_int .quo t15 (.int .i64 8)) h fun t16 h =>
    runD (fitD T_int (loadD h c2)) h fun t17 h =>
    runD (binD T_int .eql t16 t17) h fun t18 h =>
    joinW (fun (J2 : AV → AV → List AObj → Prop) =>
    guardW t18 true
    (callW c c0 [t9] h (fun t22 h =>
      runD (unD .not t22) h fun t23 h =>
      J2 (.bool true) t23 h)
      (fun v h => K (.pan v) h))
    (J2 (.bool false) .und h))
    (fun t19 t23 h => runD (pickD t19 t23 (.bool false)) h fun t24 h =>
    condW t24
    (K (.ret (.tup [])) h)
    (runD (binD T_int .add t9 (.int .i64 1)) h fun t25 h =>
    (∃ m, m < n ∧ I m (AV.norms n0 h [t25]) (normH n0 h)) ∧ AV.norms n0 h [c0, c2, c7, c8] = [c0, c2, c7, c8])))
    (J1 h)
def pmem_of_1.H (c : Ctx) (t0 : AV) (t1 : AV) (t2 : AV) (h : List AObj) (K : AOut → List AObj → Prop) : Prop :=
  runD (fieldAddrD T_api_Mem t1 2) h fun t6 h =>
  runD (fitD T_sl_api_Pending (loadD h t6)) h fun t7 h =>
  runD (lenD T_sl_api_Pending h t7) h fun t8 h =>
  joinW (fun (J1 : List AObj → Prop) =>
  promV [false] [(.int .i64 0)] h fun lv h => pmem_of_1.L1 c J1 K (AV.norms h.length h lv) (normH h.length h) h.length (AV.norm h.length h t0) (AV.norm h.length h t2) (AV.norm h.length h t7) (AV.norm h.length h t8))
  (fun h => K (.ret (.tup [])) h)
theorem pmem_Check.eq (F : List (FuncId × Contract)) (S : List (FuncId × Con)) (t0 : AV) (h : List AObj) (K : AOut → List AObj → Prop) : funW (ctx F S pmem_Check.loops) Try.f19 [t0] h K = pmem_Check.H (ctx F S pmem_Check.loops) t0 h K := by kernel_rfl
theorem pmem_New.eq (F : List (FuncId × Contract)) (S : List (FuncId × Con)) (t0 : AV) (h : List AObj) (K : AOut → List AObj → Prop) : funW (ctx F S pmem_New.loops) Try.f27 [t0] h K = pmem_New.H (ctx F S pmem_New.loops) t0 h K := by kernel_rfl
theorem pmem_sized.eq (F : List (FuncId × Contract)) (S : List (FuncId × Con)) (t0 : AV) (h : List AObj) (K : AOut → List AObj → Prop) : funW (ctx F S pmem_sized.loops) Try.f54 [t0] h K = pmem_sized.H (ctx F S pmem_sized.loops) t0 h K := by kernel_rfl
theorem pmem_Crash.eq (F : List (FuncId × Contract)) (S : List (FuncId × Con)) (t0 t1 : AV) (h : List AObj) (K : AOut → List AObj → Prop) : funW (ctx F S pmem_Crash.loops) Try.f57 [t0, t1] h K = pmem_Crash.H (ctx F S pmem_Crash.loops) t0 t1 h K := by kernel_rfl
theorem pmem_keep.eq (F : List (FuncId × Contract)) (S : List (FuncId × Con)) (t0 t1 : AV) (h : List AObj) (K : AOut → List AObj → Prop) : funW (ctx F S pmem_keep.loops) Try.f78 [t0, t1] h K = pmem_keep.H (ctx F S pmem_keep.loops) t0 t1 h K := by kernel_rfl
theorem pmem_Crash_1.eq (F : List (FuncId × Contract)) (S : List (FuncId × Con)) (t0 t1 : AV) (h : List AObj) (K : AOut → List AObj → Prop) : funW (ctx F S pmem_Crash_1.loops) Try.f79 [t0, t1] h K = pmem_Crash_1.H (ctx F S pmem_Crash_1.loops) t0 t1 h K := by kernel_rfl
theorem pmem_Put.eq (F : List (FuncId × Contract)) (S : List (FuncId × Con)) (t0 t1 t2 : AV) (h : List AObj) (K : AOut → List AObj → Prop) : funW (ctx F S pmem_Put.loops) Try.f93 [t0, t1, t2] h K = pmem_Put.H (ctx F S pmem_Put.loops) t0 t1 t2 h K := by kernel_rfl
theorem pmem_Flush.eq (F : List (FuncId × Contract)) (S : List (FuncId × Con)) (Is : List (FuncId × (Con → Con))) (t0 t1 : AV) (h : List AObj) (K : AOut → List AObj → Prop) : funW (ctxI F S Is pmem_Flush.loops) Try.f94 [t0, t1] h K = pmem_Flush.H (ctxI F S Is pmem_Flush.loops) t0 t1 h K := by kernel_rfl
theorem pmem_Fence.eq (F : List (FuncId × Contract)) (S : List (FuncId × Con)) (t0 : AV) (h : List AObj) (K : AOut → List AObj → Prop) : funW (ctx F S pmem_Fence.loops) Try.f95 [t0] h K = pmem_Fence.H (ctx F S pmem_Fence.loops) t0 h K := by kernel_rfl
theorem pmem_place.eq (F : List (FuncId × Contract)) (S : List (FuncId × Con)) (t0 t1 : AV) (h : List AObj) (K : AOut → List AObj → Prop) : funW (ctx F S pmem_place.loops) Try.f98 [t0, t1] h K = pmem_place.H (ctx F S pmem_place.loops) t0 t1 h K := by kernel_rfl
theorem pmem_first.eq (F : List (FuncId × Contract)) (S : List (FuncId × Con)) (t0 t1 : AV) (h : List AObj) (K : AOut → List AObj → Prop) : funW (ctx F S pmem_first.loops) Try.f100 [t0, t1] h K = pmem_first.H (ctx F S pmem_first.loops) t0 t1 h K := by kernel_rfl
theorem pmem_of.eq (F : List (FuncId × Contract)) (S : List (FuncId × Con)) (t0 t1 : AV) (h : List AObj) (K : AOut → List AObj → Prop) : funW (ctx F S pmem_of.loops) Try.f102 [t0, t1] h K = pmem_of.H (ctx F S pmem_of.loops) t0 t1 h K := by kernel_rfl
theorem pmem_Fence_1.eq (F : List (FuncId × Contract)) (S : List (FuncId × Con)) (t0 : AV) (h : List AObj) (K : AOut → List AObj → Prop) : funW (ctx F S pmem_Fence_1.loops) Try.f103 [t0] h K = pmem_Fence_1.H (ctx F S pmem_Fence_1.loops) t0 h K := by kernel_rfl
theorem pmem_of_1.eq (F : List (FuncId × Contract)) (S : List (FuncId × Con)) (l : Nat) (Y : Con) (t0 t1 t2 : AV) (h : List AObj) (K : AOut → List AObj → Prop) : funW ((ctx F S pmem_of_1.loops).withY l Y) Try.f104 [t0, t1, t2] h K = pmem_of_1.H ((ctx F S pmem_of_1.loops).withY l Y) t0 t1 t2 h K := by kernel_rfl
theorem pmem_Check.at : Try.prog.funcs[19]? = some Try.f19 := by kernel_rfl
theorem pmem_Check.nm : (Try.f19.name == "runtime.NumGoroutine") = false := by kernel_rfl
theorem pmem_Check.bd : Try.f19.body.isNone = false := by kernel_rfl
theorem pmem_New.at : Try.prog.funcs[27]? = some Try.f27 := by kernel_rfl
theorem pmem_New.nm : (Try.f27.name == "runtime.NumGoroutine") = false := by kernel_rfl
theorem pmem_New.bd : Try.f27.body.isNone = false := by kernel_rfl
theorem pmem_sized.at : Try.prog.funcs[54]? = some Try.f54 := by kernel_rfl
theorem pmem_sized.nm : (Try.f54.name == "runtime.NumGoroutine") = false := by kernel_rfl
theorem pmem_sized.bd : Try.f54.body.isNone = false := by kernel_rfl
theorem pmem_Crash.at : Try.prog.funcs[57]? = some Try.f57 := by kernel_rfl
theorem pmem_Crash.nm : (Try.f57.name == "runtime.NumGoroutine") = false := by kernel_rfl
theorem pmem_Crash.bd : Try.f57.body.isNone = false := by kernel_rfl
theorem pmem_keep.at : Try.prog.funcs[78]? = some Try.f78 := by kernel_rfl
theorem pmem_keep.nm : (Try.f78.name == "runtime.NumGoroutine") = false := by kernel_rfl
theorem pmem_keep.bd : Try.f78.body.isNone = false := by kernel_rfl
theorem pmem_Crash_1.at : Try.prog.funcs[79]? = some Try.f79 := by kernel_rfl
theorem pmem_Crash_1.nm : (Try.f79.name == "runtime.NumGoroutine") = false := by kernel_rfl
theorem pmem_Crash_1.bd : Try.f79.body.isNone = false := by kernel_rfl
theorem pmem_Put.at : Try.prog.funcs[93]? = some Try.f93 := by kernel_rfl
theorem pmem_Put.nm : (Try.f93.name == "runtime.NumGoroutine") = false := by kernel_rfl
theorem pmem_Put.bd : Try.f93.body.isNone = false := by kernel_rfl
theorem pmem_Flush.at : Try.prog.funcs[94]? = some Try.f94 := by kernel_rfl
theorem pmem_Flush.nm : (Try.f94.name == "runtime.NumGoroutine") = false := by kernel_rfl
theorem pmem_Flush.bd : Try.f94.body.isNone = false := by kernel_rfl
theorem pmem_Fence.at : Try.prog.funcs[95]? = some Try.f95 := by kernel_rfl
theorem pmem_Fence.nm : (Try.f95.name == "runtime.NumGoroutine") = false := by kernel_rfl
theorem pmem_Fence.bd : Try.f95.body.isNone = false := by kernel_rfl
theorem pmem_place.at : Try.prog.funcs[98]? = some Try.f98 := by kernel_rfl
theorem pmem_place.nm : (Try.f98.name == "runtime.NumGoroutine") = false := by kernel_rfl
theorem pmem_place.bd : Try.f98.body.isNone = false := by kernel_rfl
theorem pmem_first.at : Try.prog.funcs[100]? = some Try.f100 := by kernel_rfl
theorem pmem_first.nm : (Try.f100.name == "runtime.NumGoroutine") = false := by kernel_rfl
theorem pmem_first.bd : Try.f100.body.isNone = false := by kernel_rfl
theorem pmem_of.at : Try.prog.funcs[102]? = some Try.f102 := by kernel_rfl
theorem pmem_of.nm : (Try.f102.name == "runtime.NumGoroutine") = false := by kernel_rfl
theorem pmem_of.bd : Try.f102.body.isNone = false := by kernel_rfl
theorem pmem_Fence_1.at : Try.prog.funcs[103]? = some Try.f103 := by kernel_rfl
theorem pmem_Fence_1.nm : (Try.f103.name == "runtime.NumGoroutine") = false := by kernel_rfl
theorem pmem_Fence_1.bd : Try.f103.body.isNone = false := by kernel_rfl
theorem pmem_of_1.at : Try.prog.funcs[104]? = some Try.f104 := by kernel_rfl
theorem pmem_of_1.nm : (Try.f104.name == "runtime.NumGoroutine") = false := by kernel_rfl
theorem pmem_of_1.bd : Try.f104.body.isNone = false := by kernel_rfl
end Lam
namespace Lam
open Go Go.Proofs
set_option linter.unusedVariables false
def slices_Clone_sl_int_int.loops : Nat → LInfo
  | _ => ⟨[], [], [], [], []⟩
def slices_Clone_sl_int_int.H (c : Ctx) (t0 : AV) (h : List AObj) (K : AOut → List AObj → Prop) : Prop :=
  nilEqO (AV.len T_sl_int h t0) h fun t4 h =>
  condW t4
  (K (.ret (.sl true (.ints .i64 []))) h)
  (runD (buildSliceD T_sl_int 0 [] h.length) h fun t5 h =>
  runDM (appendD T_sl_int h t5 t0 h.length) (appendH T_sl_int h t5 t0) h fun t7 h =>
  K (.ret t7) h)
def slices_Equal_sl_int_int.loops : Nat → LInfo
  | 4 => ⟨[13], [false], [0, 1, 12], [], []⟩
  | _ => ⟨[], [], [], [], []⟩
def slices_Equal_sl_int_int.L1 (c : Ctx) (J1 : List AObj → Prop) (K : AOut → List AObj → Prop) (lv : List AV) (h0 : List AObj) (n0 : Nat) (c0 : AV) (c1 : AV) (c12 : AV) : Prop :=
  ∃ I : Nat → List AV → List AObj → Prop, (∃ n, I n lv h0) ∧ ∀ n h, ∀ t13, I n [t13] h →
    runD (binD T_int .lss t13 c12) h fun t14 h =>
    condW t14
    (runD (indexAddrD T_sl_int h c0 t13) h fun t18 h =>
    runD (fitD T_int (loadD h t18)) h fun t19 h =>
    runD (indexAddrD T_sl_int h c1 t13) h fun t22 h =>
    runD (fitD T_int (loadD h t22)) h fun t23 h =>
    runD (binD T_int .neq t19 t23) h fun t24 h =>
    condW t24
    (K (.ret (.bool false)) h)
    (runD (binD T_int .add t13 (.int .i64 1)) h fun t25 h =>
    (∃ m, m < n ∧ I m (AV.norms n0 h [t25]) (normH n0 h)) ∧ AV.norms n0 h [c0, c1, c12] = [c0, c1, c12]))
    (J1 h)
def slices_Equal_sl_int_int.H (c : Ctx) (t0 : AV) (t1 : AV) (h : List AObj) (K : AOut → List AObj → Prop) : Prop :=
  runD (lenD T_sl_int h t0) h fun t7 h =>
  runD (lenD T_sl_int h t1) h fun t9 h =>
  runD (binD T_int .neq t7 t9) h fun t10 h =>
  condW t10
  (K (.ret (.bool false)) h)
  (runD (lenD T_sl_int h t0) h fun t12 h =>
  joinW (fun (J1 : List AObj → Prop) =>
  promV [false] [(.int .i64 0)] h fun lv h => slices_Equal_sl_int_int.L1 c J1 K (AV.norms h.length h lv) (normH h.length h) h.length (AV.norm h.length h t0) (AV.norm h.length h t1) (AV.norm h.length h t12))
  (fun h => K (.ret (.bool true)) h))
def slices_ContainsFunc_sl_api_Micro_api_Micro.loops : Nat → LInfo
  | _ => ⟨[], [], [], [], []⟩
def slices_ContainsFunc_sl_api_Micro_api_Micro.H (c : Ctx) (t0 : AV) (t1 : AV) (h : List AObj) (K : AOut → List AObj → Prop) : Prop :=
  callW c (.fn (.func 80) [] []) [t0, t1] h (fun t7 h =>
  runD (binD T_int .geq t7 (.int .i64 0)) h fun t8 h =>
  K (.ret t8) h)
  (fun v h => K (.pan v) h)
def slices_IndexFunc_sl_int_int.loops : Nat → LInfo
  | 2 => ⟨[8], [false], [0, 1, 7], [], []⟩
  | _ => ⟨[], [], [], [], []⟩
def slices_IndexFunc_sl_int_int.L1 (c : Ctx) (J1 : List AObj → Prop) (K : AOut → List AObj → Prop) (lv : List AV) (h0 : List AObj) (n0 : Nat) (c0 : AV) (c1 : AV) (c7 : AV) : Prop :=
  ∃ I : Nat → List AV → List AObj → Prop, (∃ n, I n lv h0) ∧ ∀ n h, ∀ t8, I n [t8] h →
    runD (binD T_int .lss t8 c7) h fun t9 h =>
    condW t9
    (runD (indexAddrD T_sl_int h c0 t8) h fun t14 h =>
    runD (fitD T_int (loadD h t14)) h fun t15 h =>
    callW c c1 [t15] h (fun t16 h =>
    condW t16
    (K (.ret t8) h)
    (runD (binD T_int .add t8 (.int .i64 1)) h fun t18 h =>
    (∃ m, m < n ∧ I m (AV.norms n0 h [t18]) (normH n0 h)) ∧ AV.norms n0 h [c0, c1, c7] = [c0, c1, c7]))
    (fun v h => K (.pan v) h))
    (J1 h)
def slices_IndexFunc_sl_int_int.H (c : Ctx) (t0 : AV) (t1 : AV) (h : List AObj) (K : AOut → List AObj → Prop) : Prop :=
  runD (lenD T_sl_int h t0) h fun t7 h =>
  joinW (fun (J1 : List AObj → Prop) =>
  promV [false] [(.int .i64 0)] h fun lv h => slices_IndexFunc_sl_int_int.L1 c J1 K (AV.norms h.length h lv) (normH h.length h) h.length (AV.norm h.length h t0) (AV.norm h.length h t1) (AV.norm h.length h t7))
  (fun h => K (.ret (.int .i64 (-1))) h)
def slices_Compact_sl_int_int.loops : Nat → LInfo
  | 4 => ⟨[3], [false], [0], [], []⟩
  | 9 => ⟨[3, 5], [false, false], [0, 4], [], []⟩
  | _ => ⟨[], [], [], [], []⟩
def slices_Compact_sl_int_int.L2 (c : Ctx) (J3 : AV → AV → List AObj → Prop) (K : AOut → List AObj → Prop) (lv : List AV) (h0 : List AObj) (n0 : Nat) (c0 : AV) (c4 : AV) : Prop :=
  ∃ I : Nat → List AV → List AObj → Prop, (∃ n, I n lv h0) ∧ ∀ n h, ∀ t3, ∀ t5, I n [t3, t5] h →
    runD (lenD T_sl_int h c4) h fun t31 h =>
    runD (binD T_int .lss t5 t31) h fun t32 h =>
    condW t32
    (runD (indexAddrD T_sl_int h c4 t5) h fun t37 h =>
    runD (fitD T_int (loadD h t37)) h fun t38 h =>
    runD (binD T_int .sub t5 (.int .i64 1)) h fun t41 h =>
    runD (indexAddrD T_sl_int h c4 t41) h fun t42 h =>
    runD (fitD T_int (loadD h t42)) h fun t43 h =>
    runD (binD T_int .neq t38 t43) h fun t44 h =>
    joinW (fun (J4 : AV → List AObj → Prop) =>
    condW t44
    (runD (indexAddrD T_sl_int h c4 t5) h fun t49 h =>
      runD (fitD T_int (loadD h t49)) h fun t50 h =>
      runD (indexAddrD T_sl_int h c0 t3) h fun t51 h =>
      runH (storeH T_int h t51 t50) h fun _ h =>
      runD (binD T_int .add t3 (.int .i64 1)) h fun t53 h =>
      J4 t53 h)
    (J4 t3 h))
    (fun t3 h => runD (binD T_int .add t5 (.int .i64 1)) h fun t34 h =>
    (∃ m, m < n ∧ I m (AV.norms n0 h [t3, t34]) (normH n0 h)) ∧ AV.norms n0 h [c0, c4] = [c0, c4]))
    (J3 c0 t3 h)
def slices_Compact_sl_int_int.L1 (c : Ctx) (J1 : AV → List AObj → Prop) (K : AOut → List AObj → Prop) (lv : List AV) (h0 : List AObj) (n0 : Nat) (c0 : AV) : Prop :=
  ∃ I : Nat → List AV → List AObj → Prop, (∃ n, I n lv h0) ∧ ∀ n h, ∀ t3, I n [t3] h →
    runD (lenD T_sl_int h c0) h fun t12 h =>
    runD (binD T_int .lss t3 t12) h fun t13 h =>
    condW t13
    (joinW (fun (J2 : AV → AV → List AObj → Prop) =>
    runD (indexAddrD T_sl_int h c0 t3) h fun t18 h =>
    runD (fitD T_int (loadD h t18)) h fun t19 h =>
    runD (binD T_int .sub t3 (.int .i64 1)) h fun t22 h =>
    runD (indexAddrD T_sl_int h c0 t22) h fun t23 h =>
    runD (fitD T_int (loadD h t23)) h fun t24 h =>
    runD (binD T_int .eql t19 t24) h fun t25 h =>
    condW t25
    (runD (sliceD T_sl_int h c0 (some t3) none none) h fun t28 h =>
      joinW (fun (J3 : AV → AV → List AObj → Prop) =>
      promV [false, false] [t3, (.int .i64 1)] h fun lv h => slices_Compact_sl_int_int.L2 c J3 K (AV.norms h.length h lv) (normH h.length h) h.length (AV.norm h.length h c0) (AV.norm h.length h t28))
      (fun t0 t3 h => runD (sliceD T_sl_int h t0 (some t3) none none) h fun t56 h =>
      runM (clearH T_sl_int h t56) h fun _ h =>
      runD (sliceD T_sl_int h t0 none (some t3) none) h fun t59 h =>
      K (.ret t59) h))
    (J2 c0 t3 h))
    (fun t0 t3 h => runD (binD T_int .add t3 (.int .i64 1)) h fun t15 h =>
    (∃ m, m < n ∧ I m (AV.norms n0 h [t15]) (normH n0 h)) ∧ AV.norms n0 h [t0] = [c0]))
    (J1 c0 h)
def slices_Compact_sl_int_int.H (c : Ctx) (t0 : AV) (h : List AObj) (K : AOut → List AObj → Prop) : Prop :=
  runD (lenD T_sl_int h t0) h fun t7 h =>
  runD (binD T_int .lss t7 (.int .i64 2)) h fun t8 h =>
  condW t8
  (K (.ret t0) h)
  (joinW (fun (J1 : AV → List AObj → Prop) =>
  promV [false] [(.int .i64 1)] h fun lv h => slices_Compact_sl_int_int.L1 c J1 K (AV.norms h.length h lv) (normH h.length h) h.length (AV.norm h.length h t0))
  (fun t0 h => K (.ret t0) h))
def slices_IndexFunc_sl_api_Micro_api_Micro.loops : Nat → LInfo
  | 2 => ⟨[8], [false], [0, 1, 7], [], []⟩
  | _ => ⟨[], [], [], [], []⟩
def slices_IndexFunc_sl_api_Micro_api_Micro.L1 (c : Ctx) (J1 : List AObj → Prop) (K : AOut → List AObj → Prop) (lv : List AV) (h0 : List AObj) (n0 : Nat) (c0 : AV) (c1 : AV) (c7 : AV) : Prop :=
  ∃ I : Nat → List AV → List AObj → Prop, (∃ n, I n lv h0) ∧ ∀ n h, ∀ t8, I n [t8] h →
    runD (binD T_int .lss t8 c7) h fun t9 h =>
    condW t9
    (runD (indexAddrD T_sl_api_Micro h c0 t8) h fun t14 h =>
    runD (fitD T_api_Micro (loadD h t14)) h fun t15 h =>
    callW c c1 [t15] h (fun t16 h =>
    condW t16
    (K (.ret t8) h)
    (runD (binD T_int .add t8 (.int .i64 1)) h fun t18 h =>
    (∃ m, m < n ∧ I m (AV.norms n0 h [t18]) (normH n0 h)) ∧ AV.norms n0 h [c0, c1, c7] = [c0, c1, c7]))
    (fun v h => K (.pan v) h))
    (J1 h)
def slices_IndexFunc_sl_api_Micro_api_Micro.H (c : Ctx) (t0 : AV) (t1 : AV) (h : List AObj) (K : AOut → List AObj → Prop) : Prop :=
  runD (lenD T_sl_api_Micro h t0) h fun t7 h =>
  joinW (fun (J1 : List AObj → Prop) =>
  promV [false] [(.int .i64 0)] h fun lv h => slices_IndexFunc_sl_api_Micro_api_Micro.L1 c J1 K (AV.norms h.length h lv) (normH h.length h) h.length (AV.norm h.length h t0) (AV.norm h.length h t1) (AV.norm h.length h t7))
  (fun h => K (.ret (.int .i64 (-1))) h)
def slices_ContainsFunc_sl_int_int.loops : Nat → LInfo
  | _ => ⟨[], [], [], [], []⟩
def slices_ContainsFunc_sl_int_int.H (c : Ctx) (t0 : AV) (t1 : AV) (h : List AObj) (K : AOut → List AObj → Prop) : Prop :=
  callW c (.fn (.func 70) [] []) [t0, t1] h (fun t7 h =>
  runD (binD T_int .geq t7 (.int .i64 0)) h fun t8 h =>
  K (.ret t8) h)
  (fun v h => K (.pan v) h)
def slices_Clip_sl_api_Pending_api_Pending.loops : Nat → LInfo
  | _ => ⟨[], [], [], [], []⟩
def slices_Clip_sl_api_Pending_api_Pending.H (c : Ctx) (t0 : AV) (h : List AObj) (K : AOut → List AObj → Prop) : Prop :=
  runD (lenD T_sl_api_Pending h t0) h fun t5 h =>
  runD (lenD T_sl_api_Pending h t0) h fun t7 h =>
  runD (sliceD T_sl_api_Pending h t0 none (some t5) (some t7)) h fun t8 h =>
  K (.ret t8) h
def slices_Clone_sl_api_Pending_api_Pending.loops : Nat → LInfo
  | _ => ⟨[], [], [], [], []⟩
def slices_Clone_sl_api_Pending_api_Pending.H (c : Ctx) (t0 : AV) (h : List AObj) (K : AOut → List AObj → Prop) : Prop :=
  nilEqO (AV.len T_sl_api_Pending h t0) h fun t4 h =>
  condW t4
  (K (.ret (.sl true (.pends []))) h)
  (runD (buildSliceD T_sl_api_Pending 0 [] h.length) h fun t5 h =>
  runDM (appendD T_sl_api_Pending h t5 t0 h.length) (appendH T_sl_api_Pending h t5 t0) h fun t7 h =>
  K (.ret t7) h)
theorem slices_Clone_sl_int_int.eq (F : List (FuncId × Contract)) (S : List (FuncId × Con)) (t0 : AV) (h : List AObj) (K : AOut → List AObj → Prop) : funW (ctx F S slices_Clone_sl_int_int.loops) Try.f55 [t0] h K = slices_Clone_sl_int_int.H (ctx F S slices_Clone_sl_int_int.loops) t0 h K := by kernel_rfl
theorem slices_Equal_sl_int_int.eq (F : List (FuncId × Contract)) (S : List (FuncId × Con)) (t0 t1 : AV) (h : List AObj) (K : AOut → List AObj → Prop) : funW (ctx F S slices_Equal_sl_int_int.loops) Try.f56 [t0, t1] h K = slices_Equal_sl_int_int.H (ctx F S slices_Equal_sl_int_int.loops) t0 t1 h K := by kernel_rfl
theorem slices_ContainsFunc_sl_api_Micro_api_Micro.eq (F : List (FuncId × Contract)) (S : List (FuncId × Con)) (t0 t1 : AV) (h : List AObj) (K : AOut → List AObj → Prop) : funW (ctx F S slices_ContainsFunc_sl_api_Micro_api_Micro.loops) Try.f58 [t0, t1] h K = slices_ContainsFunc_sl_api_Micro_api_Micro.H (ctx F S slices_ContainsFunc_sl_api_Micro_api_Micro.loops) t0 t1 h K := by kernel_rfl
theorem slices_IndexFunc_sl_int_int.eq (F : List (FuncId × Contract)) (S : List (FuncId × Con)) (t0 t1 : AV) (h : List AObj) (K : AOut → List AObj → Prop) : funW (ctx F S slices_IndexFunc_sl_int_int.loops) Try.f70 [t0, t1] h K = slices_IndexFunc_sl_int_int.H (ctx F S slices_IndexFunc_sl_int_int.loops) t0 t1 h K := by kernel_rfl
theorem slices_Compact_sl_int_int.eq (F : List (FuncId × Contract)) (S : List (FuncId × Con)) (t0 : AV) (h : List AObj) (K : AOut → List AObj → Prop) : funW (ctx F S slices_Compact_sl_int_int.loops) Try.f72 [t0] h K = slices_Compact_sl_int_int.H (ctx F S slices_Compact_sl_int_int.loops) t0 h K := by kernel_rfl
theorem slices_IndexFunc_sl_api_Micro_api_Micro.eq (F : List (FuncId × Contract)) (S : List (FuncId × Con)) (t0 t1 : AV) (h : List AObj) (K : AOut → List AObj → Prop) : funW (ctx F S slices_IndexFunc_sl_api_Micro_api_Micro.loops) Try.f80 [t0, t1] h K = slices_IndexFunc_sl_api_Micro_api_Micro.H (ctx F S slices_IndexFunc_sl_api_Micro_api_Micro.loops) t0 t1 h K := by kernel_rfl
theorem slices_ContainsFunc_sl_int_int.eq (F : List (FuncId × Contract)) (S : List (FuncId × Con)) (t0 t1 : AV) (h : List AObj) (K : AOut → List AObj → Prop) : funW (ctx F S slices_ContainsFunc_sl_int_int.loops) Try.f82 [t0, t1] h K = slices_ContainsFunc_sl_int_int.H (ctx F S slices_ContainsFunc_sl_int_int.loops) t0 t1 h K := by kernel_rfl
theorem slices_Clip_sl_api_Pending_api_Pending.eq (F : List (FuncId × Contract)) (S : List (FuncId × Con)) (t0 : AV) (h : List AObj) (K : AOut → List AObj → Prop) : funW (ctx F S slices_Clip_sl_api_Pending_api_Pending.loops) Try.f99 [t0] h K = slices_Clip_sl_api_Pending_api_Pending.H (ctx F S slices_Clip_sl_api_Pending_api_Pending.loops) t0 h K := by kernel_rfl
theorem slices_Clone_sl_api_Pending_api_Pending.eq (F : List (FuncId × Contract)) (S : List (FuncId × Con)) (t0 : AV) (h : List AObj) (K : AOut → List AObj → Prop) : funW (ctx F S slices_Clone_sl_api_Pending_api_Pending.loops) Try.f101 [t0] h K = slices_Clone_sl_api_Pending_api_Pending.H (ctx F S slices_Clone_sl_api_Pending_api_Pending.loops) t0 h K := by kernel_rfl
theorem slices_Clone_sl_int_int.at : Try.prog.funcs[55]? = some Try.f55 := by kernel_rfl
theorem slices_Clone_sl_int_int.nm : (Try.f55.name == "runtime.NumGoroutine") = false := by kernel_rfl
theorem slices_Clone_sl_int_int.bd : Try.f55.body.isNone = false := by kernel_rfl
theorem slices_Equal_sl_int_int.at : Try.prog.funcs[56]? = some Try.f56 := by kernel_rfl
theorem slices_Equal_sl_int_int.nm : (Try.f56.name == "runtime.NumGoroutine") = false := by kernel_rfl
theorem slices_Equal_sl_int_int.bd : Try.f56.body.isNone = false := by kernel_rfl
theorem slices_ContainsFunc_sl_api_Micro_api_Micro.at : Try.prog.funcs[58]? = some Try.f58 := by kernel_rfl
theorem slices_ContainsFunc_sl_api_Micro_api_Micro.nm : (Try.f58.name == "runtime.NumGoroutine") = false := by kernel_rfl
theorem slices_ContainsFunc_sl_api_Micro_api_Micro.bd : Try.f58.body.isNone = false := by kernel_rfl
theorem slices_IndexFunc_sl_int_int.at : Try.prog.funcs[70]? = some Try.f70 := by kernel_rfl
theorem slices_IndexFunc_sl_int_int.nm : (Try.f70.name == "runtime.NumGoroutine") = false := by kernel_rfl
theorem slices_IndexFunc_sl_int_int.bd : Try.f70.body.isNone = false := by kernel_rfl
theorem slices_Compact_sl_int_int.at : Try.prog.funcs[72]? = some Try.f72 := by kernel_rfl
theorem slices_Compact_sl_int_int.nm : (Try.f72.name == "runtime.NumGoroutine") = false := by kernel_rfl
theorem slices_Compact_sl_int_int.bd : Try.f72.body.isNone = false := by kernel_rfl
theorem slices_IndexFunc_sl_api_Micro_api_Micro.at : Try.prog.funcs[80]? = some Try.f80 := by kernel_rfl
theorem slices_IndexFunc_sl_api_Micro_api_Micro.nm : (Try.f80.name == "runtime.NumGoroutine") = false := by kernel_rfl
theorem slices_IndexFunc_sl_api_Micro_api_Micro.bd : Try.f80.body.isNone = false := by kernel_rfl
theorem slices_ContainsFunc_sl_int_int.at : Try.prog.funcs[82]? = some Try.f82 := by kernel_rfl
theorem slices_ContainsFunc_sl_int_int.nm : (Try.f82.name == "runtime.NumGoroutine") = false := by kernel_rfl
theorem slices_ContainsFunc_sl_int_int.bd : Try.f82.body.isNone = false := by kernel_rfl
theorem slices_Clip_sl_api_Pending_api_Pending.at : Try.prog.funcs[99]? = some Try.f99 := by kernel_rfl
theorem slices_Clip_sl_api_Pending_api_Pending.nm : (Try.f99.name == "runtime.NumGoroutine") = false := by kernel_rfl
theorem slices_Clip_sl_api_Pending_api_Pending.bd : Try.f99.body.isNone = false := by kernel_rfl
theorem slices_Clone_sl_api_Pending_api_Pending.at : Try.prog.funcs[101]? = some Try.f101 := by kernel_rfl
theorem slices_Clone_sl_api_Pending_api_Pending.nm : (Try.f101.name == "runtime.NumGoroutine") = false := by kernel_rfl
theorem slices_Clone_sl_api_Pending_api_Pending.bd : Try.f101.body.isNone = false := by kernel_rfl
end Lam
namespace Lam
open Go Go.Proofs
set_option linter.unusedVariables false
set_option linter.unnecessarySimpa false
set_option linter.unusedSimpArgs false
def pmem_sized.C : Contract
  | [.int .i64 n] => some (false, pD True (.bool (szB n)))
  | _ => none
set_option maxRecDepth 20000 in
theorem pmem_sized.spec : FSpec Try.prog 54 pmem_sized.C := by
  refine FSpec.of (ctx_ok (F := []) (S := []) (by simp) (by simp) pmem_sized.loops) pmem_sized.at pmem_sized.nm pmem_sized.bd ?_
  intro vs b S v news e hS
  unfold pmem_sized.C at e
  split at e
  rotate_left
  · cases e
  cases e
  rw [pmem_sized.eq]
  unfold pmem_sized.H
  simp (maxSteps := 4000000) only [go_sem, Nat.reduceEqDiff, Nat.reduceLT, Nat.reduceAdd, Nat.reduceSub, Nat.reduceLeDiff, List.reduceReplicate, Int.reduceToNat]
  exact ⟨fun _ => by decide, post_val rfl rfl⟩

def slices_Clone_sl_int_int.C : Contract
  | [.sl _ (.ints .i64 l)] => some (true, some (roomy l.length, .sref false 0 0 0 l.length, [.row .own 0 (.ints .i64 l)]))
  | _ => none
set_option maxRecDepth 20000 in
theorem slices_Clone_sl_int_int.spec : FSpec Try.prog 55 slices_Clone_sl_int_int.C := by
  refine FSpec.of (ctx_ok (F := []) (S := []) (by simp) (by simp) slices_Clone_sl_int_int.loops) slices_Clone_sl_int_int.at slices_Clone_sl_int_int.nm slices_Clone_sl_int_int.bd ?_
  intro vs b S v news e hS
  unfold slices_Clone_sl_int_int.C at e
  split at e
  rotate_left
  · cases e
  cases e
  rw [slices_Clone_sl_int_int.eq]
  unfold slices_Clone_sl_int_int.H
  simp (maxSteps := 4000000) only [go_sem, Nat.reduceEqDiff, Nat.reduceLT, Nat.reduceAdd, Nat.reduceSub, Nat.reduceLeDiff, List.reduceReplicate, Int.reduceToNat]
  rename_i l
  intro b hb
  refine ⟨fun h => ?_, fun h => ⟨hS, post_row rfl (by simp)⟩⟩
  have : l = [] := List.eq_nil_of_length_eq_zero (hb h)
  subst this
  exact post_nil rfl
def slices_Clone_sl_api_Pending_api_Pending.C : Contract
  | [.sl _ (.pends l)] => some (true, some (roomy l.length, .sref false 0 0 0 l.length, [.row .own 0 (.pends l)]))
  | _ => none
set_option maxRecDepth 20000 in
theorem slices_Clone_sl_api_Pending_api_Pending.spec : FSpec Try.prog 101 slices_Clone_sl_api_Pending_api_Pending.C := by
  refine FSpec.of (ctx_ok (F := []) (S := []) (by simp) (by simp) slices_Clone_sl_api_Pending_api_Pending.loops) slices_Clone_sl_api_Pending_api_Pending.at slices_Clone_sl_api_Pending_api_Pending.nm slices_Clone_sl_api_Pending_api_Pending.bd ?_
  intro vs b S v news e hS
  unfold slices_Clone_sl_api_Pending_api_Pending.C at e
  split at e
  rotate_left
  · cases e
  cases e
  rw [slices_Clone_sl_api_Pending_api_Pending.eq]
  unfold slices_Clone_sl_api_Pending_api_Pending.H
  simp (maxSteps := 4000000) only [go_sem, Nat.reduceEqDiff, Nat.reduceLT, Nat.reduceAdd, Nat.reduceSub, Nat.reduceLeDiff, List.reduceReplicate, Int.reduceToNat]
  rename_i l
  intro b hb
  refine ⟨fun h => ?_, fun h => ⟨hS, post_row rfl (by simp)⟩⟩
  have : l = [] := List.eq_nil_of_length_eq_zero (hb h)
  subst this
  exact post_nil rfl
def slices_Clip_sl_api_Pending_api_Pending.C : Contract
  | [.sl _ (.pends l)] => some (false, pD True (.sl true (.pends l)))
  | _ => none
set_option maxRecDepth 20000 in
theorem slices_Clip_sl_api_Pending_api_Pending.spec : FSpec Try.prog 99 slices_Clip_sl_api_Pending_api_Pending.C := by
  refine FSpec.of (ctx_ok (F := []) (S := []) (by simp) (by simp) slices_Clip_sl_api_Pending_api_Pending.loops) slices_Clip_sl_api_Pending_api_Pending.at slices_Clip_sl_api_Pending_api_Pending.nm slices_Clip_sl_api_Pending_api_Pending.bd ?_
  intro vs b S v news e hS
  unfold slices_Clip_sl_api_Pending_api_Pending.C at e
  split at e
  rotate_left
  · cases e
  cases e
  rw [slices_Clip_sl_api_Pending_api_Pending.eq]
  unfold slices_Clip_sl_api_Pending_api_Pending.H
  simp (maxSteps := 4000000) only [go_sem, Nat.reduceEqDiff, Nat.reduceLT, Nat.reduceAdd, Nat.reduceSub, Nat.reduceLeDiff, List.reduceReplicate, Int.reduceToNat]
  exact ⟨by omega, post_same rfl⟩
def slices_Equal_sl_int_int.C : Contract
  | [.sl _ (.ints .i64 a), .sl _ (.ints .i64 b)] => some (false, pD (roomy a.length) (.bool (decide (a = b))))
  | _ => none
set_option maxRecDepth 20000 in
theorem slices_Equal_sl_int_int.spec : FSpec Try.prog 56 slices_Equal_sl_int_int.C := by
  refine FSpec.of (ctx_ok (F := []) (S := []) (by simp) (by simp) slices_Equal_sl_int_int.loops) slices_Equal_sl_int_int.at slices_Equal_sl_int_int.nm slices_Equal_sl_int_int.bd ?_
  intro vs b S v news e hS
  unfold slices_Equal_sl_int_int.C at e
  split at e
  rotate_left
  · cases e
  cases e
  rw [slices_Equal_sl_int_int.eq]
  unfold slices_Equal_sl_int_int.H
  simp (maxSteps := 4000000) only [go_sem, Nat.reduceEqDiff, Nat.reduceLT, Nat.reduceAdd, Nat.reduceSub, Nat.reduceLeDiff, List.reduceReplicate, Int.reduceToNat]
  rename_i a _ b
  unfold roomy at hS
  refine ⟨fun hne => ?_, fun heq => ?_⟩
  · have : decide (a = b) = false := by rw [decide_eq_false_iff_not]; rintro rfl; exact hne rfl
    rw [this]; exact post_val rfl rfl
  rw [joinW_eq]
  unfold slices_Equal_sl_int_int.L1
  have hlen : a.length = b.length := by omega
  refine ⟨fun m lv h' => ∃ k : Nat, k + m = a.length ∧ lv = [.int .i64 k] ∧ h' = [] ∧ ∀ i, i < k → a.getD i 0 = b.getD i 0, ⟨a.length, 0, by omega, rfl, rfl, fun i hi => by omega⟩, ?_⟩
  rintro m h' t8 ⟨k, hk, hlv, rfl, hall⟩
  simp only [List.cons.injEq, and_true] at hlv
  subst hlv
  simp only [go_sem, Nat.reduceEqDiff, Nat.reduceLT, Nat.reduceAdd, Nat.reduceSub, Nat.reduceLeDiff, List.reduceReplicate, Int.reduceToNat]
  refine ⟨fun hlt => ⟨by omega, by omega, fun h0 => ?_, fun h0 => ?_⟩, fun hge => ?_⟩
  · have : decide (a = b) = false := by rw [decide_eq_false_iff_not]; rintro rfl; exact h0 rfl
    rw [this]; exact post_val rfl rfl
  · refine ⟨m - 1, by omega, k + 1, by omega, by rw [w64 (by omega) (by omega)]; rfl, ?_⟩
    intro i hi
    by_cases e : i = k
    · subst e; exact h0
    · exact hall i (by omega)
  · have : a = b := by
      apply List.ext_getElem hlen
      intro i h1 h2
      have := hall i (by omega)
      rw [List.getD_eq_getElem?_getD, List.getD_eq_getElem?_getD, List.getElem?_eq_getElem h1, List.getElem?_eq_getElem h2] at this
      exact this
    rw [decide_eq_true this]; exact post_val rfl rfl

def pmem_Check.C : Contract
  | [.agg [.sl false (.ints .i64 vol), .sl false (.ints .i64 per), .sl false (.pends pend)]] => some (false, pD (smallM vol per pend) (.bool (checkB vol per pend)))
  | _ => none
set_option maxRecDepth 20000 in
theorem pmem_Check.spec : FSpec Try.prog 19 pmem_Check.C := by
  refine FSpec.of (ctx_ok (F := [(54, pmem_sized.C), (55, slices_Clone_sl_int_int.C), (56, slices_Equal_sl_int_int.C)]) (S := []) (by simpa using ⟨pmem_sized.spec, slices_Clone_sl_int_int.spec, slices_Equal_sl_int_int.spec⟩) (by simp) pmem_Check.loops) pmem_Check.at pmem_Check.nm pmem_Check.bd ?_
  intro vs b S v news e hS
  unfold pmem_Check.C at e
  split at e
  rotate_left
  · cases e
  cases e
  rw [pmem_Check.eq]
  unfold pmem_Check.H
  simp (maxSteps := 4000000) only [go_sem, Nat.reduceEqDiff, Nat.reduceLT, Nat.reduceAdd, Nat.reduceSub, Nat.reduceLeDiff, List.reduceReplicate, Int.reduceToNat, pmem_sized.C, slices_Clone_sl_int_int.C, slices_Equal_sl_int_int.C]
  rename_i vol per pend
  obtain ⟨r1, r2, r3⟩ := hS
  unfold roomy at r1 r2 r3
  refine ⟨fun hb => ?_, fun hb => ⟨r2, ?_⟩⟩
  · have : checkB vol per pend = false := by
      unfold checkB
      rw [Bool.or_eq_true] at hb
      rcases hb with hb | hb
      · have : ¬ vol.length = per.length := by
          intro h; rw [h] at hb; simp at hb
        simp [this]
      · have : szB vol.length = false := by simpa using hb
        simp [this]
    rw [this]; exact post_val rfl rfl
  rw [Bool.or_eq_false_iff] at hb
  have hlen : vol.length = per.length := by
    have := hb.1
    rw [Bool.not_eq_false', decide_eq_true_eq] at this
    omega
  have hsz : szB vol.length = true := by simpa using hb.2
  have hcheck : checkB vol per pend = decide (chk pend per (fun _ => false) = some vol) := by unfold checkB; rw [hsz, decide_eq_true hlen]; simp
  rw [hcheck, joinW_eq]
  unfold pmem_Check.L1
  refine ⟨fun m lv h' => ∃ (k : Nat) (l : List Int) (o : Int → Bool), k + m = pend.length ∧ lv = [.int .i64 k] ∧ l.length = per.length ∧ chk pend per (fun _ => false) = chk (pend.drop k) l o ∧
      h' = [.box (.agg [.sl false (.ints .i64 vol), .sl false (.ints .i64 per), .sl false (.pends pend)]), .row .own 0 (.ints .i64 l), .map (.ib o)],
    ⟨pend.length, 0, per, fun _ => false, by omega, rfl, rfl, rfl, rfl⟩, ?_⟩
  rintro m h' t28 ⟨k, l, o, hk, hlv, hll, hchk, rfl⟩
  simp only [List.cons.injEq, and_true] at hlv
  subst hlv
  simp only [go_sem, Nat.reduceEqDiff, Nat.reduceLT, Nat.reduceAdd, Nat.reduceSub, Nat.reduceLeDiff, List.reduceReplicate, Int.reduceToNat, hll, encPend]
  refine ⟨fun hlt => ⟨by omega, ?_⟩, fun hge => ?_⟩
  · have hkl : k < pend.length := by omega
    have hd : pend.drop k = pend.getD k ⟨0, 0, false⟩ :: pend.drop (k + 1) := by
      rw [List.getD_eq_getElem?_getD, List.getElem?_eq_getElem hkl, List.drop_eq_getElem_cons hkl]; rfl
    generalize pend.getD k ⟨0, 0, false⟩ = p at *
    have hch : chk (pend.drop k) l o = match badB p l.length o with
      | true => none
      | false => chk (pend.drop (k + 1)) (l.set p.at_.toNat p.val) (opens p o) := by rw [hd]; rfl
    rw [hll] at hch
    refine ⟨fun _ _ => by decide, fun hbad => ?_, fun hok => ?_⟩
    · have : badB p per.length o = true := hbad
      rw [this] at hch
      rw [hchk, hch]; exact post_val rfl rfl
    · have hb2 : badB p per.length o = false := hok
      rw [hb2] at hch
      simp only [badB, Bool.or_eq_false_iff, decide_eq_false_iff_not] at hb2
      refine ⟨by decide, by decide, by omega, by omega, m - 1, by omega, k + 1, _, opens p o, by omega, by rw [w64 (by omega) (by omega)]; rfl, ?_, by rw [hchk]; exact hch, rfl⟩
      rw [List.length_set]; exact hll
  · have : k = pend.length := by omega
    subst this
    rw [List.drop_length] at hchk
    have hl : l.take per.length = l := List.take_of_length_le (by omega)
    simp only [hl, go_sem, Nat.reduceEqDiff, Nat.reduceLT, Nat.reduceAdd, Nat.reduceSub, Nat.reduceLeDiff, List.reduceReplicate, Int.reduceToNat, slices_Equal_sl_int_int.C]
    refine ⟨by unfold roomy; omega, ?_⟩
    rw [hchk]
    have : decide (chk [] l o = some vol) = decide (l = vol) := by simp [chk]
    rw [this]; exact post_val rfl rfl
def pmem_place.C : Contract
  | [.agg [.sl false (.ints .i64 vol), .sl false (.ints .i64 per), .sl false (.pends pend)], .int .i64 at_] => some (false, pD (smallM vol per pend) (.bool (placeB vol per pend at_)))
  | _ => none
set_option maxRecDepth 20000 in
theorem pmem_place.spec : FSpec Try.prog 98 pmem_place.C := by
  refine FSpec.of (ctx_ok (F := [(19, pmem_Check.C)]) (S := []) (by simpa using pmem_Check.spec) (by simp) pmem_place.loops) pmem_place.at pmem_place.nm pmem_place.bd ?_
  intro vs b S v news e hS
  unfold pmem_place.C at e
  split at e
  rotate_left
  · cases e
  cases e
  rw [pmem_place.eq]
  unfold pmem_place.H
  simp (maxSteps := 4000000) only [go_sem, Nat.reduceEqDiff, Nat.reduceLT, Nat.reduceAdd, Nat.reduceSub, Nat.reduceLeDiff, List.reduceReplicate, Int.reduceToNat, pmem_Check.C]
  exact ⟨fun _ => hS, post_val rfl rfl⟩
def pmem_first.C : Contract
  | [.agg [.sl false (.ints .i64 vol), .sl false (.ints .i64 per), .sl false (.pends pend)], .int .i64 line] => some (false, pD (roomy vol.length) (.int .i64 (firstI vol line)))
  | _ => none
set_option maxRecDepth 20000 in
theorem pmem_first.spec : FSpec Try.prog 100 pmem_first.C := by
  refine FSpec.of (ctx_ok (F := []) (S := []) (by simp) (by simp) pmem_first.loops) pmem_first.at pmem_first.nm pmem_first.bd ?_
  intro vs b S v news e hS
  unfold pmem_first.C at e
  split at e
  rotate_left
  · cases e
  cases e
  rw [pmem_first.eq]
  unfold pmem_first.H
  simp (maxSteps := 4000000) only [go_sem, Nat.reduceEqDiff, Nat.reduceLT, Nat.reduceAdd, Nat.reduceSub, Nat.reduceLeDiff, List.reduceReplicate, Int.reduceToNat]
  rename_i vol per pend line
  unfold roomy at hS
  have e : IntKind.i64.wrap ((vol.length : Int).tdiv 8) = ((vol.length / 8 : Nat) : Int) := by rw [tdiv8]; exact w64 (by omega) (by omega)
  rw [e]
  refine ⟨fun _ => by decide, fun hb => ?_, fun hb => ?_⟩
  · unfold firstI; rw [if_pos hb]; exact post_val rfl rfl
  · have h2 := hb
    rw [Bool.or_eq_false_iff, decide_eq_false_iff_not, decide_eq_false_iff_not] at h2
    rw [w64 (by omega) (by omega)]
    unfold firstI; rw [hb]; exact post_val rfl rfl
def pmem_Put.C : Contract
  | [.agg [.sl false (.ints .i64 vol), .sl false (.ints .i64 per), .sl false (.pends pend)], .int .i64 at_, .int .i64 val] => some (false, pD (smallM vol per pend ∧ roomy (pend.length + 1)) (putM vol per pend at_ val))
  | _ => none
set_option maxRecDepth 20000 in
theorem pmem_Put.spec : FSpec Try.prog 93 pmem_Put.C := by
  refine FSpec.of (ctx_ok (F := [(98, pmem_place.C), (99, slices_Clip_sl_api_Pending_api_Pending.C)]) (S := []) (by simpa using ⟨pmem_place.spec, slices_Clip_sl_api_Pending_api_Pending.spec⟩) (by simp) pmem_Put.loops) pmem_Put.at pmem_Put.nm pmem_Put.bd ?_
  intro vs b S v news e hS
  unfold pmem_Put.C at e
  split at e
  rotate_left
  · cases e
  cases e
  rw [pmem_Put.eq]
  unfold pmem_Put.H
  simp (maxSteps := 4000000) only [go_sem, Nat.reduceEqDiff, Nat.reduceLT, Nat.reduceAdd, Nat.reduceSub, Nat.reduceLeDiff, List.reduceReplicate, Int.reduceToNat, pmem_place.C, slices_Clip_sl_api_Pending_api_Pending.C]
  rename_i vol per pend at_ val
  obtain ⟨hS, hr⟩ := hS
  refine ⟨hS, fun hb => ?_, fun hb => ?_⟩
  · unfold putM; rw [hb]; exact post_val rfl rfl
  · have hp : 0 ≤ at_ ∧ at_ < (vol.length : Int) := by
      simp only [placeB, Bool.and_eq_true, decide_eq_true_eq] at hb
      exact hb.1
    have e : vol ++ List.take (vol.length - min vol.length vol.length) (List.drop (min vol.length vol.length) (List.replicate vol.length 0)) = vol := by simp
    rw [e]
    have hl : (pend ++ [(⟨at_, val, false⟩ : Pend)]).length = pend.length + 1 := by simp
    rw [hl]
    refine ⟨⟨by omega, by omega, hS.1⟩, hp, by omega, hr, rfl, ?_⟩
    unfold putM
    simp only [hb, if_true]
    refine post_val ?_ rfl
    have t1 : (vol.set at_.toNat val).take vol.length = vol.set at_.toNat val := List.take_of_length_le (by simp)
    have t2 : (pend ++ [(⟨at_, val, false⟩ : Pend)]).take (pend.length + 1) = pend ++ [(⟨at_, val, false⟩ : Pend)] := List.take_of_length_le (by simp)
    simp only [go_sem, Nat.reduceEqDiff, Nat.reduceLT, Nat.reduceAdd, Nat.reduceSub, Nat.reduceLeDiff, List.reduceReplicate, Int.reduceToNat, memV, t1, t2]
def pmem_of_1.I : Con → Con := fun Y args h K => match args with
  | [.fn (.yield l) [] [], a0, a1] => pmem_of_1.H ((ctx [] [] pmem_of_1.loops).withY l Y) (.fn (.yield l) [] []) a0 a1 h K
  | _ => False
theorem pmem_of_1.spec : ISpec Try.prog 104 pmem_of_1.I := by
  refine ISpec.of (ctx_ok (F := []) (S := []) (by simp) (by simp) pmem_of_1.loops).toOkI pmem_of_1.at pmem_of_1.nm pmem_of_1.bd ?_
  intro Yc l cap h K hC
  unfold pmem_of_1.I at hC
  split at hC
  · rename_i e
    simp only [List.cons.injEq, AV.fn.injEq, Fn.yield.injEq, and_true, true_and] at e
    obtain ⟨rfl, rfl⟩ := e
    rw [pmem_of_1.eq]; exact hC
  · exact hC.elim
def pmem_of.K : Con := fun args h K => match args with
  | [a0, a1] => pmem_of.H (ctx [] [] pmem_of.loops) a0 a1 h K
  | _ => False
theorem pmem_of.spec : SSpec Try.prog 102 pmem_of.K := by
  refine SSpec.of (ctx_ok (F := []) (S := []) (by simp) (by simp) pmem_of.loops) pmem_of.at pmem_of.nm pmem_of.bd ?_
  intro args h K hC
  unfold pmem_of.K at hC
  split at hC
  · rw [pmem_of.eq]; exact hC
  · exact hC.elim
def pmem_Flush.C : Contract
  | [.agg [.sl false (.ints .i64 vol), .sl false (.ints .i64 per), .sl false (.pends pend)], .int .i64 line] => some (false, pD (smallM vol per pend) (flushM vol per pend line))
  | _ => none
set_option maxRecDepth 20000 in
theorem pmem_Flush.spec : FSpec Try.prog 94 pmem_Flush.C := by
  refine FSpec.of (ctxI_ok (F := [(98, pmem_place.C), (100, pmem_first.C), (101, slices_Clone_sl_api_Pending_api_Pending.C)]) (S := [(102, pmem_of.K)]) (Is := [(104, pmem_of_1.I)]) (by simpa using ⟨pmem_place.spec, pmem_first.spec, slices_Clone_sl_api_Pending_api_Pending.spec⟩) (by simpa using pmem_of.spec) (by simpa using pmem_of_1.spec) pmem_Flush.loops) pmem_Flush.at pmem_Flush.nm pmem_Flush.bd ?_
  intro vs b S v news e hS
  unfold pmem_Flush.C at e
  split at e
  rotate_left
  · cases e
  cases e
  rw [pmem_Flush.eq]
  unfold pmem_Flush.H
  simp (maxSteps := 4000000) only [go_sem, Nat.reduceEqDiff, Nat.reduceLT, Nat.reduceAdd, Nat.reduceSub, Nat.reduceLeDiff, List.reduceReplicate, Int.reduceToNat, pmem_place.C, pmem_first.C, slices_Clone_sl_api_Pending_api_Pending.C, pmem_of.K, pmem_of.H, pmem_of_1.I, pmem_of_1.H, joinW_eq]
  rename_i vol per pend line
  refine ⟨hS.1, hS, fun hb => ?_, fun hb => ⟨hS.2.2, ?_⟩⟩
  · unfold flushM; rw [hb]; exact post_val rfl rfl
  intro l r
  obtain ⟨s1, s2, s3⟩ := hS
  unfold roomy at s1 s2 s3
  unfold pmem_of_1.L1
  refine ⟨fun m lv h' => ∃ k : Nat, k + m = pend.length ∧ lv = [.int .i64 k] ∧ h' = [.box (.agg [.sl false (.ints .i64 vol), .sl false (.ints .i64 per), .sl false (.pends pend)]),
      .box (.agg [.sl false (.ints .i64 []), .sl false (.ints .i64 []), .sl false (.pends [])]), .row .own 0 (.pends (flushP line (pend.take k) ++ pend.drop k)), .box (.sref false 2 0 0 pend.length),
      .box (.agg [.sl false (.ints .i64 vol), .sl false (.ints .i64 per), .sl false (.pends pend)]), .box (.int .i64 line), .lp .ready none r],
    ⟨pend.length, 0, by omega, rfl, rfl⟩, ?_⟩
  rintro m h' t9 ⟨k, hk, hlv, rfl⟩
  simp only [List.cons.injEq, and_true] at hlv
  subst hlv
  have hlen : (flushP line (pend.take k) ++ pend.drop k).length = pend.length := by simp [flushP]; omega
  simp only [go_sem, Nat.reduceEqDiff, Nat.reduceLT, Nat.reduceAdd, Nat.reduceSub, Nat.reduceLeDiff, List.reduceReplicate, Int.reduceToNat, encPend, hlen]
  refine ⟨fun hlt => ?_, fun hge => ?_⟩
  · have hkl : k < pend.length := by omega
    have hget : (flushP line (pend.take k) ++ pend.drop k).getD k ⟨0, 0, false⟩ = pend.getD k ⟨0, 0, false⟩ := by
      rw [List.getD_eq_getElem?_getD, List.getElem?_append_right (by simp [flushP]; omega)]
      have e : k - (flushP line (pend.take k)).length = 0 := by simp [flushP]; omega
      rw [e, List.getElem?_drop, Nat.add_zero, List.getD_eq_getElem?_getD]
    have hdrop : pend.drop k = pend.getD k ⟨0, 0, false⟩ :: pend.drop (k + 1) := by
      rw [List.getD_eq_getElem?_getD, List.getElem?_eq_getElem hkl, List.drop_eq_getElem_cons hkl]; rfl
    have hset : ∀ q : Pend, (flushP line (pend.take k) ++ pend.drop k).set k q = flushP line (pend.take k) ++ q :: pend.drop (k + 1) := by
      intro q
      rw [hdrop, List.set_append_right _ _ (by simp [flushP]; omega)]
      have e : k - (flushP line (pend.take k)).length = 0 := by simp [flushP]; omega
      rw [e]; rfl
    have hnx : flushP line (pend.take (k + 1)) = flushP line (pend.take k) ++ [if lineOf (pend.getD k ⟨0, 0, false⟩).at_ = line then { pend.getD k ⟨0, 0, false⟩ with fl := true } else pend.getD k ⟨0, 0, false⟩] := by
      rw [take_next pend k ⟨0, 0, false⟩ hkl]
      simp [flushP]
    rw [joinW_eq]
    simp only [guardW_bool, hget, hset]
    refine ⟨by omega, by decide, fun hc => ?_, fun hc => ?_⟩
    · have hc : lineOf (pend.getD k ⟨0, 0, false⟩).at_ = line := by simpa [lineOf] using hc
      simp only [go_sem, Nat.reduceEqDiff, Nat.reduceLT, Nat.reduceAdd, Nat.reduceSub, Nat.reduceLeDiff, List.reduceReplicate, Int.reduceToNat]
      refine ⟨⟨by omega, by omega⟩, hkl, m - 1, by omega, k + 1, by omega, by rw [w64 (by omega) (by omega)]; rfl, ?_⟩
      rw [hnx, if_pos hc, List.append_assoc]; rfl
    · have hc : ¬ lineOf (pend.getD k ⟨0, 0, false⟩).at_ = line := by simpa [lineOf] using hc
      simp only [go_sem, Nat.reduceEqDiff, Nat.reduceLT, Nat.reduceAdd, Nat.reduceSub, Nat.reduceLeDiff, List.reduceReplicate, Int.reduceToNat]
      refine ⟨m - 1, by omega, k + 1, by omega, by rw [w64 (by omega) (by omega)]; rfl, ?_⟩
      rw [hnx, if_neg hc, List.append_assoc, hdrop]; rfl
  · have : k = pend.length := by omega
    subst this
    rw [List.take_length, List.drop_length, List.append_nil] at hlen
    have e : flushP line (pend.take pend.length) ++ pend.drop pend.length = flushP line pend := by rw [List.take_length, List.drop_length, List.append_nil]
    rw [e]
    unfold flushM
    simp only [hb, if_true]
    refine post_val ?_ rfl
    have t1 : (flushP line pend).take pend.length = flushP line pend := List.take_of_length_le (by omega)
    simp only [go_sem, Nat.reduceEqDiff, Nat.reduceLT, Nat.reduceAdd, Nat.reduceSub, Nat.reduceLeDiff, List.reduceReplicate, Int.reduceToNat, memV, t1]
def pmem_Fence_1.C : Contract
  | [.agg [.int .i64 a, .int .i64 v, .bool f]] => some (false, pD True (.bool f))
  | _ => none
set_option maxRecDepth 20000 in
theorem pmem_Fence_1.spec : FSpec Try.prog 103 pmem_Fence_1.C := by
  refine FSpec.of (ctx_ok (F := []) (S := []) (by simp) (by simp) pmem_Fence_1.loops) pmem_Fence_1.at pmem_Fence_1.nm pmem_Fence_1.bd ?_
  intro vs b S v news e hS
  unfold pmem_Fence_1.C at e
  split at e
  rotate_left
  · cases e
  cases e
  rw [pmem_Fence_1.eq]
  unfold pmem_Fence_1.H
  simp (maxSteps := 4000000) only [go_sem, Nat.reduceEqDiff, Nat.reduceLT, Nat.reduceAdd, Nat.reduceSub, Nat.reduceLeDiff, List.reduceReplicate, Int.reduceToNat]
  exact post_val rfl rfl
def pmem_Crash_1.K : Con := fun args h K => match args with
  | [a0, a1] => pmem_Crash_1.H (ctx [] [] pmem_Crash_1.loops) a0 a1 h K
  | _ => False
theorem pmem_Crash_1.spec : SSpec Try.prog 79 pmem_Crash_1.K := by
  refine SSpec.of (ctx_ok (F := []) (S := []) (by simp) (by simp) pmem_Crash_1.loops) pmem_Crash_1.at pmem_Crash_1.nm pmem_Crash_1.bd ?_
  intro args h K hC
  unfold pmem_Crash_1.K at hC
  split at hC
  · rw [pmem_Crash_1.eq]; exact hC
  · exact hC.elim
def pmem_keep.K : Con := fun args h K => match args with
  | [a0, a1] => pmem_keep.H (ctx [(55, slices_Clone_sl_int_int.C), (103, pmem_Fence_1.C)] [(79, pmem_Crash_1.K)] pmem_keep.loops) a0 a1 h K
  | _ => False
theorem pmem_keep.spec : SSpec Try.prog 78 pmem_keep.K := by
  refine SSpec.of (ctx_ok (F := [(55, slices_Clone_sl_int_int.C), (103, pmem_Fence_1.C)]) (S := [(79, pmem_Crash_1.K)]) (by simpa using ⟨slices_Clone_sl_int_int.spec, pmem_Fence_1.spec⟩) (by simpa using pmem_Crash_1.spec) pmem_keep.loops) pmem_keep.at pmem_keep.nm pmem_keep.bd ?_
  intro args h K hC
  unfold pmem_keep.K at hC
  split at hC
  · rw [pmem_keep.eq]; exact hC
  · exact hC.elim

def pmem_Fence.C : Contract
  | [.agg [.sl false (.ints .i64 vol), .sl false (.ints .i64 per), .sl false (.pends pend)]] => some (false, pD (smallM vol per pend) (fenceM fFl (checkB vol per pend) vol per pend))
  | _ => none
set_option maxRecDepth 20000 in
theorem pmem_Fence.spec : FSpec Try.prog 95 pmem_Fence.C := by
  refine FSpec.of (ctx_ok (F := [(19, pmem_Check.C)]) (S := [(78, pmem_keep.K)]) (by simpa using pmem_Check.spec) (by simpa using pmem_keep.spec) pmem_Fence.loops) pmem_Fence.at pmem_Fence.nm pmem_Fence.bd ?_
  intro vs b S v news e hS
  unfold pmem_Fence.C at e
  split at e
  rotate_left
  · cases e
  cases e
  rw [pmem_Fence.eq]
  unfold pmem_Fence.H
  simp (maxSteps := 4000000) only [go_sem, Nat.reduceEqDiff, Nat.reduceLT, Nat.reduceAdd, Nat.reduceSub, Nat.reduceLeDiff, List.reduceReplicate, Int.reduceToNat, pmem_Check.C, pmem_keep.K, pmem_keep.H, slices_Clone_sl_int_int.C]
  rename_i vol per pend
  refine ⟨hS, fun hb => ?_, fun hb => ⟨hS.2.1, ?_⟩⟩
  · unfold fenceM; rw [hb]; exact post_val rfl rfl
  obtain ⟨s1, s2, s3⟩ := hS
  unfold roomy at s1 s2 s3
  have hrange := check_range hb
  rw [joinW_eq]
  unfold pmem_keep.L1
  refine ⟨fun m lv h' => ∃ k v : Nat, k + m = pend.length ∧ lv = [.int .i64 k] ∧ h' = [.box (.agg [.sl false (.ints .i64 vol), .sl false (.ints .i64 per), .sl false (.pends pend)]), .box (.agg [.sl false (.ints .i64 []), .sl false (.ints .i64 []), .sl false (.pends [])]), .box (.agg [.sl false (.ints .i64 vol), .sl false (.ints .i64 per), .sl false (.pends pend)]), .box (.agg [.sl false (.ints .i64 []), .sl false (.ints .i64 []), .sl false (.pends [])]), .row .own 0 (.ints .i64 (keepW fFl (pend.take k) per)), .box (.agg [.sl false (.ints .i64 vol), .sref false 4 0 0 per.length, .sref false 6 v 0 (keepP fFl (pend.take k)).length]), .row .own v (.pends (keepP fFl (pend.take k)))],
    ⟨pend.length, 0, 0, by omega, rfl, rfl⟩, ?_⟩
  rintro m h' t17 ⟨k, v, hk, hlv, rfl⟩
  simp only [List.cons.injEq, and_true] at hlv
  subst hlv
  have hwl : (keepW fFl (pend.take k) per).length = per.length := keepW_len _ _ _
  have hpl : (keepP fFl (pend.take k)).length ≤ k := Nat.le_trans (List.length_filter_le _ _) (by simp; omega)
  simp only [go_sem, Nat.reduceEqDiff, Nat.reduceLT, Nat.reduceAdd, Nat.reduceSub, Nat.reduceLeDiff, List.reduceReplicate, Int.reduceToNat, encPend, hwl, pmem_Fence_1.C]
  refine ⟨fun hlt => ?_, fun hge => ?_⟩
  · have hkl : k < pend.length := by omega
    have hr := hrange _ (getD_mem pend k ⟨0, 0, false⟩ hkl)
    have hW := keepW_snoc fFl (pend.getD k ⟨0, 0, false⟩) (pend.take k) per
    have hP := keepP_snoc fFl (pend.getD k ⟨0, 0, false⟩) (pend.take k)
    rw [← take_next pend k ⟨0, 0, false⟩ hkl] at hW hP
    generalize pend.getD k ⟨0, 0, false⟩ = p at *
    try rw [joinW_eq]
    refine ⟨by omega, fun hc => ?_, fun hc => ?_⟩
    · have hc : fFl p = true := hc
      rw [hc] at hW hP
      simp only [go_sem, Nat.reduceEqDiff, Nat.reduceLT, Nat.reduceAdd, Nat.reduceSub, Nat.reduceLeDiff, List.reduceReplicate, Int.reduceToNat]
      refine ⟨hr, by omega, m - 1, by omega, k + 1, v, by omega, by rw [w64 (by omega) (by omega)]; rfl, ?_⟩
      rw [hW, hP]
    · have hc : fFl p = false := hc
      rw [hc] at hW hP
      simp only [go_sem, Nat.reduceEqDiff, Nat.reduceLT, Nat.reduceAdd, Nat.reduceSub, Nat.reduceLeDiff, List.reduceReplicate, Int.reduceToNat]
      refine ⟨by unfold roomy; simp; omega, m - 1, by omega, k + 1, v + 1, by omega, by rw [w64 (by omega) (by omega)]; rfl, ?_⟩
      rw [hW, hP]
  · have : k = pend.length := by omega
    subst this
    rw [List.take_length] at hwl hpl ⊢
    have t1 : (keepW fFl pend per).take per.length = keepW fFl pend per := List.take_of_length_le (by omega)
    have t2 : (keepP fFl pend).take (keepP fFl pend).length = keepP fFl pend := List.take_length
    unfold fenceM
    simp only [hb, if_true, go_sem, Nat.reduceEqDiff, Nat.reduceLT, Nat.reduceAdd, Nat.reduceSub, Nat.reduceLeDiff, List.reduceReplicate, Int.reduceToNat]
    refine post_val ?_ rfl
    simp only [go_sem, Nat.reduceEqDiff, Nat.reduceLT, Nat.reduceAdd, Nat.reduceSub, Nat.reduceLeDiff, List.reduceReplicate, Int.reduceToNat, memV, t1, t2]

end Lam
namespace Lam
open Go Go.Proofs
set_option linter.unusedVariables false
set_option linter.unnecessarySimpa false
set_option linter.unusedSimpArgs false
def pmem_New.C : Contract
  | [.sl _ (.ints .i64 l)] => some (false, pD (roomy l.length) (newM l))
  | _ => none
set_option maxRecDepth 20000 in
theorem pmem_New.spec : FSpec Try.prog 27 pmem_New.C := by
  refine FSpec.of (ctx_ok (F := [(54, pmem_sized.C), (55, slices_Clone_sl_int_int.C)]) (S := []) (by simpa using ⟨pmem_sized.spec, slices_Clone_sl_int_int.spec⟩) (by simp) pmem_New.loops) pmem_New.at pmem_New.nm pmem_New.bd ?_
  intro vs b S v news e hS
  unfold pmem_New.C at e
  split at e
  rotate_left
  · cases e
  cases e
  rw [pmem_New.eq]
  unfold pmem_New.H
  simp (maxSteps := 4000000) only [go_sem, Nat.reduceEqDiff, Nat.reduceLT, Nat.reduceAdd, Nat.reduceSub, Nat.reduceLeDiff, List.reduceReplicate, Int.reduceToNat, pmem_sized.C, slices_Clone_sl_int_int.C]
  rename_i l
  unfold roomy at hS
  refine ⟨fun hb => ?_, fun hb => ?_⟩
  · unfold newM; rw [hb]; exact post_val rfl rfl
  · refine ⟨hS, hS, ?_⟩
    unfold newM; simp only [hb, if_true]
    refine post_val ?_ rfl
    simp only [go_sem, Nat.reduceEqDiff, Nat.reduceLT, Nat.reduceAdd, Nat.reduceSub, Nat.reduceLeDiff, List.reduceReplicate, Int.reduceToNat, memV, List.take_length]
def pmem_Crash.C : Contract
  | [.agg [.sl false (.ints .i64 vol), .sl false (.ints .i64 per), .sl false (.pends pend)], .sl _ (.ints .i64 keep)] => some (false, pD (smallM vol per pend ∧ roomy keep.length ∧ i64s keep) (crashM (checkB vol per pend) keep per pend))
  | _ => none
set_option maxRecDepth 20000 in
theorem pmem_Crash.spec : FSpec Try.prog 57 pmem_Crash.C := by
  refine FSpec.of (ctx_ok (F := [(19, pmem_Check.C)]) (S := [(78, pmem_keep.K)]) (by simpa using pmem_Check.spec) (by simpa using pmem_keep.spec) pmem_Crash.loops) pmem_Crash.at pmem_Crash.nm pmem_Crash.bd ?_
  intro vs b S v news e hS
  unfold pmem_Crash.C at e
  split at e
  rotate_left
  · cases e
  cases e
  rw [pmem_Crash.eq]
  unfold pmem_Crash.H
  simp (maxSteps := 4000000) only [go_sem, Nat.reduceEqDiff, Nat.reduceLT, Nat.reduceAdd, Nat.reduceSub, Nat.reduceLeDiff, List.reduceReplicate, Int.reduceToNat, pmem_Check.C]
  rename_i vol per pend _ keep
  obtain ⟨hS, hr, hw64⟩ := hS
  refine ⟨hS, fun hb => ?_, fun hb => ?_⟩
  · unfold crashM; rw [hb]; exact post_val rfl rfl
  obtain ⟨s1, s2, s3⟩ := hS
  unfold roomy at s1 s2 s3 hr
  have hrange := check_range hb
  rw [joinW_eq]
  unfold pmem_Crash.L1
  refine loop1 (σ := Nat) (fun k => .int .i64 k) (fun k => [AObj.box (memV vol per pend), AObj.map (MapC.ii (leftF (keep.take k))), AObj.box (AV.map 1)]) (fun k => keep.length - k) (fun k => k ≤ keep.length) 0 rfl ?_ (Nat.zero_le _) ?_
  · simp [memV, Lam.normO]
    exact leftF_nil.symm
  intro I back k hk
  simp only [go_sem, Nat.reduceEqDiff, Nat.reduceLT, Nat.reduceAdd, Nat.reduceSub, Nat.reduceLeDiff, List.reduceReplicate, Int.reduceToNat]
  refine ⟨fun hlt => ⟨by omega, back (k + 1) (by omega) (by rw [wnext (by omega)]) ?_ (by omega)⟩, fun hge => ?_⟩
  · rw [leftF_next keep (by omega)]; rfl
  obtain rfl : k = keep.length := by omega
  simp only [List.take_length, pmem_keep.K, pmem_keep.H, slices_Clone_sl_int_int.C, go_sem, Nat.reduceEqDiff, Nat.reduceLT, Nat.reduceAdd, Nat.reduceSub, Nat.reduceLeDiff, List.reduceReplicate, Int.reduceToNat]
  refine ⟨s2, ?_⟩
  rw [joinW_eq]
  unfold pmem_keep.L1
  refine loop1 (σ := Nat × Nat × List Int × List Pend × (Int → Int)) (fun s => .int .i64 s.1) (fun s => [.box (memV vol per pend), .map (.ii s.2.2.2.2), .box (.map 1), .box (memV vol per pend), .box (memV [] [] []), .row .own 0 (.ints .i64 s.2.2.1),
      .box (.agg [.sl false (.ints .i64 vol), .sref false 5 0 0 per.length, .sref false 7 s.2.1 0 s.2.2.2.1.length]), .row .own s.2.1 (.pends s.2.2.2.1)]) (fun s => pend.length - s.1)
    (fun s => s.1 ≤ pend.length ∧ s.2.2.1.length = per.length ∧ s.2.2.2.1.length ≤ s.1 ∧ (∀ j, s.2.2.2.2 j < 9223372036854775808) ∧ app (crashK (pend.drop s.1) s.2.2.2.2) s.2.2.1 = crashW keep per pend) (0, 0, per, [], leftF keep) rfl rfl ⟨Nat.zero_le _, rfl, Nat.le_refl _, leftF_lt hw64, rfl⟩ ?_
  rintro I back ⟨k, v, w, q, left⟩ ⟨hk, hw, hq, hlf, hA⟩
  simp only [] at hk hw hq hA hlf ⊢
  simp only [go_sem, Nat.reduceEqDiff, Nat.reduceLT, Nat.reduceAdd, Nat.reduceSub, Nat.reduceLeDiff, List.reduceReplicate, Int.reduceToNat, hw]
  refine ⟨fun hlt => ⟨by omega, ?_⟩, fun hge => ?_⟩
  · have hkl : k < pend.length := by omega
    rw [drop_cons pend k ⟨0, 0, false⟩ hkl] at hA
    have hr := hrange _ (getD_mem pend k ⟨0, 0, false⟩ hkl)
    generalize pend.getD k ⟨0, 0, false⟩ = p at *
    simp only [crashK] at hA
    try rw [joinW_eq]
    simp only [pmem_Crash_1.K, pmem_Crash_1.H, go_sem, Nat.reduceEqDiff, Nat.reduceLT, Nat.reduceAdd, Nat.reduceSub, Nat.reduceLeDiff, List.reduceReplicate, Int.reduceToNat]
    have hle : (fun j => if j = IntKind.i64.wrap (p.at_.tdiv 8) then IntKind.i64.wrap ((if 1 > left (IntKind.i64.wrap (p.at_.tdiv 8)) then 1 else left (IntKind.i64.wrap (p.at_.tdiv 8))) - 1) else left j) = lessL p left := by
      funext j
      have h1 := hlf (lineOf p.at_)
      show (if j = lineOf p.at_ then IntKind.i64.wrap ((if 1 > left (lineOf p.at_) then 1 else left (lineOf p.at_)) - 1) else left j) = _
      unfold lessL
      split
      · rw [w64 (by split <;> omega) (by split <;> omega)]
        split <;> split <;> omega
      · rfl
    rw [hle]
    have hlf' : ∀ j, lessL p left j < 9223372036854775808 := fun j => by
      have h1 := hlf (lineOf p.at_); have h2 := hlf j
      unfold lessL; split <;> (try split) <;> omega
    refine ⟨by decide, by decide, fun hc => ?_, fun hc => ?_⟩
    · have hc : 0 < left (lineOf p.at_) := hc
      rw [decide_eq_true hc] at hA
      refine ⟨hr, by omega, back (k + 1, v, _, q, lessL p left) (by show _ - (k + 1) < _ - k; omega) (by rw [wnext (by omega)]) rfl ⟨by show k + 1 ≤ _; omega, by show (w.set _ _).length = _; rw [List.length_set]; exact hw, by show q.length ≤ k + 1; omega, hlf', hA⟩⟩
    · have hc : ¬ 0 < left (lineOf p.at_) := hc
      rw [decide_eq_false hc] at hA
      have hl : (q ++ [(⟨p.at_, p.val, p.fl⟩ : Pend)]).length = q.length + 1 := by simp
      refine ⟨by unfold roomy; omega, back (k + 1, v + 1, w, _, lessL p left) (by show _ - (k + 1) < _ - k; omega) (by rw [wnext (by omega)]) rfl ⟨by show k + 1 ≤ _; omega, hw, by show (q ++ _).length ≤ k + 1; omega, hlf', hA⟩⟩
  · obtain rfl : k = pend.length := by omega
    rw [List.drop_length] at hA
    have hA : w = crashW keep per pend := hA
    unfold crashM
    simp only [hb, if_true]
    refine post_val ?_ rfl
    simp only [go_sem, Nat.reduceEqDiff, Nat.reduceLT, Nat.reduceAdd, Nat.reduceSub, Nat.reduceLeDiff, List.reduceReplicate, Int.reduceToNat]
    rw [hA, take_len _ (by rw [crashW_len]; exact Nat.le_refl _)]
end Lam
namespace Lam
open Go Go.Proofs
set_option linter.unusedVariables false
def micro_Run.loops : Nat → LInfo
  | _ => ⟨[], [], [], [], []⟩
def micro_Run.H (c : Ctx) (t0 : AV) (t1 : AV) (h : List AObj) (K : AOut → List AObj → Prop) : Prop :=
  boxW T_api_Mem t0 h fun t2 h =>
  allocW T_api_Mem h fun t4 h =>
  runD (fitD T_api_Mem (loadD h t2)) h fun t6 h =>
  callW c (.fn (.func 52) [] []) [t6, t1] h (fun t8 h =>
  runD (unD .not t8) h fun t9 h =>
  condW t9
  (runD (fitD T_api_Mem (loadD h t2)) h fun t10 h =>
    runH (storeH T_api_Mem h t4 t10) h fun _ h =>
    loadRes (fitD T_api_Mem (loadD h t4)) fun r0 => K (.ret (.tup [r0, (.int .i64 40)])) h)
  (runD (fitD T_api_Mem (loadD h t2)) h fun t11 h =>
  runD (lenD T_sl_api_Micro h t1) h fun t14 h =>
  callW c (.fn (.func 53) [] []) [t11, t1, t14] h (fun t15 h =>
  runH (storeH T_api_Mem h t4 t15) h fun _ h =>
  loadRes (fitD T_api_Mem (loadD h t4)) fun r0 => K (.ret (.tup [r0, (.int .i64 0)])) h)
  (fun v h => K (.pan v) h)))
  (fun v h => K (.pan v) h)
def micro_Crash.loops : Nat → LInfo
  | _ => ⟨[], [], [], [], []⟩
def micro_Crash.H (c : Ctx) (t0 : AV) (t1 : AV) (t2 : AV) (t3 : AV) (h : List AObj) (K : AOut → List AObj → Prop) : Prop :=
  boxW T_api_Mem t0 h fun t4 h =>
  runD (fitD T_api_Mem (loadD h t4)) h fun t10 h =>
  callW c (.fn (.func 52) [] []) [t10, t1] h (fun t12 h =>
  runD (unD .not t12) h fun t13 h =>
  condW t13
  (K (.ret (.tup [(.sl true (.ints .i64 [])), (.int .i64 40)])) h)
  (runD (fitD T_api_Mem (loadD h t4)) h fun t14 h =>
  runD (lenD T_sl_api_Micro h t1) h fun t18 h =>
  runD (minD t2 t18) h fun t19 h =>
  runD (maxD (.int .i64 0) t19) h fun t20 h =>
  callW c (.fn (.func 53) [] []) [t14, t1, t20] h (fun t21 h =>
  callW c (.fn (.func 57) [] []) [t21, t3] h (fun t23 h =>
  runD (extractD t23 0) h fun t24 h =>
  runD (extractD t23 1) h fun t25 h =>
  K (.ret (.tup [t24, t25])) h)
  (fun v h => K (.pan v) h))
  (fun v h => K (.pan v) h)))
  (fun v h => K (.pan v) h)
def micro_Check.loops : Nat → LInfo
  | 1 => ⟨[], [], [], [(3, none), (2, some [8, 10]), (2, none), (3, some [12, 15])], []⟩
  | 2 => ⟨[], [], [], [(2, none), (4, some [18, 22])], []⟩
  | _ => ⟨[], [], [], [], []⟩
def micro_Check.H (c : Ctx) (t0 : AV) (t1 : AV) (h : List AObj) (K : AOut → List AObj → Prop) : Prop :=
  boxW T_int t1 h fun t3 h =>
  runD (fitD T_int (loadD h t3)) h fun t6 h =>
  runD (binD T_int .geq t6 (.int .i64 0)) h fun t7 h =>
  joinW (fun (J1 : AV → AV → List AObj → Prop) =>
  guardW t7 true
  (runD (fitD T_int (loadD h t3)) h fun t9 h =>
    runD (binD T_int .leq t9 (.int .i64 4096)) h fun t10 h =>
    J1 (.bool true) t10 h)
  (J1 (.bool false) .und h))
  (fun t8 t10 h => runD (pickD t8 t10 (.bool false)) h fun t11 h =>
  joinW (fun (J2 : AV → AV → List AObj → Prop) =>
  guardW t11 true
  (runD (fitD T_int (loadD h t3)) h fun t13 h =>
    runD (binD T_int .rem t13 (.int .i64 8)) h fun t14 h =>
    runD (binD T_int .eql t14 (.int .i64 0)) h fun t15 h =>
    J2 (.bool true) t15 h)
  (J2 (.bool false) .und h))
  (fun t12 t15 h => runD (pickD t12 t15 (.bool false)) h fun t16 h =>
  joinW (fun (J3 : AV → AV → List AObj → Prop) =>
  guardW t16 true
  (callW c (.fn (.func 58) [] []) [t0, (.fn (.func 59) [] [t3])] h (fun t21 h =>
    runD (unD .not t21) h fun t22 h =>
    J3 (.bool true) t22 h)
    (fun v h => K (.pan v) h))
  (J3 (.bool false) .und h))
  (fun t18 t22 h => runD (pickD t18 t22 (.bool false)) h fun t23 h =>
  K (.ret t23) h)))
def micro_Do.loops : Nat → LInfo
  | _ => ⟨[], [], [], [], []⟩
def micro_Do.H (c : Ctx) (t0 : AV) (t1 : AV) (h : List AObj) (K : AOut → List AObj → Prop) : Prop :=
  boxW T_api_Mem t0 h fun t2 h =>
  boxW T_api_Micro t1 h fun t3 h =>
  allocW T_api_Mem h fun t4 h =>
  runD (fitD T_api_Mem (loadD h t2)) h fun t6 h =>
  runD (fitD T_api_Micro (loadD h t3)) h fun t7 h =>
  runD (buildSliceD T_sl_api_Micro 1 [(0, t7)] h.length) h fun t8 h =>
  callW c (.fn (.func 17) [] []) [t6, t8] h (fun t9 h =>
  runD (extractD t9 0) h fun t10 h =>
  runD (extractD t9 1) h fun t11 h =>
  runH (storeH T_api_Mem h t4 t10) h fun _ h =>
  loadRes (fitD T_api_Mem (loadD h t4)) fun r0 => K (.ret (.tup [r0, t11])) h)
  (fun v h => K (.pan v) h)
def micro_sound.loops : Nat → LInfo
  | 1 => ⟨[], [], [], [(3, none), (5, some [7, 12])], []⟩
  | _ => ⟨[], [], [], [], []⟩
def micro_sound.H (c : Ctx) (t0 : AV) (t1 : AV) (h : List AObj) (K : AOut → List AObj → Prop) : Prop :=
  boxW T_api_Mem t0 h fun t2 h =>
  runD (fitD T_api_Mem (loadD h t2)) h fun t5 h =>
  callW c (.fn (.func 19) [] []) [t5] h (fun t6 h =>
  joinW (fun (J1 : AV → AV → List AObj → Prop) =>
  guardW t6 true
  (runD (fieldAddrD T_api_Mem t2 0) h fun t9 h =>
    runD (fitD T_sl_int (loadD h t9)) h fun t10 h =>
    runD (lenD T_sl_int h t10) h fun t11 h =>
    callW c (.fn (.func 21) [] []) [t1, t11] h (fun t12 h =>
    J1 (.bool true) t12 h)
    (fun v h => K (.pan v) h))
  (J1 (.bool false) .und h))
  (fun t7 t12 h => runD (pickD t7 t12 (.bool false)) h fun t13 h =>
  K (.ret t13) h))
  (fun v h => K (.pan v) h)
def micro_first.loops : Nat → LInfo
  | 4 => ⟨[15], [false], [1, 6, 7, 8, 14], [], []⟩
  | _ => ⟨[], [], [], [], []⟩
def micro_first.L1 (c : Ctx) (J1 : AV → AV → List AObj → Prop) (K : AOut → List AObj → Prop) (lv : List AV) (h0 : List AObj) (n0 : Nat) (c1 : AV) (c6 : AV) (c7 : AV) (c8 : AV) (c14 : AV) : Prop :=
  ∃ I : Nat → List AV → List AObj → Prop, (∃ n, I n lv h0) ∧ ∀ n h, ∀ t15, I n [t15] h →
    runD (binD T_int .lss t15 c14) h fun t16 h =>
    condW t16
    (runD (indexAddrD T_sl_api_Micro h c1 t15) h fun t21 h =>
    runD (fieldAddrD T_api_Micro t21 0) h fun t22 h =>
    runD (fitD T_int (loadD h t22)) h fun t23 h =>
    runD (lookupD T_map_int_func_p_micro_doer_api_Micro h c8 t23) h fun t24 h =>
    runD (indexAddrD T_sl_api_Micro h c1 t15) h fun t28 h =>
    runD (fitD T_api_Micro (loadD h t28)) h fun t29 h =>
    callW c t24 [c7, t29] h (fun t30 h =>
    runD (binD T_int .add t15 (.int .i64 1)) h fun t31 h =>
    (∃ m, m < n ∧ I m (AV.norms n0 h [t31]) (normH n0 h)) ∧ AV.norms n0 h [c1, c6, c7, c8, c14] = [c1, c6, c7, c8, c14])
    (fun v h => K (.pan v) h))
    (J1 c6 c7 h)
def micro_first.H (c : Ctx) (t0 : AV) (t1 : AV) (t2 : AV) (h : List AObj) (K : AOut → List AObj → Prop) : Prop :=
  boxW T_api_Mem t0 h fun t3 h =>
  allocW T_api_Mem h fun t6 h =>
  runD (fitD T_api_Mem (loadD h t3)) h fun t10 h =>
  runD (buildD T_micro_doer [(0, t10)]) h fun t11 h =>
  boxW T_micro_doer t11 h fun t12 h =>
  callW c (.fn (.func 77) [] []) [] h (fun t13 h =>
  joinW (fun (J1 : AV → AV → List AObj → Prop) =>
  promV [false] [(.int .i64 0)] h fun lv h => micro_first.L1 c J1 K (AV.norms h.length h lv) (normH h.length h) h.length (AV.norm h.length h t1) (AV.norm h.length h t6) (AV.norm h.length h t12) (AV.norm h.length h t13) (AV.norm h.length h t2))
  (fun t6 t7 h => runD (nilCheckD t7) h fun t33 h =>
  runD (fieldAddrD T_micro_doer t33 0) h fun t34 h =>
  runD (fitD T_api_Mem (loadD h t34)) h fun t35 h =>
  runH (storeH T_api_Mem h t6 t35) h fun _ h =>
  loadRes (fitD T_api_Mem (loadD h t6)) fun r0 => K (.ret r0) h))
  (fun v h => K (.pan v) h)
def micro_Check_1.loops : Nat → LInfo
  | _ => ⟨[], [], [], [], []⟩
def micro_Check_1.H (c : Ctx) (t0 : AV) (t1 : AV) (h : List AObj) (K : AOut → List AObj → Prop) : Prop :=
  boxW T_api_Micro t0 h fun t2 h =>
  runD (fitD T_api_Micro (loadD h t2)) h fun t4 h =>
  runD (fitD T_int (loadD h t1)) h fun t5 h =>
  callW c (.fn (.func 60) [] []) [t4, t5] h (fun t6 h =>
  runD (unD .not t6) h fun t7 h =>
  K (.ret t7) h)
  (fun v h => K (.pan v) h)
def micro_may.loops : Nat → LInfo
  | 2 => ⟨[], [], [], [(4, none), (7, some [14, 21]), (2, none), (8, some [23, 31])], []⟩
  | _ => ⟨[], [], [], [], []⟩
def micro_may.H (c : Ctx) (t0 : AV) (t1 : AV) (h : List AObj) (K : AOut → List AObj → Prop) : Prop :=
  boxW T_api_Micro t0 h fun t2 h =>
  runD (makeMapD T_map_int_int h.length) h fun t6 h =>
  runH (mapSetH T_map_int_int h t6 (.int .i64 1) t1) h fun _ h =>
  runD (binD T_int .quo t1 (.int .i64 8)) h fun t9 h =>
  runH (mapSetH T_map_int_int h t6 (.int .i64 2) t9) h fun _ h =>
  runD (fieldAddrD T_api_Micro t2 1) h fun t11 h =>
  runD (fitD T_int (loadD h t11)) h fun t12 h =>
  runD (binD T_int .geq t12 (.int .i64 0)) h fun t13 h =>
  joinW (fun (J1 : AV → AV → List AObj → Prop) =>
  guardW t13 true
  (runD (fieldAddrD T_api_Micro t2 1) h fun t15 h =>
    runD (fitD T_int (loadD h t15)) h fun t16 h =>
    runD (fieldAddrD T_api_Micro t2 0) h fun t18 h =>
    runD (fitD T_int (loadD h t18)) h fun t19 h =>
    runD (lookupD T_map_int_int h t6 t19) h fun t20 h =>
    runD (binD T_int .lss t16 t20) h fun t21 h =>
    J1 (.bool true) t21 h)
  (J1 (.bool false) .und h))
  (fun t14 t21 h => runD (pickD t14 t21 (.bool false)) h fun t22 h =>
  joinW (fun (J2 : AV → AV → List AObj → Prop) =>
  guardW t22 true
  (runD (fieldAddrD T_api_Micro t2 0) h fun t24 h =>
    runD (fitD T_int (loadD h t24)) h fun t25 h =>
    runD (binD T_int .eql t25 (.int .i64 1)) h fun t26 h =>
    joinW (fun (J3 : AV → AV → List AObj → Prop) =>
    guardW t26 false
    (runD (fieldAddrD T_api_Micro t2 2) h fun t28 h =>
      runD (fitD T_int (loadD h t28)) h fun t29 h =>
      runD (binD T_int .eql t29 (.int .i64 0)) h fun t30 h =>
      J3 (.bool false) t30 h)
    (J3 (.bool true) .und h))
    (fun t27 t30 h => runD (pickD t27 (.bool true) t30) h fun t31 h =>
    J2 (.bool true) t31 h))
  (J2 (.bool false) .und h))
  (fun t23 t31 h => runD (pickD t23 t31 (.bool false)) h fun t32 h =>
  K (.ret t32) h))
def micro_kinds.loops : Nat → LInfo
  | _ => ⟨[], [], [], [], []⟩
def micro_kinds.H (c : Ctx) (h : List AObj) (K : AOut → List AObj → Prop) : Prop :=
  runD (makeMapD T_map_int_func_p_micro_doer_api_Micro h.length) h fun t1 h =>
  runH (mapSetH T_map_int_func_p_micro_doer_api_Micro h t1 (.int .i64 1) (.fn (.func 88) [] [])) h fun _ h =>
  runH (mapSetH T_map_int_func_p_micro_doer_api_Micro h t1 (.int .i64 2) (.fn (.func 89) [] [])) h fun _ h =>
  K (.ret t1) h
def micro_doer_store.loops : Nat → LInfo
  | _ => ⟨[], [], [], [], []⟩
def micro_doer_store.H (c : Ctx) (t0 : AV) (t1 : AV) (h : List AObj) (K : AOut → List AObj → Prop) : Prop :=
  boxW T_api_Micro t1 h fun t3 h =>
  runD (nilCheckD t0) h fun t7 h =>
  runD (fieldAddrD T_micro_doer t7 0) h fun t8 h =>
  runD (fitD T_api_Mem (loadD h t8)) h fun t9 h =>
  runD (fieldAddrD T_api_Micro t3 1) h fun t10 h =>
  runD (fitD T_int (loadD h t10)) h fun t11 h =>
  runD (fieldAddrD T_api_Micro t3 2) h fun t12 h =>
  runD (fitD T_int (loadD h t12)) h fun t13 h =>
  callW c.noS (.fn (.func 93) [] []) [t9, t11, t13] h (fun t14 h =>
  runD (extractD t14 0) h fun t15 h =>
  runD (extractD t14 1) h fun t16 h =>
  runD (nilCheckD t0) h fun t17 h =>
  runD (fieldAddrD T_micro_doer t17 0) h fun t18 h =>
  runH (storeH T_api_Mem h t18 t15) h fun _ h =>
  K (.ret (.tup [])) h)
  (fun _ _ => False)
def micro_doer_persist.loops : Nat → LInfo
  | _ => ⟨[], [], [], [], []⟩
def micro_doer_persist.H (c : Ctx) (t0 : AV) (t1 : AV) (h : List AObj) (K : AOut → List AObj → Prop) : Prop :=
  boxW T_api_Micro t1 h fun t3 h =>
  runD (nilCheckD t0) h fun t7 h =>
  runD (fieldAddrD T_micro_doer t7 0) h fun t8 h =>
  runD (fitD T_api_Mem (loadD h t8)) h fun t9 h =>
  runD (fieldAddrD T_api_Micro t3 1) h fun t10 h =>
  runD (fitD T_int (loadD h t10)) h fun t11 h =>
  callW c.noS (.fn (.func 94) [] []) [t9, t11] h (fun t12 h =>
  runD (extractD t12 0) h fun t13 h =>
  runD (extractD t12 1) h fun t14 h =>
  runD (nilCheckD t0) h fun t15 h =>
  runD (fieldAddrD T_micro_doer t15 0) h fun t16 h =>
  runH (storeH T_api_Mem h t16 t13) h fun _ h =>
  runD (nilCheckD t0) h fun t20 h =>
  runD (fieldAddrD T_micro_doer t20 0) h fun t21 h =>
  runD (fitD T_api_Mem (loadD h t21)) h fun t22 h =>
  callW c (.fn (.func 95) [] []) [t22] h (fun t23 h =>
  runD (extractD t23 0) h fun t24 h =>
  runD (extractD t23 1) h fun t25 h =>
  runD (nilCheckD t0) h fun t26 h =>
  runD (fieldAddrD T_micro_doer t26 0) h fun t27 h =>
  runH (storeH T_api_Mem h t27 t24) h fun _ h =>
  K (.ret (.tup [])) h)
  (fun v h => K (.pan v) h))
  (fun _ _ => False)
theorem micro_Run.eq (F : List (FuncId × Contract)) (S : List (FuncId × Con)) (t0 t1 : AV) (h : List AObj) (K : AOut → List AObj → Prop) : funW (ctx F S micro_Run.loops) Try.f17 [t0, t1] h K = micro_Run.H (ctx F S micro_Run.loops) t0 t1 h K := by kernel_rfl
theorem micro_Crash.eq (F : List (FuncId × Contract)) (S : List (FuncId × Con)) (t0 t1 t2 t3 : AV) (h : List AObj) (K : AOut → List AObj → Prop) : funW (ctx F S micro_Crash.loops) Try.f20 [t0, t1, t2, t3] h K = micro_Crash.H (ctx F S micro_Crash.loops) t0 t1 t2 t3 h K := by kernel_rfl
theorem micro_Check.eq (F : List (FuncId × Contract)) (S : List (FuncId × Con)) (t0 t1 : AV) (h : List AObj) (K : AOut → List AObj → Prop) : funW (ctx F S micro_Check.loops) Try.f21 [t0, t1] h K = micro_Check.H (ctx F S micro_Check.loops) t0 t1 h K := by kernel_rfl
theorem micro_Do.eq (F : List (FuncId × Contract)) (S : List (FuncId × Con)) (t0 t1 : AV) (h : List AObj) (K : AOut → List AObj → Prop) : funW (ctx F S micro_Do.loops) Try.f51 [t0, t1] h K = micro_Do.H (ctx F S micro_Do.loops) t0 t1 h K := by kernel_rfl
theorem micro_sound.eq (F : List (FuncId × Contract)) (S : List (FuncId × Con)) (t0 t1 : AV) (h : List AObj) (K : AOut → List AObj → Prop) : funW (ctx F S micro_sound.loops) Try.f52 [t0, t1] h K = micro_sound.H (ctx F S micro_sound.loops) t0 t1 h K := by kernel_rfl
theorem micro_first.eq (F : List (FuncId × Contract)) (S : List (FuncId × Con)) (t0 t1 t2 : AV) (h : List AObj) (K : AOut → List AObj → Prop) : funW (ctx F S micro_first.loops) Try.f53 [t0, t1, t2] h K = micro_first.H (ctx F S micro_first.loops) t0 t1 t2 h K := by kernel_rfl
theorem micro_Check_1.eq (F : List (FuncId × Contract)) (S : List (FuncId × Con)) (t0 t1 : AV) (h : List AObj) (K : AOut → List AObj → Prop) : funW (ctx F S micro_Check_1.loops) Try.f59 [t0, t1] h K = micro_Check_1.H (ctx F S micro_Check_1.loops) t0 t1 h K := by kernel_rfl
theorem micro_may.eq (F : List (FuncId × Contract)) (S : List (FuncId × Con)) (t0 t1 : AV) (h : List AObj) (K : AOut → List AObj → Prop) : funW (ctx F S micro_may.loops) Try.f60 [t0, t1] h K = micro_may.H (ctx F S micro_may.loops) t0 t1 h K := by kernel_rfl
theorem micro_kinds.eq (F : List (FuncId × Contract)) (S : List (FuncId × Con)) (h : List AObj) (K : AOut → List AObj → Prop) : funW (ctx F S micro_kinds.loops) Try.f77 [] h K = micro_kinds.H (ctx F S micro_kinds.loops)  h K := by kernel_rfl
theorem micro_doer_store.eq (F : List (FuncId × Contract)) (S : List (FuncId × Con)) (t0 t1 : AV) (h : List AObj) (K : AOut → List AObj → Prop) : funW (ctx F S micro_doer_store.loops) Try.f88 [t0, t1] h K = micro_doer_store.H (ctx F S micro_doer_store.loops) t0 t1 h K := by kernel_rfl
theorem micro_doer_persist.eq (F : List (FuncId × Contract)) (S : List (FuncId × Con)) (t0 t1 : AV) (h : List AObj) (K : AOut → List AObj → Prop) : funW (ctx F S micro_doer_persist.loops) Try.f89 [t0, t1] h K = micro_doer_persist.H (ctx F S micro_doer_persist.loops) t0 t1 h K := by kernel_rfl
theorem micro_Run.at : Try.prog.funcs[17]? = some Try.f17 := by kernel_rfl
theorem micro_Run.nm : (Try.f17.name == "runtime.NumGoroutine") = false := by kernel_rfl
theorem micro_Run.bd : Try.f17.body.isNone = false := by kernel_rfl
theorem micro_Crash.at : Try.prog.funcs[20]? = some Try.f20 := by kernel_rfl
theorem micro_Crash.nm : (Try.f20.name == "runtime.NumGoroutine") = false := by kernel_rfl
theorem micro_Crash.bd : Try.f20.body.isNone = false := by kernel_rfl
theorem micro_Check.at : Try.prog.funcs[21]? = some Try.f21 := by kernel_rfl
theorem micro_Check.nm : (Try.f21.name == "runtime.NumGoroutine") = false := by kernel_rfl
theorem micro_Check.bd : Try.f21.body.isNone = false := by kernel_rfl
theorem micro_Do.at : Try.prog.funcs[51]? = some Try.f51 := by kernel_rfl
theorem micro_Do.nm : (Try.f51.name == "runtime.NumGoroutine") = false := by kernel_rfl
theorem micro_Do.bd : Try.f51.body.isNone = false := by kernel_rfl
theorem micro_sound.at : Try.prog.funcs[52]? = some Try.f52 := by kernel_rfl
theorem micro_sound.nm : (Try.f52.name == "runtime.NumGoroutine") = false := by kernel_rfl
theorem micro_sound.bd : Try.f52.body.isNone = false := by kernel_rfl
theorem micro_first.at : Try.prog.funcs[53]? = some Try.f53 := by kernel_rfl
theorem micro_first.nm : (Try.f53.name == "runtime.NumGoroutine") = false := by kernel_rfl
theorem micro_first.bd : Try.f53.body.isNone = false := by kernel_rfl
theorem micro_Check_1.at : Try.prog.funcs[59]? = some Try.f59 := by kernel_rfl
theorem micro_Check_1.nm : (Try.f59.name == "runtime.NumGoroutine") = false := by kernel_rfl
theorem micro_Check_1.bd : Try.f59.body.isNone = false := by kernel_rfl
theorem micro_may.at : Try.prog.funcs[60]? = some Try.f60 := by kernel_rfl
theorem micro_may.nm : (Try.f60.name == "runtime.NumGoroutine") = false := by kernel_rfl
theorem micro_may.bd : Try.f60.body.isNone = false := by kernel_rfl
theorem micro_kinds.at : Try.prog.funcs[77]? = some Try.f77 := by kernel_rfl
theorem micro_kinds.nm : (Try.f77.name == "runtime.NumGoroutine") = false := by kernel_rfl
theorem micro_kinds.bd : Try.f77.body.isNone = false := by kernel_rfl
theorem micro_doer_store.at : Try.prog.funcs[88]? = some Try.f88 := by kernel_rfl
theorem micro_doer_store.nm : (Try.f88.name == "runtime.NumGoroutine") = false := by kernel_rfl
theorem micro_doer_store.bd : Try.f88.body.isNone = false := by kernel_rfl
theorem micro_doer_persist.at : Try.prog.funcs[89]? = some Try.f89 := by kernel_rfl
theorem micro_doer_persist.nm : (Try.f89.name == "runtime.NumGoroutine") = false := by kernel_rfl
theorem micro_doer_persist.bd : Try.f89.body.isNone = false := by kernel_rfl
end Lam
namespace Lam
open Go Go.Proofs
set_option linter.unusedVariables false
set_option linter.unnecessarySimpa false
set_option linter.unusedSimpArgs false
def micro_may.C : Contract
  | [.agg [.int .i64 k, .int .i64 a, .int .i64 w], .int .i64 n] => some (false, pD True (.bool (mmay ⟨k, a, w⟩ n)))
  | _ => none
set_option maxRecDepth 20000 in
theorem micro_may.spec : FSpec Try.prog 60 micro_may.C := by
  refine FSpec.of (ctx_ok (F := []) (S := []) (by simp) (by simp) micro_may.loops) micro_may.at micro_may.nm micro_may.bd ?_
  intro vs b S v news e hS
  unfold micro_may.C at e
  split at e
  rotate_left
  · cases e
  cases e
  rw [micro_may.eq]
  unfold micro_may.H
  simp (maxSteps := 4000000) only [go_sem, Nat.reduceEqDiff, Nat.reduceLT, Nat.reduceAdd, Nat.reduceSub, Nat.reduceLeDiff, List.reduceReplicate, Int.reduceToNat]
  refine ⟨by decide, ?_⟩
  exact post_val rfl rfl
def micro_Check_1.K : Con := fun args h K => match args with
  | [a0, a1] => micro_Check_1.H (ctx [(60, micro_may.C)] [] micro_Check_1.loops) a0 a1 h K
  | _ => False
theorem micro_Check_1.spec : SSpec Try.prog 59 micro_Check_1.K := by
  refine SSpec.of (ctx_ok (F := [(60, micro_may.C)]) (S := []) (by simpa using micro_may.spec) (by simp) micro_Check_1.loops) micro_Check_1.at micro_Check_1.nm micro_Check_1.bd ?_
  intro args h K hC
  unfold micro_Check_1.K at hC
  split at hC
  · rw [micro_Check_1.eq]; exact hC
  · exact hC.elim
def slices_IndexFunc_sl_api_Micro_api_Micro.K : Con := fun args h K => match args with
  | [a0, a1] => slices_IndexFunc_sl_api_Micro_api_Micro.H (ctx [] [(59, micro_Check_1.K)] slices_IndexFunc_sl_api_Micro_api_Micro.loops) a0 a1 h K
  | _ => False
theorem slices_IndexFunc_sl_api_Micro_api_Micro.spec : SSpec Try.prog 80 slices_IndexFunc_sl_api_Micro_api_Micro.K := by
  refine SSpec.of (ctx_ok (F := []) (S := [(59, micro_Check_1.K)]) (by simp) (by simpa using micro_Check_1.spec) slices_IndexFunc_sl_api_Micro_api_Micro.loops) slices_IndexFunc_sl_api_Micro_api_Micro.at slices_IndexFunc_sl_api_Micro_api_Micro.nm slices_IndexFunc_sl_api_Micro_api_Micro.bd ?_
  intro args h K hC
  unfold slices_IndexFunc_sl_api_Micro_api_Micro.K at hC
  split at hC
  · rw [slices_IndexFunc_sl_api_Micro_api_Micro.eq]; exact hC
  · exact hC.elim
def slices_ContainsFunc_sl_api_Micro_api_Micro.K : Con := fun args h K => match args with
  | [a0, a1] => slices_ContainsFunc_sl_api_Micro_api_Micro.H (ctx [] [(80, slices_IndexFunc_sl_api_Micro_api_Micro.K)] slices_ContainsFunc_sl_api_Micro_api_Micro.loops) a0 a1 h K
  | _ => False
theorem slices_ContainsFunc_sl_api_Micro_api_Micro.spec : SSpec Try.prog 58 slices_ContainsFunc_sl_api_Micro_api_Micro.K := by
  refine SSpec.of (ctx_ok (F := []) (S := [(80, slices_IndexFunc_sl_api_Micro_api_Micro.K)]) (by simp) (by simpa using slices_IndexFunc_sl_api_Micro_api_Micro.spec) slices_ContainsFunc_sl_api_Micro_api_Micro.loops) slices_ContainsFunc_sl_api_Micro_api_Micro.at slices_ContainsFunc_sl_api_Micro_api_Micro.nm slices_ContainsFunc_sl_api_Micro_api_Micro.bd ?_
  intro args h K hC
  unfold slices_ContainsFunc_sl_api_Micro_api_Micro.K at hC
  split at hC
  · rw [slices_ContainsFunc_sl_api_Micro_api_Micro.eq]; exact hC
  · exact hC.elim

theorem micro_Check_1_vc (x : Mic) (n : Int) (h : List AObj) (K : AOut → List AObj → Prop) (id : Nat) (hid : h[id]? = some (.box (.int .i64 n)))
    (hK : K (.ret (.bool (!mmay x n))) (h ++ [.box (encMic x)])) : micro_Check_1.K [.agg [.int .i64 x.kind, .int .i64 x.at_, .int .i64 x.val], .ptr id []] h K := by
  have hlt : id < h.length := (List.getElem?_eq_some_iff.1 hid).1
  have hid' : ∀ r, (h ++ r)[id]? = some (.box (.int .i64 n)) := fun r => by rw [List.getElem?_append_left hlt]; exact hid
  have hlen : ∀ o r, (h ++ o :: r)[h.length]? = some o := fun o r => by simp
  unfold micro_Check_1.K
  simp only
  unfold micro_Check_1.H
  simp only [go_sem, Nat.reduceEqDiff, Nat.reduceLT, Nat.reduceAdd, Nat.reduceSub, Nat.reduceLeDiff, List.reduceReplicate, Int.reduceToNat, hid', hlen, micro_may.C]
  exact hK

theorem index_vc (l : List Mic) (n : Int) (K : AOut → List AObj → Prop) (x : Bool) (hr : roomy l.length) (h : List AObj) (hh : h = [.box (.int .i64 n)])
    (hK : ∀ r h', (r = -1 ∧ (∀ y ∈ l, mmay y n = true)) ∨ (0 ≤ r ∧ ∃ y ∈ l, mmay y n = false) → K (.ret (.int .i64 r)) h') :
    slices_IndexFunc_sl_api_Micro_api_Micro.K [.sl x (.mics l), .fn (.func 59) [] [.ptr 0 []]] h K := by
  unfold roomy at hr
  unfold slices_IndexFunc_sl_api_Micro_api_Micro.K
  simp only
  unfold slices_IndexFunc_sl_api_Micro_api_Micro.H
  subst hh
  simp only [go_sem, Nat.reduceEqDiff, Nat.reduceLT, Nat.reduceAdd, Nat.reduceSub, Nat.reduceLeDiff, List.reduceReplicate, Int.reduceToNat, joinW_eq]
  unfold slices_IndexFunc_sl_api_Micro_api_Micro.L1
  refine ⟨fun m lv h' => ∃ k : Nat, k + m = l.length ∧ lv = [.int .i64 k] ∧ h' = [.box (.int .i64 n)] ∧ ∀ y ∈ l.take k, mmay y n = true, ⟨l.length, 0, by omega, rfl, rfl, by simp⟩, ?_⟩
  rintro m h' t8 ⟨k, hk, hlv, rfl, hall⟩
  simp only [List.cons.injEq, and_true] at hlv
  subst hlv
  simp only [go_sem, Nat.reduceEqDiff, Nat.reduceLT, Nat.reduceAdd, Nat.reduceSub, Nat.reduceLeDiff, List.reduceReplicate, Int.reduceToNat]
  refine ⟨fun hlt => ⟨by omega, ?_⟩, fun hge => ?_⟩
  · have hkl : k < l.length := by omega
    apply micro_Check_1_vc _ n _ _ 0 rfl
    simp only [go_sem, Nat.reduceEqDiff, Nat.reduceLT, Nat.reduceAdd, Nat.reduceSub, Nat.reduceLeDiff, List.reduceReplicate, Int.reduceToNat]
    refine ⟨fun h => hK _ _ (.inr ⟨by omega, _, getD_mem l k _ hkl, by simpa using h⟩), fun h => ?_⟩
    refine ⟨m - 1, by omega, k + 1, by omega, by rw [w64 (by omega) (by omega)]; rfl, ?_⟩
    intro y hy
    rw [take_next l k ⟨0, 0, 0⟩ hkl] at hy
    rcases List.mem_append.1 hy with hy | hy
    · exact hall y hy
    · rw [List.mem_singleton.1 hy]; simpa using h
  · have : k = l.length := by omega
    subst this
    rw [List.take_length] at hall
    exact hK _ _ (.inl ⟨rfl, hall⟩)

theorem contains_vc (l : List Mic) (n : Int) (K : AOut → List AObj → Prop) (x : Bool) (hr : roomy l.length) (h : List AObj) (hh : h = [.box (.int .i64 n)])
    (hK : ∀ h', K (.ret (.bool (!l.all (mmay · n)))) h') :
    slices_ContainsFunc_sl_api_Micro_api_Micro.K [.sl x (.mics l), .fn (.func 59) [] [.ptr 0 []]] h K := by
  unfold slices_ContainsFunc_sl_api_Micro_api_Micro.K
  simp only
  unfold slices_ContainsFunc_sl_api_Micro_api_Micro.H
  subst hh
  simp only [go_sem, Nat.reduceEqDiff, Nat.reduceLT, Nat.reduceAdd, Nat.reduceSub, Nat.reduceLeDiff, List.reduceReplicate, Int.reduceToNat]
  apply index_vc l n _ x hr _ rfl
  intro r h' hcase
  simp only [go_sem, Nat.reduceEqDiff, Nat.reduceLT, Nat.reduceAdd, Nat.reduceSub, Nat.reduceLeDiff, List.reduceReplicate, Int.reduceToNat]
  have : decide (0 ≤ r) = !l.all (mmay · n) := by
    rcases hcase with ⟨rfl, h⟩ | ⟨h0, y, hy, h⟩
    · have : l.all (mmay · n) = true := List.all_eq_true.2 h
      rw [this]; rfl
    · have : l.all (mmay · n) = false := by
        rw [List.all_eq_false]; exact ⟨y, hy, by simp [h]⟩
      rw [this]; simpa using h0
  rw [this]; exact hK h'

def micro_Check.C : Contract
  | [.sl _ (.mics l), .int .i64 n] => some (false, pD (roomy l.length) (.bool (sizedB n && l.all (mmay · n))))
  | _ => none
set_option maxRecDepth 20000 in
theorem micro_Check.spec : FSpec Try.prog 21 micro_Check.C := by
  refine FSpec.of (ctx_ok (F := []) (S := [(58, slices_ContainsFunc_sl_api_Micro_api_Micro.K)]) (by simp) (by simpa using slices_ContainsFunc_sl_api_Micro_api_Micro.spec) micro_Check.loops) micro_Check.at micro_Check.nm micro_Check.bd ?_
  intro vs b S v news e hS
  unfold micro_Check.C at e
  split at e
  rotate_left
  · cases e
  cases e
  rw [micro_Check.eq]
  unfold micro_Check.H
  simp (maxSteps := 4000000) only [go_sem, Nat.reduceEqDiff, Nat.reduceLT, Nat.reduceAdd, Nat.reduceSub, Nat.reduceLeDiff, List.reduceReplicate, Int.reduceToNat]
  refine ⟨by simp, ?_⟩
  rw [joinW_eq]
  simp only [guardW_bool]
  refine ⟨fun hs => ?_, fun hs => ?_⟩
  · apply contains_vc _ _ _ _ hS _ rfl
    intro h'
    simp only [go_sem, Nat.reduceEqDiff, Nat.reduceLT, Nat.reduceAdd, Nat.reduceSub, Nat.reduceLeDiff, List.reduceReplicate, Int.reduceToNat, Bool.not_not]
    exact post_val (by rw [show sizedB _ = true from hs, Bool.true_and]; rfl) rfl
  · simp only [go_sem, Nat.reduceEqDiff, Nat.reduceLT, Nat.reduceAdd, Nat.reduceSub, Nat.reduceLeDiff, List.reduceReplicate, Int.reduceToNat]
    exact post_val (by rw [show sizedB _ = false from hs, Bool.false_and]; rfl) rfl


def micro_doer_store.K : Con := fun args h K => match args with
  | [a0, a1] => micro_doer_store.H (ctx [(93, pmem_Put.C)] [] micro_doer_store.loops) a0 a1 h K
  | _ => False
theorem micro_doer_store.spec : SSpec Try.prog 88 micro_doer_store.K := by
  refine SSpec.of (ctx_ok (F := [(93, pmem_Put.C)]) (S := []) (by simpa using pmem_Put.spec) (by simp) micro_doer_store.loops) micro_doer_store.at micro_doer_store.nm micro_doer_store.bd ?_
  intro args h K hC
  unfold micro_doer_store.K at hC
  split at hC
  · rw [micro_doer_store.eq]; exact hC
  · exact hC.elim
def micro_doer_persist.K : Con := fun args h K => match args with
  | [a0, a1] => micro_doer_persist.H (ctx [(94, pmem_Flush.C), (95, pmem_Fence.C)] [] micro_doer_persist.loops) a0 a1 h K
  | _ => False
theorem micro_doer_persist.spec : SSpec Try.prog 89 micro_doer_persist.K := by
  refine SSpec.of (ctx_ok (F := [(94, pmem_Flush.C), (95, pmem_Fence.C)]) (S := []) (by simpa using ⟨pmem_Flush.spec, pmem_Fence.spec⟩) (by simp) micro_doer_persist.loops) micro_doer_persist.at micro_doer_persist.nm micro_doer_persist.bd ?_
  intro args h K hC
  unfold micro_doer_persist.K at hC
  split at hC
  · rw [micro_doer_persist.eq]; exact hC
  · exact hC.elim
def micro_kinds.K : Con := fun args h K => match args with
  | [] => micro_kinds.H (ctx [] [] micro_kinds.loops)  h K
  | _ => False
theorem micro_kinds.spec : SSpec Try.prog 77 micro_kinds.K := by
  refine SSpec.of (ctx_ok (F := []) (S := []) (by simp) (by simp) micro_kinds.loops) micro_kinds.at micro_kinds.nm micro_kinds.bd ?_
  intro args h K hC
  unfold micro_kinds.K at hC
  split at hC
  · rw [micro_kinds.eq]; exact hC
  · exact hC.elim
def micro_first.C : Contract
  | [.agg [.sl false (.ints .i64 vol), .sl false (.ints .i64 per), .sl false (.pends pend)], .sl _ (.mics l), .int .i64 n] => some (false, pD (Mm.ok ⟨vol, per, pend⟩ ∧ (∀ x ∈ l, MayN x vol.length) ∧ pend.length + l.length ≤ 1000000 ∧ 0 ≤ n ∧ n ≤ (l.length : Int)) (runS ⟨vol, per, pend⟩ (l.take n.toNat)).V)
  | _ => none
set_option maxRecDepth 20000 in
theorem micro_first.spec : FSpec Try.prog 53 micro_first.C := by
  refine FSpec.of (ctx_ok (F := []) (S := [(77, micro_kinds.K), (88, micro_doer_store.K), (89, micro_doer_persist.K)]) (by simp) (by simpa using ⟨micro_kinds.spec, micro_doer_store.spec, micro_doer_persist.spec⟩) micro_first.loops) micro_first.at micro_first.nm micro_first.bd ?_
  intro vs b S v news e hS
  unfold micro_first.C at e
  split at e
  rotate_left
  · cases e
  cases e
  rw [micro_first.eq]
  unfold micro_first.H
  simp (maxSteps := 4000000) only [go_sem, Nat.reduceEqDiff, Nat.reduceLT, Nat.reduceAdd, Nat.reduceSub, Nat.reduceLeDiff, List.reduceReplicate, Int.reduceToNat, micro_kinds.K, micro_kinds.H]
  rename_i vol per pend _ l n
  obtain ⟨ok, hl, hsz, hn0, hn1⟩ := hS
  rw [joinW_eq]
  unfold micro_first.L1
  refine loop1 (σ := Nat) (fun k => .int .i64 k) (fun k => [.box (memV vol per pend), .box (memV [] [] []), .box (.agg [(runS ⟨vol, per, pend⟩ (l.take k)).V]), .map (.ifn fun j => if j = 2 then some 89 else if j = 1 then some 88 else none)]) (fun k => n.toNat - k) (fun k => k ≤ n.toNat) 0 rfl rfl (Nat.zero_le _) ?_
  intro I back k hk
  have okk := runS_ok (l.take k) ok fun x hx => hl x ((List.take_sublist _ _).subset hx)
  have lenk := runS_len (l.take k) ⟨vol, per, pend⟩
  have pendk := runS_pend_le (l.take k) ⟨vol, per, pend⟩
  rw [List.length_take] at pendk
  simp only [] at lenk pendk
  simp only [go_sem, Nat.reduceEqDiff, Nat.reduceLT, Nat.reduceAdd, Nat.reduceSub, Nat.reduceLeDiff, List.reduceReplicate, Int.reduceToNat]
  refine ⟨fun hlt => ?_, fun hge => ?_⟩
  · have hkl : k < l.length := by omega
    have hnx : runS ⟨vol, per, pend⟩ (l.take (k + 1)) = stepM (runS ⟨vol, per, pend⟩ (l.take k)) (l.getD k ⟨0, 0, 0⟩) := by
      rw [take_next l k ⟨0, 0, 0⟩ hkl, runS_append]; rfl
    have hx := hl _ (getD_mem l k ⟨0, 0, 0⟩ hkl)
    generalize l.getD k ⟨0, 0, 0⟩ = x at *
    generalize runS ⟨vol, per, pend⟩ (l.take k) = m at *
    have hsm : smallM m.vol m.per m.pend := OkM.small okk (by omega)
    refine ⟨by omega, ?_⟩
    rcases hx with ⟨hkd, h0, h1⟩ | ⟨hkd, h0, h1, _⟩
    · have hp : placeB m.vol m.per m.pend x.at_ = true := place_iff.2 ⟨⟨h0, by omega⟩, okk⟩
      have hst : stepM m x = store m x.at_ x.val := by unfold stepM; rw [if_pos hkd]
      have e : (if x.kind = 2 then some 89 else if x.kind = 1 then some 88 else none : Option Nat) = some 88 := by rw [if_neg (by omega), if_pos hkd]
      simp only [e, micro_doer_store.K, micro_doer_store.H, pmem_Put.C, putM_ok hp, go_sem, Nat.reduceEqDiff, Nat.reduceLT, Nat.reduceAdd, Nat.reduceSub, Nat.reduceLeDiff, List.reduceReplicate, Int.reduceToNat]
      refine ⟨by omega, ⟨hsm, by unfold roomy; omega⟩, back (k + 1) (by omega) (by rw [wnext (by omega)]) ?_ (by omega)⟩
      rw [hnx, hst]; rfl
    · have hp : placeB m.vol m.per m.pend (firstI m.vol x.at_) = true := (OkM.first okk h0 (by omega)).2
      have hst : stepM m x = persist m x.at_ := by unfold stepM; rw [if_neg (by omega)]
      have e : (if x.kind = 2 then some 89 else if x.kind = 1 then some 88 else none : Option Nat) = some 89 := by rw [if_pos hkd]
      have okf := okk.flush x.at_
      simp only [e, micro_doer_persist.K, micro_doer_persist.H, pmem_Flush.C, flushM_ok hp, fenceM_ok, check_iff.2 okf, pmem_Fence.C, go_sem, Nat.reduceEqDiff, Nat.reduceLT, Nat.reduceAdd, Nat.reduceSub, Nat.reduceLeDiff, List.reduceReplicate, Int.reduceToNat]
      refine ⟨by omega, hsm, OkM.small okf (by rw [flushP_len]; omega), back (k + 1) (by omega) (by rw [wnext (by omega)]) ?_ (by omega)⟩
      rw [hnx, hst]; rfl
  · have : k = n.toNat := by omega
    subst this
    refine post_val ?_ rfl
    simp only [go_sem, Nat.reduceEqDiff, Nat.reduceLT, Nat.reduceAdd, Nat.reduceSub, Nat.reduceLeDiff, List.reduceReplicate, Int.reduceToNat]

def soundB (m : Mm) (l : List Mic) : Bool := m.okB && stepsB l m.vol.length
def micro_sound.C : Contract
  | [.agg [.sl false (.ints .i64 vol), .sl false (.ints .i64 per), .sl false (.pends pend)], .sl _ (.mics l)] => some (false, pD (smallM vol per pend ∧ roomy l.length) (.bool (soundB ⟨vol, per, pend⟩ l)))
  | _ => none
set_option maxRecDepth 20000 in
theorem micro_sound.spec : FSpec Try.prog 52 micro_sound.C := by
  refine FSpec.of (ctx_ok (F := [(19, pmem_Check.C), (21, micro_Check.C)]) (S := []) (by simpa using ⟨pmem_Check.spec, micro_Check.spec⟩) (by simp) micro_sound.loops) micro_sound.at micro_sound.nm micro_sound.bd ?_
  intro vs b S v news e hS
  unfold micro_sound.C at e
  split at e
  rotate_left
  · cases e
  cases e
  rw [micro_sound.eq]
  unfold micro_sound.H
  simp (maxSteps := 4000000) only [go_sem, Nat.reduceEqDiff, Nat.reduceLT, Nat.reduceAdd, Nat.reduceSub, Nat.reduceLeDiff, List.reduceReplicate, Int.reduceToNat, pmem_Check.C, micro_Check.C]
  exact ⟨hS.1, fun _ => hS.2, post_val rfl rfl⟩
/-- steps that may be, on a memory that may be -/
theorem sound_iff {m : Mm} {l : List Mic} : soundB m l = true ↔ m.ok ∧ ∀ x ∈ l, MayN x m.vol.length := by
  unfold soundB stepsB
  rw [Bool.and_eq_true, Bool.and_eq_true, Mm.ok_iff, List.all_eq_true]
  constructor
  · rintro ⟨h1, _, h2⟩
    exact ⟨h1, fun x hx => (mmay_iff h1.sz).1 (h2 x hx)⟩
  · rintro ⟨h1, h2⟩
    have hmd := h1.md
    have hsz := h1.sz
    refine ⟨h1, ?_, fun x hx => (mmay_iff h1.sz).2 (h2 x hx)⟩
    unfold sizedB
    simp only [Bool.and_eq_true, decide_eq_true_eq]
    refine ⟨⟨by omega, by omega⟩, ?_⟩
    rw [Int.tmod_eq_emod_of_nonneg (by omega)]; omega
def runV (m : Mm) (l : List Mic) : AV := if soundB m l = true then .tup [(runS m l).V, .int .i64 0] else .tup [m.V, .int .i64 40]
theorem runV_ok {m : Mm} {l : List Mic} (h : soundB m l = true) : runV m l = .tup [(runS m l).V, .int .i64 0] := by unfold runV; simp only [h, if_true]
theorem runV_no {m : Mm} {l : List Mic} (h : soundB m l = false) : runV m l = .tup [m.V, .int .i64 40] := by unfold runV; rw [h]; rfl
theorem runV_ex (m : Mm) (l : List Mic) : ∃ (A : Mm) (e : Int), runV m l = .tup [A.V, .int .i64 e] ∧ A.vol.length = m.vol.length ∧ A.per.length = m.per.length ∧ A.pend.length ≤ m.pend.length + l.length := by
  cases h : soundB m l with
  | true => exact ⟨_, _, runV_ok h, runS_len _ _, runS_per _ _, runS_pend_le _ _⟩
  | false => exact ⟨_, _, runV_no h, rfl, rfl, Nat.le_add_right _ _⟩
def micro_Run.C : Contract
  | [.agg [.sl false (.ints .i64 vol), .sl false (.ints .i64 per), .sl false (.pends pend)], .sl _ (.mics l)] => some (false, pD (smallM vol per pend ∧ pend.length + l.length ≤ 1000000) (runV ⟨vol, per, pend⟩ l))
  | _ => none
set_option maxRecDepth 20000 in
theorem micro_Run.spec : FSpec Try.prog 17 micro_Run.C := by
  refine FSpec.of (ctx_ok (F := [(52, micro_sound.C), (53, micro_first.C)]) (S := []) (by simpa using ⟨micro_sound.spec, micro_first.spec⟩) (by simp) micro_Run.loops) micro_Run.at micro_Run.nm micro_Run.bd ?_
  intro vs b S v news e hS
  unfold micro_Run.C at e
  split at e
  rotate_left
  · cases e
  cases e
  rw [micro_Run.eq]
  unfold micro_Run.H
  simp (maxSteps := 4000000) only [go_sem, Nat.reduceEqDiff, Nat.reduceLT, Nat.reduceAdd, Nat.reduceSub, Nat.reduceLeDiff, List.reduceReplicate, Int.reduceToNat, micro_sound.C, micro_first.C]
  rename_i vol per pend _ l
  obtain ⟨hs, hz⟩ := hS
  refine ⟨⟨hs, by unfold roomy; omega⟩, fun h => ?_, fun h => ?_⟩
  · unfold runV; rw [h]; exact post_val rfl rfl
  · obtain ⟨ok, hl⟩ := sound_iff.1 h
    refine ⟨⟨ok, hl, hz, by omega, by omega⟩, ?_⟩
    unfold runV; simp only [h, if_true]
    refine post_val ?_ rfl
    simp only [go_sem, Nat.reduceEqDiff, Nat.reduceLT, Nat.reduceAdd, Nat.reduceSub, Nat.reduceLeDiff, List.reduceReplicate, Int.reduceToNat, Int.toNat_natCast, List.take_length]
def micro_Do.C : Contract
  | [.agg [.sl false (.ints .i64 vol), .sl false (.ints .i64 per), .sl false (.pends pend)], .agg [.int .i64 a, .int .i64 b, .int .i64 c]] => some (false, pD (smallM vol per pend ∧ pend.length + 1 ≤ 1000000) (runV ⟨vol, per, pend⟩ [⟨a, b, c⟩]))
  | _ => none
set_option maxRecDepth 20000 in
theorem micro_Do.spec : FSpec Try.prog 51 micro_Do.C := by
  refine FSpec.of (ctx_ok (F := [(17, micro_Run.C)]) (S := []) (by simpa using micro_Run.spec) (by simp) micro_Do.loops) micro_Do.at micro_Do.nm micro_Do.bd ?_
  intro vs b S v news e hS
  unfold micro_Do.C at e
  split at e
  rotate_left
  · cases e
  cases e
  rw [micro_Do.eq]
  unfold micro_Do.H
  simp (maxSteps := 4000000) only [go_sem, Nat.reduceEqDiff, Nat.reduceLT, Nat.reduceAdd, Nat.reduceSub, Nat.reduceLeDiff, List.reduceReplicate, Int.reduceToNat, micro_Run.C]
  rename_i vol per pend a b c
  unfold runV
  cases h : soundB ⟨vol, per, pend⟩ [⟨a, b, c⟩]
  · simp only [joinW_eq, guard_tt, guard_tf, guard_ft, guard_ff, Int.reduceEq, Int.reduceLT, Int.reduceLE, decide_false, decide_true, Bool.not_false, Bool.not_true, Bool.not_not, not_true_eq_false, not_false_eq_true, true_implies, false_implies, implies_true, and_true, true_and, reduceCtorEq, Bool.and_self, Bool.or_self, Bool.and_true, Bool.true_and, Bool.false_eq_true, if_true, if_false, go_sem, Nat.reduceEqDiff, Nat.reduceLT, Nat.reduceAdd, Nat.reduceSub, Nat.reduceLeDiff, List.reduceReplicate, Int.reduceToNat]
    exact ⟨⟨hS.1, by omega⟩, post_val rfl rfl⟩
  · simp only [joinW_eq, guard_tt, guard_tf, guard_ft, guard_ff, Int.reduceEq, Int.reduceLT, Int.reduceLE, decide_false, decide_true, Bool.not_false, Bool.not_true, Bool.not_not, not_true_eq_false, not_false_eq_true, true_implies, false_implies, implies_true, and_true, true_and, reduceCtorEq, Bool.and_self, Bool.or_self, Bool.and_true, Bool.true_and, Bool.false_eq_true, if_true, if_false, go_sem, Nat.reduceEqDiff, Nat.reduceLT, Nat.reduceAdd, Nat.reduceSub, Nat.reduceLeDiff, List.reduceReplicate, Int.reduceToNat]
    exact ⟨⟨hS.1, by omega⟩, post_val rfl rfl⟩
def cutI (n : Int) (len : Nat) : Int := if (if (len : Int) < n then (len : Int) else n) > 0 then (if (len : Int) < n then (len : Int) else n) else 0
theorem cutI_range (n : Int) (len : Nat) : 0 ≤ cutI n len ∧ cutI n len ≤ (len : Int) := by unfold cutI; split <;> (try split) <;> omega
theorem cutI_nat {n len : Nat} (h : n ≤ len) : (cutI n len).toNat = n := by unfold cutI; split <;> (try split) <;> omega
def mcrashV (m : Mm) (l : List Mic) (n : Int) (keep : List Int) : AV := if soundB m l = true then .tup [.sl false (.ints .i64 (crashW keep (runS m (l.take (cutI n l.length).toNat)).per (runS m (l.take (cutI n l.length).toNat)).pend)), .int .i64 0] else .tup [.sl false (.ints .i64 []), .int .i64 40]
theorem mcrash_ok {m : Mm} {l : List Mic} {n : Int} {keep : List Int} (h : soundB m l = true) : mcrashV m l n keep = .tup [.sl false (.ints .i64 (crashW keep (runS m (l.take (cutI n l.length).toNat)).per (runS m (l.take (cutI n l.length).toNat)).pend)), .int .i64 0] := by unfold mcrashV; simp only [h, if_true]
theorem mcrash_no {m : Mm} {l : List Mic} {n : Int} {keep : List Int} (h : soundB m l = false) : mcrashV m l n keep = .tup [.sl false (.ints .i64 []), .int .i64 40] := by unfold mcrashV; rw [h]; rfl
theorem mcrash_ex (m : Mm) (l : List Mic) (n : Int) (keep : List Int) : ∃ (w : List Int) (e : Int), mcrashV m l n keep = .tup [.sl false (.ints .i64 w), .int .i64 e] ∧ w.length ≤ m.per.length := by
  cases h : soundB m l with
  | true => exact ⟨_, _, mcrash_ok h, by rw [crashW_len, runS_per]; exact Nat.le_refl _⟩
  | false => exact ⟨_, _, mcrash_no h, Nat.zero_le _⟩
def micro_Crash.C : Contract
  | [.agg [.sl false (.ints .i64 vol), .sl false (.ints .i64 per), .sl false (.pends pend)], .sl _ (.mics l), .int .i64 n, .sl _ (.ints .i64 keep)] => some (false, pD (smallM vol per pend ∧ pend.length + l.length ≤ 1000000 ∧ roomy keep.length ∧ i64s keep) (mcrashV ⟨vol, per, pend⟩ l n keep))
  | _ => none
set_option maxRecDepth 20000 in
theorem micro_Crash.spec : FSpec Try.prog 20 micro_Crash.C := by
  refine FSpec.of (ctx_ok (F := [(52, micro_sound.C), (53, micro_first.C), (57, pmem_Crash.C)]) (S := []) (by simpa using ⟨micro_sound.spec, micro_first.spec, pmem_Crash.spec⟩) (by simp) micro_Crash.loops) micro_Crash.at micro_Crash.nm micro_Crash.bd ?_
  intro vs b S v news e hS
  unfold micro_Crash.C at e
  split at e
  rotate_left
  · cases e
  cases e
  rw [micro_Crash.eq]
  unfold micro_Crash.H
  simp (maxSteps := 4000000) only [go_sem, Nat.reduceEqDiff, Nat.reduceLT, Nat.reduceAdd, Nat.reduceSub, Nat.reduceLeDiff, List.reduceReplicate, Int.reduceToNat, micro_sound.C, micro_first.C, pmem_Crash.C]
  rename_i vol per pend _ l n _ keep
  obtain ⟨hs, hz, hk1, hk2⟩ := hS
  have hfold : (if (if (l.length : Int) < n then (l.length : Int) else n) > 0 then (if (l.length : Int) < n then (l.length : Int) else n) else 0) = cutI n l.length := rfl
  rw [hfold]
  have hc := cutI_range n l.length
  refine ⟨⟨hs, by unfold roomy; omega⟩, fun h => ?_, fun h => ?_⟩
  · unfold mcrashV; rw [h]; exact post_val rfl rfl
  · obtain ⟨ok, hl⟩ := sound_iff.1 h
    unfold mcrashV; simp only [h, if_true]
    have okk := runS_ok (l.take (cutI n l.length).toNat) ok fun x hx => hl x ((List.take_sublist _ _).subset hx)
    have pendk := runS_pend_le (l.take (cutI n l.length).toNat) ⟨vol, per, pend⟩
    rw [List.length_take] at pendk
    simp only [] at pendk
    generalize runS ⟨vol, per, pend⟩ (l.take (cutI n l.length).toNat) = m at *
    have hsm : smallM m.vol m.per m.pend := OkM.small okk (by omega)
    have hck : checkB m.vol m.per m.pend = true := check_iff.2 okk
    simp only [hck, crashM_ok, go_sem, Nat.reduceEqDiff, Nat.reduceLT, Nat.reduceAdd, Nat.reduceSub, Nat.reduceLeDiff, List.reduceReplicate, Int.reduceToNat]
    exact ⟨⟨ok, hl, hz, hc⟩, ⟨hsm, hk1, hk2⟩, post_val rfl rfl⟩
end Lam
namespace Lam
open Go Go.Proofs
set_option linter.unusedVariables false
def super_Words.loops : Nat → LInfo
  | _ => ⟨[], [], [], [], []⟩
def super_Words.H (c : Ctx) (t0 : AV) (t1 : AV) (h : List AObj) (K : AOut → List AObj → Prop) : Prop :=
  callW c (.fn (.func 61) [] []) [t0, t1] h (fun t10 h =>
  allocW T_super_head h fun t6 h =>
  runH (storeH T_super_head h t6 t10) h fun _ h =>
  runD (fitD T_super_head (loadD h t6)) h fun t11 h =>
  callW c (.fn (.func 62) [] []) [t11] h (fun t12 h =>
  runD (unD .not t12) h fun t13 h =>
  condW t13
  (K (.ret (.tup [(.sl true (.ints .i64 [])), (.int .i64 1)])) h)
  (runD (makeSliceD T_sl_int (.int .i64 16) (.int .i64 16) h.length) h fun t14 h =>
  runD (fieldAddrD T_super_head t6 0) h fun t16 h =>
  runD (fitD T_int (loadD h t16)) h fun t17 h =>
  runD (fieldAddrD T_super_head t6 1) h fun t18 h =>
  runD (fitD T_int (loadD h t18)) h fun t19 h =>
  runD (fieldAddrD T_super_head t6 2) h fun t20 h =>
  runD (fitD T_int (loadD h t20)) h fun t21 h =>
  runD (fieldAddrD T_super_head t6 3) h fun t22 h =>
  runD (fitD T_int (loadD h t22)) h fun t23 h =>
  runD (buildSliceD T_sl_int 4 [(0, t17), (1, t19), (2, t21), (3, t23)] h.length) h fun t24 h =>
  runM (copyH T_sl_int h t14 t24) h fun t25 h =>
  K (.ret (.tup [t14, (.int .i64 0)])) h))
  (fun v h => K (.pan v) h))
  (fun v h => K (.pan v) h)
def super_Root.loops : Nat → LInfo
  | 2 => ⟨[], [], [], [(6, none), (3, some [16, 19])], []⟩
  | _ => ⟨[], [], [], [], []⟩
def super_Root.H (c : Ctx) (t0 : AV) (t1 : AV) (h : List AObj) (K : AOut → List AObj → Prop) : Prop :=
  runD (buildD T_api_Micro [(0, (.int .i64 1)), (1, (.int .i64 3)), (2, t1)]) h fun t8 h =>
  runD (buildD T_api_Micro [(0, (.int .i64 2))]) h fun t9 h =>
  runD (buildSliceD T_sl_api_Micro 2 [(0, t8), (1, t9)] h.length) h fun t10 h =>
  callW c (.fn (.func 61) [] []) [t0, t1] h (fun t13 h =>
  callW c (.fn (.func 62) [] []) [t13] h (fun t14 h =>
  runD (unD .not t14) h fun t15 h =>
  joinW (fun (J1 : AV → AV → List AObj → Prop) =>
  guardW t15 false
  (callW c (.fn (.func 21) [] []) [t10, (.int .i64 16)] h (fun t18 h =>
    runD (unD .not t18) h fun t19 h =>
    J1 (.bool false) t19 h)
    (fun v h => K (.pan v) h))
  (J1 (.bool true) .und h))
  (fun t16 t19 h => runD (pickD t16 (.bool true) t19) h fun t20 h =>
  condW t20
  (K (.ret (.tup [(.sl true (.mics [])), (.int .i64 1)])) h)
  (K (.ret (.tup [t10, (.int .i64 0)])) h)))
  (fun v h => K (.pan v) h))
  (fun v h => K (.pan v) h)
def super_Read.loops : Nat → LInfo
  | 6 => ⟨[47], [false], [5, 45, 46], [], []⟩
  | _ => ⟨[], [], [], [], []⟩
def super_Read.L1 (c : Ctx) (J1 : List AObj → Prop) (J4 : AV → List AObj → Prop) (K : AOut → List AObj → Prop) (lv : List AV) (h0 : List AObj) (n0 : Nat) (c5 : AV) (c45 : AV) (c46 : AV) : Prop :=
  ∃ I : Nat → List AV → List AObj → Prop, (∃ n, I n lv h0) ∧ ∀ n h, ∀ t47, I n [t47] h →
    runD (binD T_int .lss t47 c46) h fun t48 h =>
    condW t48
    (runD (indexAddrD T_sl_int h c45 t47) h fun t49 h =>
    runD (fitD T_int (loadD h t49)) h fun t50 h =>
    runD (binD T_int .neq t50 (.int .i64 0)) h fun t52 h =>
    condW t52
    (J1 h)
    (runD (binD T_int .add t47 (.int .i64 1)) h fun t53 h =>
    (∃ m, m < n ∧ I m (AV.norms n0 h [t53]) (normH n0 h)) ∧ AV.norms n0 h [c5, c45, c46] = [c5, c45, c46]))
    (J4 c5 h)
def super_Read.H (c : Ctx) (t0 : AV) (h : List AObj) (K : AOut → List AObj → Prop) : Prop :=
  joinW (fun (J1 : List AObj → Prop) =>
  allocW T_super_head h fun t5 h =>
  runD (lenD T_sl_int h t0) h fun t9 h =>
  runD (binD T_int .lss t9 (.int .i64 32)) h fun t10 h =>
  condW t10
  (J1 h)
  (runD (indexAddrD T_sl_int h t0 (.int .i64 0)) h fun t12 h =>
  runD (fitD T_int (loadD h t12)) h fun t13 h =>
  runD (indexAddrD T_sl_int h t0 (.int .i64 1)) h fun t15 h =>
  runD (fitD T_int (loadD h t15)) h fun t16 h =>
  runD (indexAddrD T_sl_int h t0 (.int .i64 2)) h fun t18 h =>
  runD (fitD T_int (loadD h t18)) h fun t19 h =>
  runD (indexAddrD T_sl_int h t0 (.int .i64 3)) h fun t21 h =>
  runD (fitD T_int (loadD h t21)) h fun t22 h =>
  runD (buildD T_super_head [(0, t13), (1, t16), (2, t19), (3, t22)]) h fun t23 h =>
  runH (storeH T_super_head h t5 t23) h fun _ h =>
  runD (fitD T_super_head (loadD h t5)) h fun t24 h =>
  runD (fieldAddrD T_super_head t5 1) h fun t25 h =>
  runD (fitD T_int (loadD h t25)) h fun t26 h =>
  runD (fieldAddrD T_super_head t5 3) h fun t27 h =>
  runD (fitD T_int (loadD h t27)) h fun t28 h =>
  callW c.noS (.fn (.func 61) [] []) [t26, t28] h (fun t29 h =>
  runD (binD T_super_head .neq t24 t29) h fun t30 h =>
  joinW (fun (J2 : AV → AV → List AObj → Prop) =>
  guardW t30 false
  (runD (fitD T_super_head (loadD h t5)) h fun t32 h =>
    callW c.noS (.fn (.func 62) [] []) [t32] h (fun t33 h =>
    runD (unD .not t33) h fun t34 h =>
    J2 (.bool false) t34 h)
    (fun _ _ => False))
  (J2 (.bool true) .und h))
  (fun t31 t34 h => runD (pickD t31 (.bool true) t34) h fun t35 h =>
  joinW (fun (J3 : AV → AV → List AObj → Prop) =>
  guardW t35 false
  (runD (fieldAddrD T_super_head t5 1) h fun t37 h =>
    runD (fitD T_int (loadD h t37)) h fun t38 h =>
    runD (lenD T_sl_int h t0) h fun t40 h =>
    runD (binD T_int .quo t40 (.int .i64 16)) h fun t41 h =>
    runD (binD T_int .neq t38 t41) h fun t42 h =>
    J3 (.bool false) t42 h)
  (J3 (.bool true) .und h))
  (fun t36 t42 h => runD (pickD t36 (.bool true) t42) h fun t43 h =>
  condW t43
  (J1 h)
  (runD (sliceD T_sl_int h t0 (some (.int .i64 4)) (some (.int .i64 16)) none) h fun t45 h =>
  runD (lenD T_sl_int h t45) h fun t46 h =>
  joinW (fun (J4 : AV → List AObj → Prop) =>
  promV [false] [(.int .i64 0)] h fun lv h => super_Read.L1 c J1 J4 K (AV.norms h.length h lv) (normH h.length h) h.length (AV.norm h.length h t5) (AV.norm h.length h t45) (AV.norm h.length h t46))
  (fun t5 h => runD (fieldAddrD T_super_head t5 1) h fun t54 h =>
  runD (fitD T_int (loadD h t54)) h fun t55 h =>
  runD (fieldAddrD T_super_head t5 3) h fun t56 h =>
  runD (fitD T_int (loadD h t56)) h fun t57 h =>
  K (.ret (.tup [t55, t57, (.int .i64 0)])) h)))))
  (fun _ _ => False)))
  (fun h => K (.ret (.tup [(.int .i64 0), (.int .i64 0), (.int .i64 80)])) h)
def super_of.loops : Nat → LInfo
  | _ => ⟨[], [], [], [], []⟩
def super_of.H (c : Ctx) (t0 : AV) (t1 : AV) (h : List AObj) (K : AOut → List AObj → Prop) : Prop :=
  allocW T_super_head h fun t4 h =>
  runD (buildSliceD T_sl_int 2 [(0, (.int .i64 7015)), (1, t0)] h.length) h fun t7 h =>
  callW c (.fn (.func 81) [] []) [t7] h (fun t8 h =>
  runD (buildD T_super_head [(0, (.int .i64 7015)), (1, t0), (2, t8), (3, t1)]) h fun t10 h =>
  runH (storeH T_super_head h t4 t10) h fun _ h =>
  loadRes (fitD T_super_head (loadD h t4)) fun r0 => K (.ret r0) h)
  (fun v h => K (.pan v) h)
def super_head_may.loops : Nat → LInfo
  | 1 => ⟨[], [], [], [(4, none), (3, some [6, 9]), (2, none), (3, some [11, 14]), (2, none), (5, some [16, 21])], []⟩
  | _ => ⟨[], [], [], [], []⟩
def super_head_may.H (c : Ctx) (t0 : AV) (h : List AObj) (K : AOut → List AObj → Prop) : Prop :=
  boxW T_super_head t0 h fun t1 h =>
  runD (fieldAddrD T_super_head t1 1) h fun t3 h =>
  runD (fitD T_int (loadD h t3)) h fun t4 h =>
  runD (binD T_int .geq t4 (.int .i64 2)) h fun t5 h =>
  joinW (fun (J1 : AV → AV → List AObj → Prop) =>
  guardW t5 true
  (runD (fieldAddrD T_super_head t1 1) h fun t7 h =>
    runD (fitD T_int (loadD h t7)) h fun t8 h =>
    runD (binD T_int .leq t8 (.int .i64 256)) h fun t9 h =>
    J1 (.bool true) t9 h)
  (J1 (.bool false) .und h))
  (fun t6 t9 h => runD (pickD t6 t9 (.bool false)) h fun t10 h =>
  joinW (fun (J2 : AV → AV → List AObj → Prop) =>
  guardW t10 true
  (runD (fieldAddrD T_super_head t1 3) h fun t12 h =>
    runD (fitD T_int (loadD h t12)) h fun t13 h =>
    runD (binD T_int .geq t13 (.int .i64 1)) h fun t14 h =>
    J2 (.bool true) t14 h)
  (J2 (.bool false) .und h))
  (fun t11 t14 h => runD (pickD t11 t14 (.bool false)) h fun t15 h =>
  joinW (fun (J3 : AV → AV → List AObj → Prop) =>
  guardW t15 true
  (runD (fieldAddrD T_super_head t1 3) h fun t17 h =>
    runD (fitD T_int (loadD h t17)) h fun t18 h =>
    runD (fieldAddrD T_super_head t1 1) h fun t19 h =>
    runD (fitD T_int (loadD h t19)) h fun t20 h =>
    runD (binD T_int .lss t18 t20) h fun t21 h =>
    J3 (.bool true) t21 h)
  (J3 (.bool false) .und h))
  (fun t16 t21 h => runD (pickD t16 t21 (.bool false)) h fun t22 h =>
  K (.ret t22) h)))
theorem super_Words.eq (F : List (FuncId × Contract)) (S : List (FuncId × Con)) (t0 t1 : AV) (h : List AObj) (K : AOut → List AObj → Prop) : funW (ctx F S super_Words.loops) Try.f25 [t0, t1] h K = super_Words.H (ctx F S super_Words.loops) t0 t1 h K := by kernel_rfl
theorem super_Root.eq (F : List (FuncId × Contract)) (S : List (FuncId × Con)) (t0 t1 : AV) (h : List AObj) (K : AOut → List AObj → Prop) : funW (ctx F S super_Root.loops) Try.f26 [t0, t1] h K = super_Root.H (ctx F S super_Root.loops) t0 t1 h K := by kernel_rfl
theorem super_Read.eq (F : List (FuncId × Contract)) (S : List (FuncId × Con)) (t0 : AV) (h : List AObj) (K : AOut → List AObj → Prop) : funW (ctx F S super_Read.loops) Try.f28 [t0] h K = super_Read.H (ctx F S super_Read.loops) t0 h K := by kernel_rfl
theorem super_of.eq (F : List (FuncId × Contract)) (S : List (FuncId × Con)) (t0 t1 : AV) (h : List AObj) (K : AOut → List AObj → Prop) : funW (ctx F S super_of.loops) Try.f61 [t0, t1] h K = super_of.H (ctx F S super_of.loops) t0 t1 h K := by kernel_rfl
theorem super_head_may.eq (F : List (FuncId × Contract)) (S : List (FuncId × Con)) (t0 : AV) (h : List AObj) (K : AOut → List AObj → Prop) : funW (ctx F S super_head_may.loops) Try.f62 [t0] h K = super_head_may.H (ctx F S super_head_may.loops) t0 h K := by kernel_rfl
theorem super_Words.at : Try.prog.funcs[25]? = some Try.f25 := by kernel_rfl
theorem super_Words.nm : (Try.f25.name == "runtime.NumGoroutine") = false := by kernel_rfl
theorem super_Words.bd : Try.f25.body.isNone = false := by kernel_rfl
theorem super_Root.at : Try.prog.funcs[26]? = some Try.f26 := by kernel_rfl
theorem super_Root.nm : (Try.f26.name == "runtime.NumGoroutine") = false := by kernel_rfl
theorem super_Root.bd : Try.f26.body.isNone = false := by kernel_rfl
theorem super_Read.at : Try.prog.funcs[28]? = some Try.f28 := by kernel_rfl
theorem super_Read.nm : (Try.f28.name == "runtime.NumGoroutine") = false := by kernel_rfl
theorem super_Read.bd : Try.f28.body.isNone = false := by kernel_rfl
theorem super_of.at : Try.prog.funcs[61]? = some Try.f61 := by kernel_rfl
theorem super_of.nm : (Try.f61.name == "runtime.NumGoroutine") = false := by kernel_rfl
theorem super_of.bd : Try.f61.body.isNone = false := by kernel_rfl
theorem super_head_may.at : Try.prog.funcs[62]? = some Try.f62 := by kernel_rfl
theorem super_head_may.nm : (Try.f62.name == "runtime.NumGoroutine") = false := by kernel_rfl
theorem super_head_may.bd : Try.f62.body.isNone = false := by kernel_rfl
end Lam
namespace Lam
open Go Go.Proofs
set_option linter.unusedVariables false
set_option linter.unnecessarySimpa false
set_option linter.unusedSimpArgs false
def headV (b r : Int) : AV := .agg [.int .i64 7015, .int .i64 b, .int .i64 (sumOf [7015, b]), .int .i64 r]
def super_of.C : Contract
  | [.int .i64 b, .int .i64 r] => some (false, pD True (headV b r))
  | _ => none
set_option maxRecDepth 20000 in
theorem super_of.spec : FSpec Try.prog 61 super_of.C := by
  refine FSpec.of (ctx_ok (F := [(81, sum_Of.C)]) (S := []) (by simpa using sum_Of.spec) (by simp) super_of.loops) super_of.at super_of.nm super_of.bd ?_
  intro vs b S v news e hS
  unfold super_of.C at e
  split at e
  rotate_left
  · cases e
  cases e
  rw [super_of.eq]
  unfold super_of.H
  simp (maxSteps := 4000000) only [go_sem, Nat.reduceEqDiff, Nat.reduceLT, Nat.reduceAdd, Nat.reduceSub, Nat.reduceLeDiff, List.reduceReplicate, Int.reduceToNat, sum_Of.C]
  exact ⟨by unfold roomy; decide, post_val rfl rfl⟩
def mayB (b r : Int) : Bool := decide (2 ≤ b) && decide (b ≤ 256) && decide (1 ≤ r) && decide (r < b)
def super_head_may.C : Contract
  | [.agg [.int .i64 _, .int .i64 b, .int .i64 _, .int .i64 r]] => some (false, pD True (.bool (mayB b r)))
  | _ => none
set_option maxRecDepth 20000 in
theorem super_head_may.spec : FSpec Try.prog 62 super_head_may.C := by
  refine FSpec.of (ctx_ok (F := []) (S := []) (by simp) (by simp) super_head_may.loops) super_head_may.at super_head_may.nm super_head_may.bd ?_
  intro vs b S v news e hS
  unfold super_head_may.C at e
  split at e
  rotate_left
  · cases e
  cases e
  rw [super_head_may.eq]
  unfold super_head_may.H
  simp (maxSteps := 4000000) only [go_sem, Nat.reduceEqDiff, Nat.reduceLT, Nat.reduceAdd, Nat.reduceSub, Nat.reduceLeDiff, List.reduceReplicate, Int.reduceToNat]
  exact post_val rfl rfl
def superW (b r : Int) : List Int := [7015, b, sumOf [7015, b], r] ++ List.replicate 12 0
def super_Words.C : Contract
  | [.int .i64 b, .int .i64 r] => some (false, pD True (if mayB b r = true then .tup [.sl false (.ints .i64 (superW b r)), .int .i64 0] else .tup [.sl false (.ints .i64 []), .int .i64 1]))
  | _ => none
set_option maxRecDepth 20000 in
theorem super_Words.spec : FSpec Try.prog 25 super_Words.C := by
  refine FSpec.of (ctx_ok (F := [(61, super_of.C), (62, super_head_may.C)]) (S := []) (by simpa using ⟨super_of.spec, super_head_may.spec⟩) (by simp) super_Words.loops) super_Words.at super_Words.nm super_Words.bd ?_
  intro vs b S v news e hS
  unfold super_Words.C at e
  split at e
  rotate_left
  · cases e
  cases e
  rw [super_Words.eq]
  unfold super_Words.H
  simp (maxSteps := 4000000) only [go_sem, Nat.reduceEqDiff, Nat.reduceLT, Nat.reduceAdd, Nat.reduceSub, Nat.reduceLeDiff, List.reduceReplicate, Int.reduceToNat, super_of.C, super_head_may.C, headV]
  refine ⟨fun h => ?_, fun h => ?_⟩
  · simp only [h, Bool.false_eq_true, if_false]; exact post_val rfl rfl
  · refine ⟨by unfold roomy; decide, ?_⟩
    simp only [h, if_true]; exact post_val rfl rfl

def super_Root.C : Contract
  | [.int .i64 b, .int .i64 r] => some (false, pD True (if mayB b r = true then .tup [.sl false (.mics [⟨1, 3, r⟩, ⟨2, 0, 0⟩]), .int .i64 0] else .tup [.sl false (.mics []), .int .i64 1]))
  | _ => none
set_option maxRecDepth 20000 in
theorem super_Root.spec : FSpec Try.prog 26 super_Root.C := by
  refine FSpec.of (ctx_ok (F := [(61, super_of.C), (62, super_head_may.C), (21, micro_Check.C)]) (S := []) (by simpa using ⟨super_of.spec, super_head_may.spec, micro_Check.spec⟩) (by simp) super_Root.loops) super_Root.at super_Root.nm super_Root.bd ?_
  intro vs b S v news e hS
  unfold super_Root.C at e
  split at e
  rotate_left
  · cases e
  cases e
  rw [super_Root.eq]
  unfold super_Root.H
  simp (maxSteps := 4000000) only [go_sem, Nat.reduceEqDiff, Nat.reduceLT, Nat.reduceAdd, Nat.reduceSub, Nat.reduceLeDiff, List.reduceReplicate, Int.reduceToNat, super_of.C, super_head_may.C, micro_Check.C, headV]
  rename_i b r
  have h1 : (sizedB 16 && [({ kind := 1, at_ := 3, val := r } : Mic), { kind := 2, at_ := 0, val := 0 }].all fun x => mmay x 16) = true := by
    simp [sizedB, mmay, w64]
  simp only [h1, go_sem, Nat.reduceEqDiff, Nat.reduceLT, Nat.reduceAdd, Nat.reduceSub, Nat.reduceLeDiff, List.reduceReplicate, Int.reduceToNat]
  refine ⟨fun _ => by unfold roomy; decide, ?_⟩
  cases hm : mayB b r with
  | true =>
    simp only [if_true, go_sem, Nat.reduceEqDiff, Nat.reduceLT, Nat.reduceAdd, Nat.reduceSub, Nat.reduceLeDiff, List.reduceReplicate, Int.reduceToNat]
    exact post_val rfl rfl
  | false =>
    simp only [Bool.false_eq_true, if_false, go_sem, Nat.reduceEqDiff, Nat.reduceLT, Nat.reduceAdd, Nat.reduceSub, Nat.reduceLeDiff, List.reduceReplicate, Int.reduceToNat]
    exact post_val rfl rfl

def headB (l : List Int) : Bool := decide (l.getD 0 0 = 7015) && decide (l.getD 2 0 = sumOf [7015, l.getD 1 0]) && mayB (l.getD 1 0) (l.getD 3 0) && decide (l.getD 1 0 = ((l.length / 16 : Nat) : Int))
def readB (l : List Int) : Bool := decide (32 ≤ l.length) && headB l && ((l.drop 4).take 12).all (fun w => decide (w = 0))
theorem bnot3 (a b m d : Bool) : (!(a && b) || !m || !d) = !(a && b && m && d) := by cases a <;> cases b <;> cases m <;> cases d <;> rfl
def sreadV (l : List Int) : AV := if readB l = true then .tup [.int .i64 (l.getD 1 0), .int .i64 (l.getD 3 0), .int .i64 0] else .tup [.int .i64 0, .int .i64 0, .int .i64 80]
@[go_sem] theorem sreadV_noSl (l : List Int) : (sreadV l).noSl = true := by unfold sreadV; split <;> rfl
def super_Read.C : Contract
  | [.sl _ (.ints .i64 l)] => some (false, pD (roomy l.length) (sreadV l))
  | _ => none
theorem read_bad (l : List Int) (hb : readB l = false) (h : List AObj) : Post false (sreadV l) [] (.ret (.tup [.int .i64 0, .int .i64 0, .int .i64 80])) h := by
  unfold sreadV; rw [hb]; exact post_val rfl rfl
set_option maxRecDepth 20000 in
theorem super_Read.spec : FSpec Try.prog 28 super_Read.C := by
  refine FSpec.of (ctx_ok (F := [(61, super_of.C), (62, super_head_may.C)]) (S := []) (by simpa using ⟨super_of.spec, super_head_may.spec⟩) (by simp) super_Read.loops) super_Read.at super_Read.nm super_Read.bd ?_
  intro vs b S v news e hS
  unfold super_Read.C at e
  split at e
  rotate_left
  · cases e
  cases e
  rw [super_Read.eq]
  unfold super_Read.H
  simp (maxSteps := 4000000) only [go_sem, Nat.reduceEqDiff, Nat.reduceLT, Nat.reduceAdd, Nat.reduceSub, Nat.reduceLeDiff, List.reduceReplicate, Int.reduceToNat, super_of.C, super_head_may.C, headV]
  rename_i l
  unfold roomy at hS
  have hw : IntKind.i64.wrap ((l.length : Int).tdiv 16) = ((l.length / 16 : Nat) : Int) := by rw [tdiv16]; apply w64 <;> omega
  rw [joinW_eq]
  refine ⟨fun h => ?_, fun h => ?_⟩
  · apply read_bad
    have : ¬ 32 ≤ l.length := by omega
    simp [readB, this]
  refine ⟨by omega, by omega, by omega, by omega, by simp, ?_⟩
  rw [hw, bnot3]
  refine ⟨fun hc => read_bad l ?_ _, fun hc => ⟨by omega, ?_⟩⟩
  · have hc : headB l = false := by rw [Bool.not_eq_true'] at hc; exact hc
    simp [readB, hc]
  · have hc : headB l = true := by rw [Bool.not_eq_false'] at hc; exact hc
    have h32 : 32 ≤ l.length := by omega
    have hlen : ((l.drop 4).take 12).length = 12 := by simp; omega
    rw [joinW_eq]
    unfold super_Read.L1
    generalize hz : (l.drop 4).take 12 = z at *
    refine ⟨fun m lv h' => ∃ k : Nat, k + m = z.length ∧ lv = [.int .i64 k] ∧ h' = [.box (.agg [.int .i64 (l.getD 0 0), .int .i64 (l.getD 1 0), .int .i64 (l.getD 2 0), .int .i64 (l.getD 3 0)])] ∧ ∀ y ∈ z.take k, y = 0, ⟨z.length, 0, by omega, rfl, rfl, by simp⟩, ?_⟩
    rintro m h' t8 ⟨k, hk, hlv, rfl, hall⟩
    simp only [List.cons.injEq, and_true] at hlv
    subst hlv
    simp only [go_sem, Nat.reduceEqDiff, Nat.reduceLT, Nat.reduceAdd, Nat.reduceSub, Nat.reduceLeDiff, List.reduceReplicate, Int.reduceToNat]
    refine ⟨fun hlt => ⟨by omega, fun h0 => ?_, fun h0 => ?_⟩, fun hge => ?_⟩
    · apply read_bad
      have hkz : k < z.length := by omega
      have : z.all (fun w => decide (w = 0)) = false := by
        rw [List.all_eq_false]; exact ⟨_, getD_mem z k 0 hkz, by simpa using h0⟩
      simp [readB, hz, this]
    · have hkz : k < z.length := by omega
      refine ⟨m - 1, by omega, k + 1, by omega, by rw [w64 (by omega) (by omega)]; rfl, ?_⟩
      intro y hy
      rw [take_next z k 0 hkz] at hy
      rcases List.mem_append.1 hy with hy | hy
      · exact hall y hy
      · rw [List.mem_singleton.1 hy]; exact h0
    · have : k = z.length := by omega
      subst this
      rw [List.take_length] at hall
      have ha : z.all (fun w => decide (w = 0)) = true := by
        rw [List.all_eq_true]; intro y hy; simpa using hall y hy
      have hb : readB l = true := by simp [readB, hz, ha, hc, h32]
      unfold sreadV
      rw [if_pos hb]
      exact post_val rfl rfl

end Lam
namespace Lam
open Go Go.Proofs
set_option linter.unusedVariables false
def lamplighterref02_Numbers.loops : Nat → LInfo
  | 4 => ⟨[5], [false], [0, 1], [], []⟩
  | _ => ⟨[], [], [], [], []⟩
def lamplighterref02_Numbers.L1 (c : Ctx) (J1 : List AObj → Prop) (K : AOut → List AObj → Prop) (lv : List AV) (h0 : List AObj) (n0 : Nat) (c0 : AV) (c1 : AV) : Prop :=
  ∃ I : Nat → List AV → List AObj → Prop, (∃ n, I n lv h0) ∧ ∀ n h, ∀ t5, I n [t5] h →
    runD (lenD T_sl_int h c0) h fun t13 h =>
    runD (binD T_int .lss t5 t13) h fun t14 h =>
    condW t14
    (runD (indexAddrD T_sl_int h c0 t5) h fun t19 h =>
    runD (fitD T_int (loadD h t19)) h fun t20 h =>
    runD (indexAddrD T_sl_int h c1 t5) h fun t23 h =>
    runD (fitD T_int (loadD h t23)) h fun t24 h =>
    runD (binD T_int .neq t20 t24) h fun t25 h =>
    condW t25
    (K (.ret (.bool false)) h)
    (runD (binD T_int .add t5 (.int .i64 1)) h fun t16 h =>
    (∃ m, m < n ∧ I m (AV.norms n0 h [t16]) (normH n0 h)) ∧ AV.norms n0 h [c0, c1] = [c0, c1]))
    (J1 h)
def lamplighterref02_Numbers.H (c : Ctx) (t0 : AV) (t1 : AV) (h : List AObj) (K : AOut → List AObj → Prop) : Prop :=
  runD (lenD T_sl_int h t0) h fun t7 h =>
  runD (lenD T_sl_int h t1) h fun t9 h =>
  runD (binD T_int .neq t7 t9) h fun t10 h =>
  condW t10
  (K (.ret (.bool false)) h)
  (joinW (fun (J1 : List AObj → Prop) =>
  promV [false] [(.int .i64 0)] h fun lv h => lamplighterref02_Numbers.L1 c J1 K (AV.norms h.length h lv) (normH h.length h) h.length (AV.norm h.length h t0) (AV.norm h.length h t1))
  (fun h => K (.ret (.bool true)) h))
theorem lamplighterref02_Numbers.eq (F : List (FuncId × Contract)) (S : List (FuncId × Con)) (t0 t1 : AV) (h : List AObj) (K : AOut → List AObj → Prop) : funW (ctx F S lamplighterref02_Numbers.loops) Try.f22 [t0, t1] h K = lamplighterref02_Numbers.H (ctx F S lamplighterref02_Numbers.loops) t0 t1 h K := by kernel_rfl
theorem lamplighterref02_Numbers.at : Try.prog.funcs[22]? = some Try.f22 := by kernel_rfl
theorem lamplighterref02_Numbers.nm : (Try.f22.name == "runtime.NumGoroutine") = false := by kernel_rfl
theorem lamplighterref02_Numbers.bd : Try.f22.body.isNone = false := by kernel_rfl
end Lam
namespace Lam
open Go Go.Proofs
set_option linter.unusedVariables false
set_option linter.unnecessarySimpa false
set_option linter.unusedSimpArgs false
def lamplighterref02_Numbers.C : Contract
  | [.sl _ (.ints .i64 a), .sl _ (.ints .i64 b)] => some (false, pD (roomy a.length) (.bool (decide (a = b))))
  | _ => none
set_option maxRecDepth 20000 in
theorem lamplighterref02_Numbers.spec : FSpec Try.prog 22 lamplighterref02_Numbers.C := by
  refine FSpec.of (ctx_ok (F := []) (S := []) (by simp) (by simp) lamplighterref02_Numbers.loops) lamplighterref02_Numbers.at lamplighterref02_Numbers.nm lamplighterref02_Numbers.bd ?_
  intro vs b S v news e hS
  unfold lamplighterref02_Numbers.C at e
  split at e
  rotate_left
  · cases e
  cases e
  rw [lamplighterref02_Numbers.eq]
  unfold lamplighterref02_Numbers.H
  simp (maxSteps := 4000000) only [go_sem, Nat.reduceEqDiff, Nat.reduceLT, Nat.reduceAdd, Nat.reduceSub, Nat.reduceLeDiff, List.reduceReplicate, Int.reduceToNat]
  rename_i a _ b
  unfold roomy at hS
  refine ⟨fun hne => ?_, fun heq => ?_⟩
  · have : decide (a = b) = false := by rw [decide_eq_false_iff_not]; rintro rfl; exact hne rfl
    rw [this]; exact post_val rfl rfl
  rw [joinW_eq]
  unfold lamplighterref02_Numbers.L1
  have hlen : a.length = b.length := by omega
  refine loop1 (fun k : Nat => .int .i64 k) (fun _ => []) (fun k => a.length - k) (fun k => k ≤ a.length ∧ ∀ i, i < k → a.getD i 0 = b.getD i 0) 0 rfl rfl ⟨Nat.zero_le _, fun i hi => absurd hi (Nat.not_lt_zero i)⟩ ?_
  rintro I back k ⟨hk, hall⟩
  simp only [go_sem, Nat.reduceEqDiff, Nat.reduceLT, Nat.reduceAdd, Nat.reduceSub, Nat.reduceLeDiff, List.reduceReplicate, Int.reduceToNat]
  refine ⟨fun hlt => ⟨by omega, by omega, fun h0 => ?_, fun h0 => ?_⟩, fun hge => ?_⟩
  · have : decide (a = b) = false := by rw [decide_eq_false_iff_not]; rintro rfl; exact h0 rfl
    rw [this]; exact post_val rfl rfl
  · refine back (k + 1) (by omega) (by rw [wnext (by omega)]) rfl ⟨by omega, fun i hi => ?_⟩
    by_cases e : i = k
    · subst e; exact h0
    · exact hall i (by omega)
  · rw [decide_eq_true (ext_d 0 hlen fun i hi => hall i (by omega))]; exact post_val rfl rfl
end Lam
namespace Lam
open Go Go.Proofs
set_option linter.unusedVariables false
def lamplighterlaw08_awake.loops : Nat → LInfo
  | 6 => ⟨[], [], [], [(4, none), (4, some [43, 47]), (2, none), (2, some [49, 51]), (2, none), (2, some [53, 55]), (2, none), (2, some [57, 59]), (2, none), (2, some [61, 63]), (2, none), (2, some [65, 67]), (2, none), (3, some [69, 72]), (2, none), (5, some [74, 79]), (2, none), (2, some [81, 83]), (2, none), (2, some [85, 87])], []⟩
  | _ => ⟨[], [], [], [], []⟩
def lamplighterlaw08_awake.H (c : Ctx) (h : List AObj) (K : AOut → List AObj → Prop) : Prop :=
  callW c (.fn (.func 25) [] []) [(.int .i64 2), (.int .i64 1)] h (fun t14 h =>
  runD (extractD t14 0) h fun t15 h =>
  runD (extractD t14 1) h fun t16 h =>
  runD (buildSliceD T_sl_int 0 [] h.length) h fun t18 h =>
  runDM (appendD T_sl_int h t18 t15 h.length) (appendH T_sl_int h t18 t15) h fun t20 h =>
  appendW T_sl_int T_int t20 (.int .i64 16) h fun t21 h =>
  callW c (.fn (.func 28) [] []) [t21] h (fun t22 h =>
  runD (extractD t22 0) h fun t23 h =>
  runD (extractD t22 1) h fun t24 h =>
  runD (extractD t22 2) h fun t25 h =>
  callW c (.fn (.func 28) [] []) [t15] h (fun t28 h =>
  runD (extractD t28 0) h fun t29 h =>
  runD (extractD t28 1) h fun t30 h =>
  runD (extractD t28 2) h fun t31 h =>
  callW c (.fn (.func 26) [] []) [(.int .i64 5), (.int .i64 4)] h (fun t33 h =>
  runD (extractD t33 0) h fun t34 h =>
  runD (extractD t33 1) h fun t35 h =>
  callW c (.fn (.func 25) [] []) [(.int .i64 1), (.int .i64 1)] h (fun t37 h =>
  runD (extractD t37 0) h fun t38 h =>
  runD (extractD t37 1) h fun t39 h =>
  runD (lenD T_sl_int h t15) h fun t41 h =>
  runD (binD T_int .eql t41 (.int .i64 16)) h fun t42 h =>
  joinW (fun (J1 : AV → AV → List AObj → Prop) =>
  guardW t42 true
  (runD (indexAddrD T_sl_int h t15 (.int .i64 0)) h fun t45 h =>
    runD (fitD T_int (loadD h t45)) h fun t46 h =>
    runD (binD T_int .eql t46 (.int .i64 7015)) h fun t47 h =>
    J1 (.bool true) t47 h)
  (J1 (.bool false) .und h))
  (fun t43 t47 h => runD (pickD t43 t47 (.bool false)) h fun t48 h =>
  joinW (fun (J2 : AV → AV → List AObj → Prop) =>
  guardW t48 true
  (runD (binD T_api_Errno .eql t16 (.int .i64 0)) h fun t51 h =>
    J2 (.bool true) t51 h)
  (J2 (.bool false) .und h))
  (fun t49 t51 h => runD (pickD t49 t51 (.bool false)) h fun t52 h =>
  joinW (fun (J3 : AV → AV → List AObj → Prop) =>
  guardW t52 true
  (runD (binD T_int .eql t23 (.int .i64 2)) h fun t55 h =>
    J3 (.bool true) t55 h)
  (J3 (.bool false) .und h))
  (fun t53 t55 h => runD (pickD t53 t55 (.bool false)) h fun t56 h =>
  joinW (fun (J4 : AV → AV → List AObj → Prop) =>
  guardW t56 true
  (runD (binD T_int .eql t24 (.int .i64 1)) h fun t59 h =>
    J4 (.bool true) t59 h)
  (J4 (.bool false) .und h))
  (fun t57 t59 h => runD (pickD t57 t59 (.bool false)) h fun t60 h =>
  joinW (fun (J5 : AV → AV → List AObj → Prop) =>
  guardW t60 true
  (runD (binD T_api_Errno .eql t25 (.int .i64 0)) h fun t63 h =>
    J5 (.bool true) t63 h)
  (J5 (.bool false) .und h))
  (fun t61 t63 h => runD (pickD t61 t63 (.bool false)) h fun t64 h =>
  joinW (fun (J6 : AV → AV → List AObj → Prop) =>
  guardW t64 true
  (runD (binD T_api_Errno .eql t31 (.int .i64 80)) h fun t67 h =>
    J6 (.bool true) t67 h)
  (J6 (.bool false) .und h))
  (fun t65 t67 h => runD (pickD t65 t67 (.bool false)) h fun t68 h =>
  joinW (fun (J7 : AV → AV → List AObj → Prop) =>
  guardW t68 true
  (runD (lenD T_sl_api_Micro h t34) h fun t71 h =>
    runD (binD T_int .eql t71 (.int .i64 2)) h fun t72 h =>
    J7 (.bool true) t72 h)
  (J7 (.bool false) .und h))
  (fun t69 t72 h => runD (pickD t69 t72 (.bool false)) h fun t73 h =>
  joinW (fun (J8 : AV → AV → List AObj → Prop) =>
  guardW t73 true
  (runD (indexAddrD T_sl_api_Micro h t34 (.int .i64 0)) h fun t76 h =>
    runD (fieldAddrD T_api_Micro t76 2) h fun t77 h =>
    runD (fitD T_int (loadD h t77)) h fun t78 h =>
    runD (binD T_int .eql t78 (.int .i64 4)) h fun t79 h =>
    J8 (.bool true) t79 h)
  (J8 (.bool false) .und h))
  (fun t74 t79 h => runD (pickD t74 t79 (.bool false)) h fun t80 h =>
  joinW (fun (J9 : AV → AV → List AObj → Prop) =>
  guardW t80 true
  (runD (binD T_api_Errno .eql t35 (.int .i64 0)) h fun t83 h =>
    J9 (.bool true) t83 h)
  (J9 (.bool false) .und h))
  (fun t81 t83 h => runD (pickD t81 t83 (.bool false)) h fun t84 h =>
  joinW (fun (J10 : AV → AV → List AObj → Prop) =>
  guardW t84 true
  (runD (binD T_api_Errno .eql t39 (.int .i64 1)) h fun t87 h =>
    J10 (.bool true) t87 h)
  (J10 (.bool false) .und h))
  (fun t85 t87 h => runD (pickD t85 t87 (.bool false)) h fun t88 h =>
  runD (pickD t88 (.bool true) (.bool false)) h fun t90 h =>
  K (.ret t90) h)))))))))))
  (fun v h => K (.pan v) h))
  (fun v h => K (.pan v) h))
  (fun v h => K (.pan v) h))
  (fun v h => K (.pan v) h))
  (fun v h => K (.pan v) h)
theorem lamplighterlaw08_awake.eq (F : List (FuncId × Contract)) (S : List (FuncId × Con)) (h : List AObj) (K : AOut → List AObj → Prop) : funW (ctx F S lamplighterlaw08_awake.loops) Try.f24 [] h K = lamplighterlaw08_awake.H (ctx F S lamplighterlaw08_awake.loops)  h K := by kernel_rfl
theorem lamplighterlaw08_awake.at : Try.prog.funcs[24]? = some Try.f24 := by kernel_rfl
theorem lamplighterlaw08_awake.nm : (Try.f24.name == "runtime.NumGoroutine") = false := by kernel_rfl
theorem lamplighterlaw08_awake.bd : Try.f24.body.isNone = false := by kernel_rfl
end Lam
namespace Lam
open Go Go.Proofs
set_option linter.unusedVariables false
set_option linter.unnecessarySimpa false
set_option linter.unusedSimpArgs false
def lamplighterlaw08_awake.C : Contract
  | [] => some (false, pD True (.bool true))
  | _ => none
set_option maxRecDepth 20000 in
theorem lamplighterlaw08_awake.spec : FSpec Try.prog 24 lamplighterlaw08_awake.C := by
  refine FSpec.of (ctx_ok (F := [(25, super_Words.C), (28, super_Read.C), (26, super_Root.C)]) (S := []) (by simpa using ⟨super_Words.spec, super_Read.spec, super_Root.spec⟩) (by simp) lamplighterlaw08_awake.loops) lamplighterlaw08_awake.at lamplighterlaw08_awake.nm lamplighterlaw08_awake.bd ?_
  intro vs b S v news e hS
  unfold lamplighterlaw08_awake.C at e
  split at e
  rotate_left
  · cases e
  cases e
  rw [lamplighterlaw08_awake.eq]
  unfold lamplighterlaw08_awake.H
  simp (maxSteps := 4000000) only [go_sem, Nat.reduceEqDiff, Nat.reduceLT, Nat.reduceAdd, Nat.reduceSub, Nat.reduceLeDiff, List.reduceReplicate, Int.reduceToNat, super_Words.C, super_Read.C, super_Root.C, superW]
  have m1 : mayB 2 1 = true := by decide
  have m2 : mayB 5 4 = true := by decide
  have m3 : mayB 1 1 = false := by decide
  have r1 : sreadV [7015, 2, sumOf [7015, 2], 1, 0, 0, 0, 0, 0, 0, 0, 0, 0, 0, 0, 0, 0, 0, 0, 0, 0, 0, 0, 0, 0, 0, 0, 0, 0, 0, 0, 0] = .tup [.int .i64 2, .int .i64 1, .int .i64 0] := by
    have : readB [7015, 2, sumOf [7015, 2], 1, 0, 0, 0, 0, 0, 0, 0, 0, 0, 0, 0, 0, 0, 0, 0, 0, 0, 0, 0, 0, 0, 0, 0, 0, 0, 0, 0, 0] = true := by simp [readB, headB, m1]
    unfold sreadV; rw [if_pos this]; rfl
  have r2 : sreadV [7015, 2, sumOf [7015, 2], 1, 0, 0, 0, 0, 0, 0, 0, 0, 0, 0, 0, 0] = .tup [.int .i64 0, .int .i64 0, .int .i64 80] := by
    have : readB [7015, 2, sumOf [7015, 2], 1, 0, 0, 0, 0, 0, 0, 0, 0, 0, 0, 0, 0] = false := by simp [readB]
    unfold sreadV; rw [this]; rfl
  simp only [m1, m2, m3, r1, r2, go_sem, Nat.reduceEqDiff, Nat.reduceLT, Nat.reduceAdd, Nat.reduceSub, Nat.reduceLeDiff, List.reduceReplicate, Int.reduceToNat, super_Read.C]
  refine ⟨by unfold roomy; decide, by decide, by unfold roomy; decide, by unfold roomy; decide, by unfold roomy; decide, ?_⟩
  exact ⟨by decide, by decide, post_val rfl rfl⟩
end Lam
namespace Lam
open Go Go.Proofs
set_option linter.unusedVariables false
def lamplighterlaw08_SuperRoot.loops : Nat → LInfo
  | 7 => ⟨[], [], [], [(3, none), (2, some [47, 49])], []⟩
  | 8 => ⟨[], [], [], [(2, none), (20, some [52, 72])], []⟩
  | 13 => ⟨[], [], [], [(2, none), (2, some [106, 108]), (2, none), (2, some [110, 112]), (2, none), (2, some [114, 116]), (2, none), (3, some [118, 121]), (2, none), (8, some [123, 131]), (2, none), (9, some [133, 142]), (2, none), (7, some [144, 151])], []⟩
  | _ => ⟨[], [], [], [], []⟩
def lamplighterlaw08_SuperRoot.H (c : Ctx) (t0 : AV) (t1 : AV) (t2 : AV) (t3 : AV) (t4 : AV) (h : List AObj) (K : AOut → List AObj → Prop) : Prop :=
  callW c (.fn (.func 24) [] []) [] h (fun t25 h =>
  runD (binD T_uint8 .rem t0 (.int .u8 18)) h fun t27 h =>
  runD (convD h T_uint8 T_int t27) h fun t28 h =>
  runD (lenD T_sl_int h t4) h fun t30 h =>
  runD (binD T_int .gtr t30 (.int .i64 50)) h fun t31 h =>
  condW t31
  (K (.ret t25) h)
  (callW c (.fn (.func 25) [] []) [t28, t1] h (fun t36 h =>
  runD (extractD t36 0) h fun t37 h =>
  runD (extractD t36 1) h fun t38 h =>
  callW c (.fn (.func 26) [] []) [t28, t2] h (fun t42 h =>
  runD (extractD t42 0) h fun t43 h =>
  runD (extractD t42 1) h fun t44 h =>
  runD (binD T_api_Errno .neq t38 (.int .i64 0)) h fun t46 h =>
  joinW (fun (J1 : AV → AV → List AObj → Prop) =>
  guardW t46 false
  (runD (binD T_api_Errno .neq t44 (.int .i64 0)) h fun t49 h =>
    J1 (.bool false) t49 h)
  (J1 (.bool true) .und h))
  (fun t47 t49 h => runD (pickD t47 (.bool true) t49) h fun t50 h =>
  condW t50
  (joinW (fun (J2 : AV → AV → List AObj → Prop) =>
    guardW t25 true
    (runD (binD T_int .lss t28 (.int .i64 2)) h fun t54 h =>
      joinW (fun (J3 : AV → AV → List AObj → Prop) =>
      guardW t54 false
      (runD (binD T_int .lss t1 (.int .i64 1)) h fun t57 h =>
        J3 (.bool false) t57 h)
      (J3 (.bool true) .und h))
      (fun t55 t57 h => runD (pickD t55 (.bool true) t57) h fun t58 h =>
      joinW (fun (J4 : AV → AV → List AObj → Prop) =>
      guardW t58 false
      (runD (binD T_int .geq t1 t28) h fun t62 h =>
        J4 (.bool false) t62 h)
      (J4 (.bool true) .und h))
      (fun t59 t62 h => runD (pickD t59 (.bool true) t62) h fun t63 h =>
      joinW (fun (J5 : AV → AV → List AObj → Prop) =>
      guardW t63 false
      (runD (binD T_int .lss t2 (.int .i64 1)) h fun t66 h =>
        J5 (.bool false) t66 h)
      (J5 (.bool true) .und h))
      (fun t64 t66 h => runD (pickD t64 (.bool true) t66) h fun t67 h =>
      joinW (fun (J6 : AV → AV → List AObj → Prop) =>
      guardW t67 false
      (runD (binD T_int .geq t2 t28) h fun t71 h =>
        J6 (.bool false) t71 h)
      (J6 (.bool true) .und h))
      (fun t68 t71 h => runD (pickD t68 (.bool true) t71) h fun t72 h =>
      J2 (.bool true) t72 h)))))
    (J2 (.bool false) .und h))
    (fun t52 t72 h => runD (pickD t52 t72 (.bool false)) h fun t73 h =>
    K (.ret t73) h))
  (runD (buildSliceD T_sl_int 0 [] h.length) h fun t75 h =>
  runDM (appendD T_sl_int h t75 t37 h.length) (appendH T_sl_int h t75 t37) h fun t77 h =>
  runD (binD T_int .sub t28 (.int .i64 1)) h fun t79 h =>
  runD (binD T_int .mul (.int .i64 16) t79) h fun t80 h =>
  appendW T_sl_int T_int t77 t80 h fun t81 h =>
  callW c (.fn (.func 27) [] []) [t81] h (fun t82 h =>
  runD (extractD t82 0) h fun t83 h =>
  runD (extractD t82 1) h fun t84 h =>
  allocW T_api_Mem h fun t17 h =>
  runH (storeH T_api_Mem h t17 t83) h fun _ h =>
  runD (convD h T_uint8 T_int t3) h fun t86 h =>
  runD (lenD T_sl_api_Micro h t43) h fun t88 h =>
  runD (binD T_int .add t88 (.int .i64 1)) h fun t89 h =>
  runD (binD T_int .rem t86 t89) h fun t90 h =>
  runD (fitD T_api_Mem (loadD h t17)) h fun t92 h =>
  callW c (.fn (.func 20) [] []) [t92, t43, t90, t4] h (fun t96 h =>
  runD (extractD t96 0) h fun t97 h =>
  runD (extractD t96 1) h fun t98 h =>
  callW c (.fn (.func 28) [] []) [t97] h (fun t101 h =>
  runD (extractD t101 0) h fun t102 h =>
  runD (extractD t101 1) h fun t103 h =>
  runD (extractD t101 2) h fun t104 h =>
  joinW (fun (J7 : AV → AV → List AObj → Prop) =>
  guardW t25 true
  (runD (binD T_api_Errno .eql t84 (.int .i64 0)) h fun t108 h =>
    J7 (.bool true) t108 h)
  (J7 (.bool false) .und h))
  (fun t106 t108 h => runD (pickD t106 t108 (.bool false)) h fun t109 h =>
  joinW (fun (J8 : AV → AV → List AObj → Prop) =>
  guardW t109 true
  (runD (binD T_api_Errno .eql t98 (.int .i64 0)) h fun t112 h =>
    J8 (.bool true) t112 h)
  (J8 (.bool false) .und h))
  (fun t110 t112 h => runD (pickD t110 t112 (.bool false)) h fun t113 h =>
  joinW (fun (J9 : AV → AV → List AObj → Prop) =>
  guardW t113 true
  (runD (binD T_api_Errno .eql t104 (.int .i64 0)) h fun t116 h =>
    J9 (.bool true) t116 h)
  (J9 (.bool false) .und h))
  (fun t114 t116 h => runD (pickD t114 t116 (.bool false)) h fun t117 h =>
  joinW (fun (J10 : AV → AV → List AObj → Prop) =>
  guardW t117 true
  (runD (binD T_int .eql t102 t28) h fun t121 h =>
    J10 (.bool true) t121 h)
  (J10 (.bool false) .und h))
  (fun t118 t121 h => runD (pickD t118 t121 (.bool false)) h fun t122 h =>
  joinW (fun (J11 : AV → AV → List AObj → Prop) =>
  guardW t122 true
  (runD (binD T_int .eql t103 t1) h fun t126 h =>
    joinW (fun (J12 : AV → AV → List AObj → Prop) =>
    guardW t126 false
    (runD (binD T_int .eql t103 t2) h fun t130 h =>
      J12 (.bool false) t130 h)
    (J12 (.bool true) .und h))
    (fun t127 t130 h => runD (pickD t127 (.bool true) t130) h fun t131 h =>
    J11 (.bool true) t131 h))
  (J11 (.bool false) .und h))
  (fun t123 t131 h => runD (pickD t123 t131 (.bool false)) h fun t132 h =>
  joinW (fun (J13 : AV → AV → List AObj → Prop) =>
  guardW t132 true
  (runD (lenD T_sl_api_Micro h t43) h fun t136 h =>
    runD (binD T_int .lss t90 t136) h fun t137 h =>
    joinW (fun (J14 : AV → AV → List AObj → Prop) =>
    guardW t137 false
    (runD (binD T_int .eql t103 t2) h fun t141 h =>
      J14 (.bool false) t141 h)
    (J14 (.bool true) .und h))
    (fun t138 t141 h => runD (pickD t138 (.bool true) t141) h fun t142 h =>
    J13 (.bool true) t142 h))
  (J13 (.bool false) .und h))
  (fun t133 t142 h => runD (pickD t133 t142 (.bool false)) h fun t143 h =>
  joinW (fun (J15 : AV → AV → List AObj → Prop) =>
  guardW t143 true
  (runD (binD T_int .gtr t90 (.int .i64 0)) h fun t146 h =>
    joinW (fun (J16 : AV → AV → List AObj → Prop) =>
    guardW t146 false
    (runD (binD T_int .eql t103 t1) h fun t150 h =>
      J16 (.bool false) t150 h)
    (J16 (.bool true) .und h))
    (fun t147 t150 h => runD (pickD t147 (.bool true) t150) h fun t151 h =>
    J15 (.bool true) t151 h))
  (J15 (.bool false) .und h))
  (fun t144 t151 h => runD (pickD t144 t151 (.bool false)) h fun t152 h =>
  K (.ret t152) h))))))))
  (fun v h => K (.pan v) h))
  (fun v h => K (.pan v) h))
  (fun v h => K (.pan v) h))))
  (fun v h => K (.pan v) h))
  (fun v h => K (.pan v) h)))
  (fun v h => K (.pan v) h)
theorem lamplighterlaw08_SuperRoot.eq (F : List (FuncId × Contract)) (S : List (FuncId × Con)) (t0 t1 t2 t3 t4 : AV) (h : List AObj) (K : AOut → List AObj → Prop) : funW (ctx F S lamplighterlaw08_SuperRoot.loops) Try.f7 [t0, t1, t2, t3, t4] h K = lamplighterlaw08_SuperRoot.H (ctx F S lamplighterlaw08_SuperRoot.loops) t0 t1 t2 t3 t4 h K := by kernel_rfl
theorem lamplighterlaw08_SuperRoot.at : Try.prog.funcs[7]? = some Try.f7 := by kernel_rfl
theorem lamplighterlaw08_SuperRoot.nm : (Try.f7.name == "runtime.NumGoroutine") = false := by kernel_rfl
theorem lamplighterlaw08_SuperRoot.bd : Try.f7.body.isNone = false := by kernel_rfl
end Lam
namespace Lam
open Go Go.Proofs
set_option linter.unusedVariables false
set_option linter.unnecessarySimpa false
set_option linter.unusedSimpArgs false
theorem decide_self {α : Type} [DecidableEq α] (a : α) : decide (a = a) = true := decide_eq_true rfl
theorem two_crash {W : List Int} (h1 : W.length ≤ 4096) (h2 : W.length % 8 = 0) {A : Nat} (hA : A < W.length) (v : Int) {L : Int} (hL : lineOf A = L) (hm : 0 ≤ L ∧ L < ((W.length / 8 : Nat) : Int)) (k : Nat) (keep : List Int) :
    ∃ q : Bool, crashW keep (runS ⟨W, W, []⟩ (([⟨1, A, v⟩, ⟨2, L, 0⟩] : List Mic).take k)).per (runS ⟨W, W, []⟩ (([⟨1, A, v⟩, ⟨2, L, 0⟩] : List Mic).take k)).pend = (if q = true then W.set A v else W) ∧ (k = 0 → q = false) ∧ (2 ≤ k → q = true) := by
  have hg : Goods none ([⟨1, A, v⟩, ⟨2, L, 0⟩] : List Mic) := by
    unfold Goods
    rw [if_pos rfl]
    refine ⟨fun L hL => (by cases hL), ?_⟩
    unfold Goods
    rw [if_neg (show ¬ (2 : Int) = 1 by decide)]
    exact ⟨fun L' hL' => by rw [← Option.some.inj hL']; exact hL.symm, trivial⟩
  have hmm : ∀ x ∈ ([⟨1, A, v⟩, ⟨2, L, 0⟩] : List Mic), MayN x W.length := by
    intro x hx
    rcases List.mem_cons.1 hx with rfl | hx
    · exact .inl ⟨rfl, by show (0 : Int) ≤ (A : Int); omega, by show (A : Int) < _; omega⟩
    · rw [List.mem_singleton] at hx; subst hx
      exact .inr ⟨rfl, hm.1, hm.2, rfl⟩
  obtain ⟨j, hj, hst⟩ := stores_take ([⟨1, A, v⟩, ⟨2, L, 0⟩] : List Mic) k
  have hS : storesOf ([⟨1, A, v⟩, ⟨2, L, 0⟩] : List Mic) = [⟨A, v, false⟩] := rfl
  have hbg := begun_end (([⟨1, A, v⟩, ⟨2, L, 0⟩] : List Mic).take k) (begun_new (w := W) h1 h2) (good_take _ _ k hg) (fun x hx => hmm x (List.take_subset _ _ hx))
  rw [List.nil_append] at hbg
  obtain ⟨i, hi, hc, hn⟩ := hbg.crash keep
  have hlen : (storesOf (([⟨1, A, v⟩, ⟨2, L, 0⟩] : List Mic).take k)).length ≤ 1 := by
    rw [hst, hS, List.length_take]; simp; omega
  refine ⟨decide (1 ≤ i), ?_, fun h => ?_, fun h => ?_⟩
  · rw [hc]
    by_cases e : 1 ≤ i
    · have hj1 : 1 ≤ j := by
        rw [hst, hS, List.length_take] at hi; omega
      rw [decide_eq_true e, if_pos rfl, hst, hS, List.take_of_length_le (l := [_]) (by simpa using hj1), List.take_of_length_le (by simpa using e)]; rfl
    · rw [decide_eq_false e, if_neg (by decide), show i = 0 from by omega]; rfl
  · subst h
    have : i = 0 := by simpa [storesOf] using hi
    rw [this]; rfl
  · have ht : ([⟨1, A, v⟩, ⟨2, L, 0⟩] : List Mic).take k = [⟨1, A, v⟩, ⟨2, L, 0⟩] := List.take_of_length_le (by simpa using h)
    rw [ht] at hbg hn
    have hp : (runS ⟨W, W, []⟩ [⟨1, A, v⟩, ⟨2, L, 0⟩]).pend = [] := by
      have : endL none ([⟨1, A, v⟩, ⟨2, L, 0⟩] : List Mic) = none := rfl
      rw [this] at hbg; exact hbg.none_pend
    rw [hn hp, hS]; rfl
def firstW (m r : Int) (n : Nat) : List Int := superW m r ++ List.replicate n 0
theorem firstW_len (m r : Int) (n : Nat) : (firstW m r n).length = 16 + n := by simp [firstW, superW]; omega
theorem firstW_set (m r s : Int) (n : Nat) : (firstW m r n).set 3 s = firstW m s n := rfl
theorem firstW_read {m r : Int} {n : Nat} (h : mayB m r = true) (hn : (((16 + n) / 16 : Nat) : Int) = m) (hn2 : 16 ≤ n) : sreadV (firstW m r n) = .tup [.int .i64 m, .int .i64 r, .int .i64 0] := by
  have hb : readB (firstW m r n) = true := by
    unfold readB headB
    rw [firstW_len]
    have e0 : (firstW m r n).getD 0 0 = 7015 := rfl
    have e1 : (firstW m r n).getD 1 0 = m := rfl
    have e2 : (firstW m r n).getD 2 0 = sumOf [7015, m] := rfl
    have e3 : (firstW m r n).getD 3 0 = r := rfl
    rw [e0, e1, e2, e3, h, decide_eq_true (show 32 ≤ 16 + n by omega), decide_eq_true rfl, decide_eq_true rfl, decide_eq_true hn.symm]
    have : ((firstW m r n).drop 4).take 12 = List.replicate 12 0 := by
      unfold firstW superW
      rw [List.append_assoc, List.drop_left' (i := 4) (l₁ := [7015, m, sumOf [7015, m], r]) rfl, List.take_left' (by simp)]
    rw [this]; rfl
  unfold sreadV
  rw [if_pos hb]; rfl
abbrev SuperRoot_ctx : Ctx := ctx [(24, lamplighterlaw08_awake.C), (25, super_Words.C), (26, super_Root.C), (28, super_Read.C), (27, pmem_New.C), (20, micro_Crash.C)] [] lamplighterlaw08_SuperRoot.loops
set_option maxRecDepth 20000 in
theorem SuperRoot_vc (blocks : Int) (a : Int) (b : Int) (n : Int) (keep : List Int) (w_blocks : (Lit.int .u8 blocks).wf = true) (w_a : (Lit.int .i64 a).wf = true) (w_b : (Lit.int .i64 b).wf = true) (w_n : (Lit.int .u8 n).wf = true) (w_keep : wfL (.ints .i64 keep)) (n_keep : keep.length ≤ maxLen) : lamplighterlaw08_SuperRoot.H SuperRoot_ctx (.int .u8 blocks) (.int .i64 a) (.int .i64 b) (.int .u8 n) (.sl false (.ints .i64 keep)) [] Told := by
  unfold lamplighterlaw08_SuperRoot.H
  simp (maxSteps := 4000000) only [go_sem, Nat.reduceEqDiff, Nat.reduceLT, Nat.reduceAdd, Nat.reduceSub, Nat.reduceLeDiff, List.reduceReplicate, Int.reduceToNat, lamplighterlaw08_awake.C, super_Words.C, super_Root.C, super_Read.C, pmem_New.C, micro_Crash.C]
  have hb8 := wf_u8 w_blocks
  have hn := wf_u8 w_n
  refine ⟨by decide, fun _ => rfl, fun hk => ?_⟩
  have eM : IntKind.i64.wrap (blocks.tmod 18) = blocks % 18 := by rw [Int.tmod_eq_emod_of_nonneg hb8.1]; exact w64 (by omega) (by omega)
  rw [eM]
  have hM0 : 0 ≤ blocks % 18 := by omega
  have hM1 : blocks % 18 < 18 := by omega
  generalize blocks % 18 = M at *
  have bad : ∀ r, mayB M r = false → M < 2 ∨ r < 1 ∨ M ≤ r := fun r h => by
    unfold mayB at h
    simp only [Bool.and_eq_false_iff, decide_eq_false_iff_not] at h
    omega
  cases ha : mayB M a with
  | false =>
    have hd : (decide (M < 2) || decide (a < 1) || decide (M ≤ a) || decide (b < 1) || decide (M ≤ b)) = true := by
      rcases bad a ha with h | h | h <;> simp [h]
    cases hb : mayB M b <;> (simp only [hd, joinW_eq, guard_tt, guard_tf, guard_ft, guard_ff, Int.reduceEq, Int.reduceLT, Int.reduceLE, decide_false, decide_true, Bool.not_false, Bool.not_true, Bool.not_not, not_true_eq_false, not_false_eq_true, true_implies, false_implies, implies_true, and_true, true_and, reduceCtorEq, Bool.and_self, Bool.or_self, Bool.and_true, Bool.true_and, Bool.false_eq_true, if_true, if_false, go_sem, Nat.reduceEqDiff, Nat.reduceLT, Nat.reduceAdd, Nat.reduceSub, Nat.reduceLeDiff, List.reduceReplicate, Int.reduceToNat]; rfl)
  | true =>
    cases hb : mayB M b with
    | false =>
      have hd : (decide (M < 2) || decide (a < 1) || decide (M ≤ a) || decide (b < 1) || decide (M ≤ b)) = true := by
        rcases bad b hb with h | h | h <;> simp [h]
      simp only [hd, joinW_eq, guard_tt, guard_tf, guard_ft, guard_ff, Int.reduceEq, Int.reduceLT, Int.reduceLE, decide_false, decide_true, Bool.not_false, Bool.not_true, Bool.not_not, not_true_eq_false, not_false_eq_true, true_implies, false_implies, implies_true, and_true, true_and, reduceCtorEq, Bool.and_self, Bool.or_self, Bool.and_true, Bool.true_and, Bool.false_eq_true, if_true, if_false, go_sem, Nat.reduceEqDiff, Nat.reduceLT, Nat.reduceAdd, Nat.reduceSub, Nat.reduceLeDiff, List.reduceReplicate, Int.reduceToNat]; rfl
    | true =>
      have hM2 : 2 ≤ M := by
        unfold mayB at ha; simp only [Bool.and_eq_true, decide_eq_true_eq] at ha; omega
      have e1 : IntKind.i64.wrap (M - 1) = M - 1 := w64 (by omega) (by omega)
      have e2 : IntKind.i64.wrap (16 * (M - 1)) = 16 * (M - 1) := w64 (by omega) (by omega)
      have hlw : ∀ r, (superW M r).length = 16 := fun r => by simp [superW]
      have hf : superW M a ++ List.replicate (16 * (M - 1)).toNat 0 = firstW M a (16 * (M - 1)).toNat := rfl
      have hfl := firstW_len M a (16 * (M - 1)).toNat
      have hra := firstW_read (n := (16 * (M - 1)).toNat) ha (by omega) (by omega)
      have hrb := firstW_read (n := (16 * (M - 1)).toNat) hb (by omega) (by omega)
      have hset := firstW_set M a b (16 * (M - 1)).toNat
      have hfb := firstW_len M b (16 * (M - 1)).toNat
      have hNl : (16 * (M - 1)).toNat ≤ 272 := by omega
      have hN8 : (16 + (16 * (M - 1)).toNat) % 8 = 0 := by omega
      simp only [e1, e2, hlw, hf, hfl, List.length_replicate, joinW_eq, guard_tt, guard_tf, guard_ft, guard_ff, Int.reduceEq, Int.reduceLT, Int.reduceLE, decide_false, decide_true, Bool.not_false, Bool.not_true, Bool.not_not, not_true_eq_false, not_false_eq_true, true_implies, false_implies, implies_true, and_true, true_and, reduceCtorEq, Bool.and_self, Bool.or_self, Bool.and_true, Bool.true_and, Bool.false_eq_true, if_true, if_false, go_sem, Nat.reduceEqDiff, Nat.reduceLT, Nat.reduceAdd, Nat.reduceSub, Nat.reduceLeDiff, List.reduceReplicate, Int.reduceToNat]
      generalize (16 * (M - 1)).toNat = N at *
      have htk : (firstW M a N).take (16 + N) = firstW M a N := take_len _ (Nat.le_of_eq hfl)
      have hnew : newM (firstW M a N) = .tup [memV (firstW M a N) (firstW M a N) [], .int .i64 0] := by
        unfold newM; rw [show szB _ = true from by rw [hfl]; unfold szB; rw [decide_eq_true (by omega), decide_eq_true (by rw [Int.tmod_eq_emod_of_nonneg (by omega)]; omega)]; rfl]; rfl
      have em : (IntKind.i64.wrap n).tmod (IntKind.i64.wrap (2 + 1)) = ((n.toNat % 3 : Nat) : Int) := modN hn.1 hn.2 (k := 2) (by omega)
      have hk3 : n.toNat % 3 ≤ 2 := by omega
      have sd : soundB ⟨firstW M a N, firstW M a N, []⟩ [⟨1, 3, b⟩, ⟨2, 0, 0⟩] = true := by
        refine sound_iff.2 ⟨(begun_new (w := firstW M a N) (by omega) (by omega)).ok, fun x hx => ?_⟩
        show MayN x (firstW M a N).length
        rw [hfl]
        rcases List.mem_cons.1 hx with rfl | hx
        · exact .inl ⟨rfl, by show (0 : Int) ≤ 3; omega, by show (3 : Int) < _; omega⟩
        · rw [List.mem_singleton] at hx; subst hx
          exact .inr ⟨rfl, by show (0 : Int) ≤ 0; omega, by show (0 : Int) < _; omega, rfl⟩
      obtain ⟨q, hq, hq0, hq2⟩ := two_crash (W := firstW M a N) (by omega) (by omega) (A := 3) (by omega) b (L := 0) (by decide) ⟨by omega, by omega⟩ (n.toNat % 3) keep
      have ec : (cutI ((n.toNat % 3 : Nat) : Int) ([⟨1, 3, b⟩, ⟨2, 0, 0⟩] : List Mic).length).toNat = n.toNat % 3 := cutI_nat hk3
      have hmc := mcrash_ok (n := ((n.toNat % 3 : Nat) : Int)) (keep := keep) sd
      have hq : crashW keep (runS ⟨firstW M a N, firstW M a N, []⟩ (([⟨1, 3, b⟩, ⟨2, 0, 0⟩] : List Mic).take (n.toNat % 3))).per (runS ⟨firstW M a N, firstW M a N, []⟩ (([⟨1, 3, b⟩, ⟨2, 0, 0⟩] : List Mic).take (n.toNat % 3))).pend = (if q = true then (firstW M a N).set 3 b else firstW M a N) := hq
      rw [ec, hq, hset] at hmc
      generalize n.toNat % 3 = k at *
      have hi64 := wf_i64s w_keep
      have hkr : roomy keep.length := by unfold roomy; omega
      have r16 : roomy 16 := by unfold roomy; omega
      have rN : roomy (16 + N) := by unfold roomy; omega
      have hsm : smallM (firstW M a N) (firstW M a N) [] := by unfold smallM roomy; rw [hfl]; simp; omega
      cases q with
      | false =>
        have hk2 : k < 2 := by
          rcases Nat.lt_or_ge k 2 with h | h
          · exact h
          · cases hq2 h
        have hmc : mcrashV ⟨firstW M a N, firstW M a N, []⟩ [⟨1, 3, b⟩, ⟨2, 0, 0⟩] (k : Nat) keep = .tup [.sl false (.ints .i64 (firstW M a N)), .int .i64 0] := hmc
        have d1 : decide ((k : Int) < 2) = true := decide_eq_true (by omega)
        simp only [pmem_New.C, htk, hnew, em, micro_Crash.C, hmc, super_Read.C, hra, hfl, d1, decide_self, List.length_nil, List.length_cons, joinW_eq, guard_tt, guard_tf, guard_ft, guard_ff, Int.reduceEq, Int.reduceLT, Int.reduceLE, decide_false, decide_true, Bool.not_false, Bool.not_true, Bool.not_not, not_true_eq_false, not_false_eq_true, true_implies, false_implies, implies_true, and_true, true_and, reduceCtorEq, Bool.and_self, Bool.or_self, Bool.and_true, Bool.true_and, Bool.false_eq_true, if_true, if_false, go_sem, Nat.reduceEqDiff, Nat.reduceLT, Nat.reduceAdd, Nat.reduceSub, Nat.reduceLeDiff, List.reduceReplicate, Int.reduceToNat]
        refine ⟨r16, ⟨by omega, by omega⟩, rN, rN, by decide, ⟨hsm, hkr, hi64⟩, rN, ?_⟩
        cases decide (0 < (k : Int)) <;> simp only [guard_tf, guard_ff] <;> rfl
      | true =>
        have hk1 : 0 < k := by
          rcases Nat.eq_zero_or_pos k with h | h
          · cases hq0 h
          · exact h
        have hmc : mcrashV ⟨firstW M a N, firstW M a N, []⟩ [⟨1, 3, b⟩, ⟨2, 0, 0⟩] (k : Nat) keep = .tup [.sl false (.ints .i64 (firstW M b N)), .int .i64 0] := hmc
        have d1 : decide (0 < (k : Int)) = true := decide_eq_true (by omega)
        simp only [pmem_New.C, htk, hnew, em, micro_Crash.C, hmc, super_Read.C, hrb, hfb, d1, decide_self, List.length_nil, List.length_cons, joinW_eq, guard_tt, guard_tf, guard_ft, guard_ff, Int.reduceEq, Int.reduceLT, Int.reduceLE, decide_false, decide_true, Bool.not_false, Bool.not_true, Bool.not_not, not_true_eq_false, not_false_eq_true, true_implies, false_implies, implies_true, and_true, true_and, reduceCtorEq, Bool.and_self, Bool.or_self, Bool.and_true, Bool.true_and, Bool.false_eq_true, if_true, if_false, go_sem, Nat.reduceEqDiff, Nat.reduceLT, Nat.reduceAdd, Nat.reduceSub, Nat.reduceLeDiff, List.reduceReplicate, Int.reduceToNat]
        refine ⟨r16, ⟨by omega, by omega⟩, rN, by rw [hfl]; exact rN, by decide, ⟨hsm, hkr, hi64⟩, rN, ?_⟩
        cases decide (b = a) <;> cases decide ((k : Int) < 2) <;> simp only [guard_tf, guard_ff] <;> rfl
theorem SuperRoot_ok : Ok Try.prog SuperRoot_ctx := ctx_ok (by simpa using ⟨lamplighterlaw08_awake.spec, super_Words.spec, super_Root.spec, super_Read.spec, pmem_New.spec, micro_Crash.spec⟩) (by simp) _
theorem SuperRoot_law (blocks : Int) (a : Int) (b : Int) (n : Int) (keep : Lst) (w_blocks : (Lit.int .u8 blocks).wf = true) (w_a : (Lit.int .i64 a).wf = true) (w_b : (Lit.int .i64 b).wf = true) (w_n : (Lit.int .u8 n).wf = true) (k_keep : keep.kind = (.int .i64)) (w_keep : wfL keep) (n_keep : keep.len ≤ maxLen) : funW SuperRoot_ctx Try.f7 [(.int .u8 blocks), (.int .i64 a), (.int .i64 b), (.int .u8 n), (.sl false keep)] [] Told := by
  obtain ⟨keep, rfl⟩ := gkind_ints k_keep
  rw [SuperRoot_ctx, lamplighterlaw08_SuperRoot.eq]
  exact SuperRoot_vc blocks a b n keep w_blocks w_a w_b w_n w_keep n_keep
end Lam
