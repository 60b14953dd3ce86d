/- What functions of the program come to, each proved from its code. -/
import Derived.Test.YtmbmfnmjjelmkaaLm4
namespace Lam
open Go Go.Proofs
set_option linter.unusedVariables false
def slices_heapSortCmpFunc_api_Rec.loops : Nat → LInfo
  | 4 => ⟨[11], [false], [0, 3, 8, 9, 10], [], [], []⟩
  | 8 => ⟨[12], [false], [0, 3, 8, 9], [], [], []⟩
  | _ => ⟨[], [], [], [], [], []⟩
def slices_heapSortCmpFunc_api_Rec.L1 (c : Ctx) (J1 : AV → AV → AV → AV → AV → List AObj → Prop) (K : AOut → List AObj → Prop) (lv : List AV) (h0 : List AObj) (n0 : Nat) (c0 : AV) (c3 : AV) (c8 : AV) (c9 : AV) (c10 : AV) : Prop :=
  ∃ I : Nat → List AV → List AObj → Prop, (∃ n, I n lv h0) ∧ ∀ n h, ∀ t11, I n [t11] h →
    runD (binD T_int .geq t11 (.int .i64 0)) h fun t21 h =>
    condW t21
    (callW false c (.fn (.func 137) [] []) [c0, t11, c10, c8, c3] h (fun t29 h =>
    runD (binD T_int .sub t11 (.int .i64 1)) h fun t23 h =>
    (∃ m, m < n ∧ I m (AV.norms n0 h [t23]) (normH n0 h)) ∧ AV.norms n0 h [c0, c3, c8, c9, c10] = [c0, c3, c8, c9, c10])
    (fun v h => K (.pan v) h))
    (J1 c0 c3 c8 c9 c10 h)
def slices_heapSortCmpFunc_api_Rec.L2 (c : Ctx) (J2 : List AObj → Prop) (K : AOut → List AObj → Prop) (lv : List AV) (h0 : List AObj) (n0 : Nat) (c0 : AV) (c3 : AV) (c8 : AV) (c9 : AV) : Prop :=
  ∃ I : Nat → List AV → List AObj → Prop, (∃ n, I n lv h0) ∧ ∀ n h, ∀ t12, I n [t12] h →
    runD (binD T_int .geq t12 (.int .i64 0)) h fun t33 h =>
    condW t33
    (runD (binD T_int .add c8 t12) h fun t41 h =>
    runD (binD T_int .add c8 t12) h fun t45 h =>
    runD (indexAddrD T_sl_api_Rec h c0 t45) h fun t46 h =>
    runD (fitD T_api_Rec (loadD h t46)) h fun t47 h =>
    runD (indexAddrD T_sl_api_Rec h c0 c8) h fun t50 h =>
    runD (fitD T_api_Rec (loadD h t50)) h fun t51 h =>
    runD (indexAddrD T_sl_api_Rec h c0 c8) h fun t52 h =>
    runH (storeH T_api_Rec h t52 t47) h fun _ h =>
    runD (indexAddrD T_sl_api_Rec h c0 t41) h fun t53 h =>
    runH (storeH T_api_Rec h t53 t51) h fun _ h =>
    callW false c (.fn (.func 137) [] []) [c0, c9, t12, c8, c3] h (fun t59 h =>
    runD (binD T_int .sub t12 (.int .i64 1)) h fun t35 h =>
    (∃ m, m < n ∧ I m (AV.norms n0 h [t35]) (normH n0 h)) ∧ AV.norms n0 h [c0, c3, c8, c9] = [c0, c3, c8, c9])
    (fun v h => K (.pan v) h))
    (J2 h)
def slices_heapSortCmpFunc_api_Rec.H (c : Ctx) (t0 : AV) (t1 : AV) (t2 : AV) (t3 : AV) (h : List AObj) (K : AOut → List AObj → Prop) : Prop :=
  runD (binD T_int .sub t2 t1) h fun t16 h =>
  runD (binD T_int .sub t16 (.int .i64 1)) h fun t18 h =>
  runD (binD T_int .quo t18 (.int .i64 2)) h fun t19 h =>
  joinW (fun (J1 : AV → AV → AV → AV → AV → List AObj → Prop) =>
  promV [false] [t19] h fun lv h => slices_heapSortCmpFunc_api_Rec.L1 c J1 K (AV.norms h.length h lv) (normH h.length h) h.length (AV.norm h.length h t0) (AV.norm h.length h t3) (AV.norm h.length h t1) (AV.norm h.length h (.int .i64 0)) (AV.norm h.length h t16))
  (fun t0 t3 t8 t9 t10 h => runD (binD T_int .sub t10 (.int .i64 1)) h fun t31 h =>
  joinW (fun (J2 : List AObj → Prop) =>
  promV [false] [t31] h fun lv h => slices_heapSortCmpFunc_api_Rec.L2 c J2 K (AV.norms h.length h lv) (normH h.length h) h.length (AV.norm h.length h t0) (AV.norm h.length h t3) (AV.norm h.length h t8) (AV.norm h.length h t9))
  (fun h => K (.ret (.tup [])) h))
def slices_breakPatternsCmpFunc_api_Rec.loops : Nat → LInfo
  | 5 => ⟨[11], [false], [0, 1, 8, 9, 10], [], [], []⟩
  | _ => ⟨[], [], [], [], [], []⟩
def slices_breakPatternsCmpFunc_api_Rec.L1 (c : Ctx) (J2 : List AObj → Prop) (K : AOut → List AObj → Prop) (lv : List AV) (h0 : List AObj) (n0 : Nat) (c0 : AV) (c1 : AV) (c8 : AV) (c9 : AV) (c10 : AV) : Prop :=
  ∃ I : Nat → List AV → List AObj → Prop, (∃ n, I n lv h0) ∧ ∀ n h, ∀ t11, I n [t11] h →
    runD (binD T_int .quo c8 (.int .i64 4)) h fun t31 h =>
    runD (binD T_int .mul t31 (.int .i64 2)) h fun t32 h =>
    runD (binD T_int .add c1 t32) h fun t33 h =>
    runD (binD T_int .add t33 (.int .i64 1)) h fun t34 h =>
    runD (binD T_int .leq t11 t34) h fun t35 h =>
    condW t35
    (callW false c (.fn (.func 139) [] []) [c9] h (fun t38 h =>
    runD (binD T_uint .sub c10 (.int .u64 1)) h fun t40 h =>
    runD (binD T_uint .and t38 t40) h fun t41 h =>
    runD (convD h T_uint T_int t41) h fun t42 h =>
    runD (binD T_int .geq t42 c8) h fun t45 h =>
    joinW (fun (J3 : AV → List AObj → Prop) =>
    condW t45
    (runD (binD T_int .sub t42 c8) h fun t48 h =>
      J3 t48 h)
    (J3 t42 h))
    (fun t12 h => runD (binD T_int .add c1 t12) h fun t54 h =>
    runD (binD T_int .add c1 t12) h fun t58 h =>
    runD (indexAddrD T_sl_api_Rec h c0 t58) h fun t59 h =>
    runD (fitD T_api_Rec (loadD h t59)) h fun t60 h =>
    runD (indexAddrD T_sl_api_Rec h c0 t11) h fun t63 h =>
    runD (fitD T_api_Rec (loadD h t63)) h fun t64 h =>
    runD (indexAddrD T_sl_api_Rec h c0 t11) h fun t65 h =>
    runH (storeH T_api_Rec h t65 t60) h fun _ h =>
    runD (indexAddrD T_sl_api_Rec h c0 t54) h fun t66 h =>
    runH (storeH T_api_Rec h t66 t64) h fun _ h =>
    runD (binD T_int .add t11 (.int .i64 1)) h fun t37 h =>
    (∃ m, m < n ∧ I m (AV.norms n0 h [t37]) (normH n0 h)) ∧ AV.norms n0 h [c0, c1, c8, c9, c10] = [c0, c1, c8, c9, c10]))
    (fun v h => K (.pan v) h))
    (J2 h)
def slices_breakPatternsCmpFunc_api_Rec.H (c : Ctx) (t0 : AV) (t1 : AV) (t2 : AV) (t3 : AV) (h : List AObj) (K : AOut → List AObj → Prop) : Prop :=
  runD (binD T_int .sub t2 t1) h fun t15 h =>
  runD (binD T_int .geq t15 (.int .i64 8)) h fun t17 h =>
  joinW (fun (J1 : List AObj → Prop) =>
  condW t17
  (runD (convD h T_int T_slices_xorshift t15) h fun t19 h =>
    allocW T_slices_xorshift h fun t9 h =>
    runH (storeH T_slices_xorshift h t9 t19) h fun _ h =>
    callW false c (.fn (.func 138) [] []) [t15] h (fun t21 h =>
    runD (binD T_int .quo t15 (.int .i64 4)) h fun t24 h =>
    runD (binD T_int .mul t24 (.int .i64 2)) h fun t25 h =>
    runD (binD T_int .add t1 t25) h fun t26 h =>
    runD (binD T_int .sub t26 (.int .i64 1)) h fun t27 h =>
    joinW (fun (J2 : List AObj → Prop) =>
    promV [false] [t27] h fun lv h => slices_breakPatternsCmpFunc_api_Rec.L1 c J2 K (AV.norms h.length h lv) (normH h.length h) h.length (AV.norm h.length h t0) (AV.norm h.length h t1) (AV.norm h.length h t15) (AV.norm h.length h t9) (AV.norm h.length h t21))
    (fun h => J1 h))
    (fun v h => K (.pan v) h))
  (J1 h))
  (fun h => K (.ret (.tup [])) h)
def slices_reverseRangeCmpFunc_api_Rec.loops : Nat → LInfo
  | 2 => ⟨[8, 9], [false, false], [0], [], [], []⟩
  | _ => ⟨[], [], [], [], [], []⟩
def slices_reverseRangeCmpFunc_api_Rec.L1 (c : Ctx) (J1 : List AObj → Prop) (K : AOut → List AObj → Prop) (lv : List AV) (h0 : List AObj) (n0 : Nat) (c0 : AV) : Prop :=
  ∃ I : Nat → List AV → List AObj → Prop, (∃ n, I n lv h0) ∧ ∀ n h, ∀ t8, ∀ t9, I n [t8, t9] h →
    runD (binD T_int .lss t8 t9) h fun t15 h =>
    condW t15
    (runD (indexAddrD T_sl_api_Rec h c0 t9) h fun t22 h =>
    runD (fitD T_api_Rec (loadD h t22)) h fun t23 h =>
    runD (indexAddrD T_sl_api_Rec h c0 t8) h fun t26 h =>
    runD (fitD T_api_Rec (loadD h t26)) h fun t27 h =>
    runD (indexAddrD T_sl_api_Rec h c0 t8) h fun t28 h =>
    runH (storeH T_api_Rec h t28 t23) h fun _ h =>
    runD (indexAddrD T_sl_api_Rec h c0 t9) h fun t29 h =>
    runH (storeH T_api_Rec h t29 t27) h fun _ h =>
    runD (binD T_int .add t8 (.int .i64 1)) h fun t31 h =>
    runD (binD T_int .sub t9 (.int .i64 1)) h fun t33 h =>
    (∃ m, m < n ∧ I m (AV.norms n0 h [t31, t33]) (normH n0 h)) ∧ AV.norms n0 h [c0] = [c0])
    (J1 h)
def slices_reverseRangeCmpFunc_api_Rec.H (c : Ctx) (t0 : AV) (t1 : AV) (t2 : AV) (t3 : AV) (h : List AObj) (K : AOut → List AObj → Prop) : Prop :=
  runD (binD T_int .sub t2 (.int .i64 1)) h fun t12 h =>
  joinW (fun (J1 : List AObj → Prop) =>
  promV [false, false] [t1, t12] h fun lv h => slices_reverseRangeCmpFunc_api_Rec.L1 c J1 K (AV.norms h.length h lv) (normH h.length h) h.length (AV.norm h.length h t0))
  (fun h => K (.ret (.tup [])) h)
def slices_siftDownCmpFunc_api_Rec.loops : Nat → LInfo
  | 1 => ⟨[10], [false], [0, 2, 3, 4], [], [], []⟩
  | _ => ⟨[], [], [], [], [], []⟩
def slices_siftDownCmpFunc_api_Rec.L1 (c : Ctx) (J1 : List AObj → Prop) (K : AOut → List AObj → Prop) (lv : List AV) (h0 : List AObj) (n0 : Nat) (c0 : AV) (c2 : AV) (c3 : AV) (c4 : AV) : Prop :=
  ∃ I : Nat → List AV → List AObj → Prop, (∃ n, I n lv h0) ∧ ∀ n h, ∀ t10, I n [t10] h →
    runD (binD T_int .mul (.int .i64 2) t10) h fun t14 h =>
    runD (binD T_int .add t14 (.int .i64 1)) h fun t15 h =>
    runD (binD T_int .geq t15 c2) h fun t18 h =>
    condW t18
    (J1 h)
    (runD (binD T_int .add t15 (.int .i64 1)) h fun t20 h =>
    runD (binD T_int .lss t20 c2) h fun t22 h =>
    joinW (fun (J2 : AV → AV → List AObj → Prop) =>
    guardW t22 true
    (runD (binD T_int .add c3 t15) h fun t28 h =>
      runD (indexAddrD T_sl_api_Rec h c0 t28) h fun t29 h =>
      runD (fitD T_api_Rec (loadD h t29)) h fun t30 h =>
      runD (binD T_int .add c3 t15) h fun t34 h =>
      runD (binD T_int .add t34 (.int .i64 1)) h fun t35 h =>
      runD (indexAddrD T_sl_api_Rec h c0 t35) h fun t36 h =>
      runD (fitD T_api_Rec (loadD h t36)) h fun t37 h =>
      callW false c.noS c4 [t30, t37] h (fun t38 h =>
      runD (binD T_int .lss t38 (.int .i64 0)) h fun t39 h =>
      J2 (.bool true) t39 h)
      (fun _ _ => False))
    (J2 (.bool false) .und h))
    (fun t23 t39 h => runD (pickD t23 t39 (.bool false)) h fun t40 h =>
    joinW (fun (J3 : AV → List AObj → Prop) =>
    condW t40
    (runD (binD T_int .add t15 (.int .i64 1)) h fun t42 h =>
      J3 t42 h)
    (J3 t15 h))
    (fun t11 h => runD (binD T_int .add c3 t10) h fun t47 h =>
    runD (indexAddrD T_sl_api_Rec h c0 t47) h fun t48 h =>
    runD (fitD T_api_Rec (loadD h t48)) h fun t49 h =>
    runD (binD T_int .add c3 t11) h fun t53 h =>
    runD (indexAddrD T_sl_api_Rec h c0 t53) h fun t54 h =>
    runD (fitD T_api_Rec (loadD h t54)) h fun t55 h =>
    callW false c.noS c4 [t49, t55] h (fun t56 h =>
    runD (binD T_int .lss t56 (.int .i64 0)) h fun t57 h =>
    runD (unD .not t57) h fun t58 h =>
    condW t58
    (K (.ret (.tup [])) h)
    (runD (binD T_int .add c3 t10) h fun t62 h =>
    runD (binD T_int .add c3 t11) h fun t66 h =>
    runD (binD T_int .add c3 t11) h fun t70 h =>
    runD (indexAddrD T_sl_api_Rec h c0 t70) h fun t71 h =>
    runD (fitD T_api_Rec (loadD h t71)) h fun t72 h =>
    runD (binD T_int .add c3 t10) h fun t76 h =>
    runD (indexAddrD T_sl_api_Rec h c0 t76) h fun t77 h =>
    runD (fitD T_api_Rec (loadD h t77)) h fun t78 h =>
    runD (indexAddrD T_sl_api_Rec h c0 t62) h fun t79 h =>
    runH (storeH T_api_Rec h t79 t72) h fun _ h =>
    runD (indexAddrD T_sl_api_Rec h c0 t66) h fun t80 h =>
    runH (storeH T_api_Rec h t80 t78) h fun _ h =>
    (∃ m, m < n ∧ I m (AV.norms n0 h [t11]) (normH n0 h)) ∧ AV.norms n0 h [c0, c2, c3, c4] = [c0, c2, c3, c4]))
    (fun _ _ => False))))
def slices_siftDownCmpFunc_api_Rec.H (c : Ctx) (t0 : AV) (t1 : AV) (t2 : AV) (t3 : AV) (t4 : AV) (h : List AObj) (K : AOut → List AObj → Prop) : Prop :=
  joinW (fun (J1 : List AObj → Prop) =>
  promV [false] [t1] h fun lv h => slices_siftDownCmpFunc_api_Rec.L1 c J1 K (AV.norms h.length h lv) (normH h.length h) h.length (AV.norm h.length h t0) (AV.norm h.length h t2) (AV.norm h.length h t3) (AV.norm h.length h t4))
  (fun h => K (.ret (.tup [])) h)
def slices_nextPowerOfTwo.loops : Nat → LInfo
  | _ => ⟨[], [], [], [], [], []⟩
def slices_nextPowerOfTwo.H (c : Ctx) (t0 : AV) (h : List AObj) (K : AOut → List AObj → Prop) : Prop :=
  runD (convD h T_int T_uint t0) h fun t4 h =>
  callW false c (.fn (.func 93) [] []) [t4] h (fun t5 h =>
  runD (binD T_uint .shl (.int .u64 1) t5) h fun t6 h =>
  K (.ret t6) h)
  (fun v h => K (.pan v) h)
def slices_xorshift_Next.loops : Nat → LInfo
  | _ => ⟨[], [], [], [], [], []⟩
def slices_xorshift_Next.H (c : Ctx) (t0 : AV) (h : List AObj) (K : AOut → List AObj → Prop) : Prop :=
  runD (nilCheckD t0) h fun t4 h =>
  runD (fitD T_slices_xorshift (loadD h t4)) h fun t5 h =>
  runD (nilCheckD t0) h fun t7 h =>
  runD (fitD T_slices_xorshift (loadD h t7)) h fun t8 h =>
  runD (binD T_slices_xorshift .shl t8 (.int .u64 13)) h fun t9 h =>
  runD (binD T_slices_xorshift .xor t5 t9) h fun t10 h =>
  runD (nilCheckD t0) h fun t11 h =>
  runH (storeH T_slices_xorshift h t11 t10) h fun _ h =>
  runD (nilCheckD t0) h fun t13 h =>
  runD (fitD T_slices_xorshift (loadD h t13)) h fun t14 h =>
  runD (nilCheckD t0) h fun t16 h =>
  runD (fitD T_slices_xorshift (loadD h t16)) h fun t17 h =>
  runD (binD T_slices_xorshift .shr t17 (.int .u64 7)) h fun t18 h =>
  runD (binD T_slices_xorshift .xor t14 t18) h fun t19 h =>
  runD (nilCheckD t0) h fun t20 h =>
  runH (storeH T_slices_xorshift h t20 t19) h fun _ h =>
  runD (nilCheckD t0) h fun t22 h =>
  runD (fitD T_slices_xorshift (loadD h t22)) h fun t23 h =>
  runD (nilCheckD t0) h fun t25 h =>
  runD (fitD T_slices_xorshift (loadD h t25)) h fun t26 h =>
  runD (binD T_slices_xorshift .shl t26 (.int .u64 17)) h fun t27 h =>
  runD (binD T_slices_xorshift .xor t23 t27) h fun t28 h =>
  runD (nilCheckD t0) h fun t29 h =>
  runH (storeH T_slices_xorshift h t29 t28) h fun _ h =>
  runD (nilCheckD t0) h fun t31 h =>
  runD (fitD T_slices_xorshift (loadD h t31)) h fun t32 h =>
  K (.ret t32) h
def slices_medianAdjacentCmpFunc_api_Rec.loops : Nat → LInfo
  | _ => ⟨[], [], [], [], [], []⟩
def slices_medianAdjacentCmpFunc_api_Rec.H (c : Ctx) (t0 : AV) (t1 : AV) (t2 : AV) (t3 : AV) (h : List AObj) (K : AOut → List AObj → Prop) : Prop :=
  runD (binD T_int .sub t1 (.int .i64 1)) h fun t11 h =>
  runD (binD T_int .add t1 (.int .i64 1)) h fun t14 h =>
  callW false c (.fn (.func 141) [] []) [t0, t11, t1, t14, t2, t3] h (fun t17 h =>
  K (.ret t17) h)
  (fun v h => K (.pan v) h)
theorem slices_heapSortCmpFunc_api_Rec.eq (F : List (FuncId × Contract)) (S : List (FuncId × Con)) (t0 t1 t2 t3 : AV) (h : List AObj) (K : AOut → List AObj → Prop) : funW (ctx F S slices_heapSortCmpFunc_api_Rec.loops) Try.f115 [t0, t1, t2, t3] h K = slices_heapSortCmpFunc_api_Rec.H (ctx F S slices_heapSortCmpFunc_api_Rec.loops) t0 t1 t2 t3 h K := by kernel_rfl
theorem slices_breakPatternsCmpFunc_api_Rec.eq (F : List (FuncId × Contract)) (S : List (FuncId × Con)) (t0 t1 t2 t3 : AV) (h : List AObj) (K : AOut → List AObj → Prop) : funW (ctx F S slices_breakPatternsCmpFunc_api_Rec.loops) Try.f116 [t0, t1, t2, t3] h K = slices_breakPatternsCmpFunc_api_Rec.H (ctx F S slices_breakPatternsCmpFunc_api_Rec.loops) t0 t1 t2 t3 h K := by kernel_rfl
theorem slices_reverseRangeCmpFunc_api_Rec.eq (F : List (FuncId × Contract)) (S : List (FuncId × Con)) (t0 t1 t2 t3 : AV) (h : List AObj) (K : AOut → List AObj → Prop) : funW (ctx F S slices_reverseRangeCmpFunc_api_Rec.loops) Try.f118 [t0, t1, t2, t3] h K = slices_reverseRangeCmpFunc_api_Rec.H (ctx F S slices_reverseRangeCmpFunc_api_Rec.loops) t0 t1 t2 t3 h K := by kernel_rfl
theorem slices_siftDownCmpFunc_api_Rec.eq (F : List (FuncId × Contract)) (S : List (FuncId × Con)) (t0 t1 t2 t3 t4 : AV) (h : List AObj) (K : AOut → List AObj → Prop) : funW (ctx F S slices_siftDownCmpFunc_api_Rec.loops) Try.f137 [t0, t1, t2, t3, t4] h K = slices_siftDownCmpFunc_api_Rec.H (ctx F S slices_siftDownCmpFunc_api_Rec.loops) t0 t1 t2 t3 t4 h K := by kernel_rfl
theorem slices_nextPowerOfTwo.eq (F : List (FuncId × Contract)) (S : List (FuncId × Con)) (t0 : AV) (h : List AObj) (K : AOut → List AObj → Prop) : funW (ctx F S slices_nextPowerOfTwo.loops) Try.f138 [t0] h K = slices_nextPowerOfTwo.H (ctx F S slices_nextPowerOfTwo.loops) t0 h K := by kernel_rfl
theorem slices_xorshift_Next.eq (F : List (FuncId × Contract)) (S : List (FuncId × Con)) (t0 : AV) (h : List AObj) (K : AOut → List AObj → Prop) : funW (ctx F S slices_xorshift_Next.loops) Try.f139 [t0] h K = slices_xorshift_Next.H (ctx F S slices_xorshift_Next.loops) t0 h K := by kernel_rfl
theorem slices_medianAdjacentCmpFunc_api_Rec.eq (F : List (FuncId × Contract)) (S : List (FuncId × Con)) (t0 t1 t2 t3 : AV) (h : List AObj) (K : AOut → List AObj → Prop) : funW (ctx F S slices_medianAdjacentCmpFunc_api_Rec.loops) Try.f140 [t0, t1, t2, t3] h K = slices_medianAdjacentCmpFunc_api_Rec.H (ctx F S slices_medianAdjacentCmpFunc_api_Rec.loops) t0 t1 t2 t3 h K := by kernel_rfl
theorem slices_heapSortCmpFunc_api_Rec.at : Try.prog.funcs[115]? = some Try.f115 := by kernel_rfl
theorem slices_heapSortCmpFunc_api_Rec.nm : (Try.f115.name == "runtime.NumGoroutine") = false := by kernel_rfl
theorem slices_heapSortCmpFunc_api_Rec.bd : Try.f115.body.isNone = false := by kernel_rfl
theorem slices_breakPatternsCmpFunc_api_Rec.at : Try.prog.funcs[116]? = some Try.f116 := by kernel_rfl
theorem slices_breakPatternsCmpFunc_api_Rec.nm : (Try.f116.name == "runtime.NumGoroutine") = false := by kernel_rfl
theorem slices_breakPatternsCmpFunc_api_Rec.bd : Try.f116.body.isNone = false := by kernel_rfl
theorem slices_reverseRangeCmpFunc_api_Rec.at : Try.prog.funcs[118]? = some Try.f118 := by kernel_rfl
theorem slices_reverseRangeCmpFunc_api_Rec.nm : (Try.f118.name == "runtime.NumGoroutine") = false := by kernel_rfl
theorem slices_reverseRangeCmpFunc_api_Rec.bd : Try.f118.body.isNone = false := by kernel_rfl
theorem slices_siftDownCmpFunc_api_Rec.at : Try.prog.funcs[137]? = some Try.f137 := by kernel_rfl
theorem slices_siftDownCmpFunc_api_Rec.nm : (Try.f137.name == "runtime.NumGoroutine") = false := by kernel_rfl
theorem slices_siftDownCmpFunc_api_Rec.bd : Try.f137.body.isNone = false := by kernel_rfl
theorem slices_nextPowerOfTwo.at : Try.prog.funcs[138]? = some Try.f138 := by kernel_rfl
theorem slices_nextPowerOfTwo.nm : (Try.f138.name == "runtime.NumGoroutine") = false := by kernel_rfl
theorem slices_nextPowerOfTwo.bd : Try.f138.body.isNone = false := by kernel_rfl
theorem slices_xorshift_Next.at : Try.prog.funcs[139]? = some Try.f139 := by kernel_rfl
theorem slices_xorshift_Next.nm : (Try.f139.name == "runtime.NumGoroutine") = false := by kernel_rfl
theorem slices_xorshift_Next.bd : Try.f139.body.isNone = false := by kernel_rfl
theorem slices_medianAdjacentCmpFunc_api_Rec.at : Try.prog.funcs[140]? = some Try.f140 := by kernel_rfl
theorem slices_medianAdjacentCmpFunc_api_Rec.nm : (Try.f140.name == "runtime.NumGoroutine") = false := by kernel_rfl
theorem slices_medianAdjacentCmpFunc_api_Rec.bd : Try.f140.body.isNone = false := by kernel_rfl
end Lam
namespace Lam
open Go Go.Proofs
set_option linter.unusedVariables false
def cmp_Compare_string.loops : Nat → LInfo
  | _ => ⟨[], [], [], [], [], []⟩
def cmp_Compare_string.H (c : Ctx) (t0 : AV) (t1 : AV) (h : List AObj) (K : AOut → List AObj → Prop) : Prop :=
  callW false c (.fn (.func 94) [] []) [t0] h (fun t8 h =>
  callW false c (.fn (.func 94) [] []) [t1] h (fun t10 h =>
  condW t8
  (condW t10
    (K (.ret (.int .i64 0)) h)
    (K (.ret (.int .i64 (-1))) h))
  (condW t10
  (K (.ret (.int .i64 1)) h)
  (runD (binD T_string .lss t0 t1) h fun t16 h =>
  condW t16
  (K (.ret (.int .i64 (-1))) h)
  (runD (binD T_string .gtr t0 t1) h fun t19 h =>
  condW t19
  (K (.ret (.int .i64 1)) h)
  (K (.ret (.int .i64 0)) h)))))
  (fun v h => K (.pan v) h))
  (fun v h => K (.pan v) h)
def cmp_isNaN_string.loops : Nat → LInfo
  | _ => ⟨[], [], [], [], [], []⟩
def cmp_isNaN_string.H (c : Ctx) (t0 : AV) (h : List AObj) (K : AOut → List AObj → Prop) : Prop :=
  runD (binD T_string .neq t0 t0) h fun t5 h =>
  K (.ret t5) h
theorem cmp_Compare_string.eq (F : List (FuncId × Contract)) (S : List (FuncId × Con)) (t0 t1 : AV) (h : List AObj) (K : AOut → List AObj → Prop) : funW (ctx F S cmp_Compare_string.loops) Try.f69 [t0, t1] h K = cmp_Compare_string.H (ctx F S cmp_Compare_string.loops) t0 t1 h K := by kernel_rfl
theorem cmp_isNaN_string.eq (F : List (FuncId × Contract)) (S : List (FuncId × Con)) (t0 : AV) (h : List AObj) (K : AOut → List AObj → Prop) : funW (ctx F S cmp_isNaN_string.loops) Try.f94 [t0] h K = cmp_isNaN_string.H (ctx F S cmp_isNaN_string.loops) t0 h K := by kernel_rfl
theorem cmp_Compare_string.at : Try.prog.funcs[69]? = some Try.f69 := by kernel_rfl
theorem cmp_Compare_string.nm : (Try.f69.name == "runtime.NumGoroutine") = false := by kernel_rfl
theorem cmp_Compare_string.bd : Try.f69.body.isNone = false := by kernel_rfl
theorem cmp_isNaN_string.at : Try.prog.funcs[94]? = some Try.f94 := by kernel_rfl
theorem cmp_isNaN_string.nm : (Try.f94.name == "runtime.NumGoroutine") = false := by kernel_rfl
theorem cmp_isNaN_string.bd : Try.f94.body.isNone = false := by kernel_rfl
end Lam
namespace Lam
open Go Go.Proofs
set_option linter.unusedVariables false
def math_bits_Len.loops : Nat → LInfo
  | _ => ⟨[], [], [], [], [], []⟩
def math_bits_Len.H (c : Ctx) (t0 : AV) (h : List AObj) (K : AOut → List AObj → Prop) : Prop :=
  condW (.bool false)
  (runD (convD h T_uint T_uint32 t0) h fun t4 h =>
    callW false c (.fn (.func 122) [] []) [t4] h (fun t5 h =>
    K (.ret t5) h)
    (fun v h => K (.pan v) h))
  (callW false c (.fn (.func 123) [] []) [t0] h (fun t7 h =>
  K (.ret t7) h)
  (fun v h => K (.pan v) h))
def math_bits_Len64.loops : Nat → LInfo
  | _ => ⟨[], [], [], [], [], []⟩
def math_bits_Len64.H (c : Ctx) (t0 : AV) (h : List AObj) (K : AOut → List AObj → Prop) : Prop :=
  runD (binD T_uint64 .geq t0 (.int .u64 4294967296)) h fun t4 h =>
  joinW (fun (J1 : AV → AV → List AObj → Prop) =>
  condW t4
  (runD (binD T_uint64 .shr t0 (.int .u64 32)) h fun t6 h =>
    J1 t6 (.int .i64 32) h)
  (J1 t0 (.int .i64 0) h))
  (fun t0 t2 h => runD (binD T_uint64 .geq t0 (.int .u64 65536)) h fun t8 h =>
  joinW (fun (J2 : AV → AV → List AObj → Prop) =>
  condW t8
  (runD (binD T_uint64 .shr t0 (.int .u64 16)) h fun t10 h =>
    runD (binD T_int .add t2 (.int .i64 16)) h fun t12 h =>
    J2 t10 t12 h)
  (J2 t0 t2 h))
  (fun t0 t2 h => runD (binD T_uint64 .geq t0 (.int .u64 256)) h fun t14 h =>
  joinW (fun (J3 : AV → AV → List AObj → Prop) =>
  condW t14
  (runD (binD T_uint64 .shr t0 (.int .u64 8)) h fun t16 h =>
    runD (binD T_int .add t2 (.int .i64 8)) h fun t18 h =>
    J3 t16 t18 h)
  (J3 t0 t2 h))
  (fun t0 t2 h => runD (convD h T_uint64 T_uint8 t0) h fun t21 h =>
  runD (indexD T_string (.str [0, 1, 2, 2, 3, 3, 3, 3, 4, 4, 4, 4, 4, 4, 4, 4, 5, 5, 5, 5, 5, 5, 5, 5, 5, 5, 5, 5, 5, 5, 5, 5, 6, 6, 6, 6, 6, 6, 6, 6, 6, 6, 6, 6, 6, 6, 6, 6, 6, 6, 6, 6, 6, 6, 6, 6, 6, 6, 6, 6, 6, 6, 6, 6, 7, 7, 7, 7, 7, 7, 7, 7, 7, 7, 7, 7, 7, 7, 7, 7, 7, 7, 7, 7, 7, 7, 7, 7, 7, 7, 7, 7, 7, 7, 7, 7, 7, 7, 7, 7, 7, 7, 7, 7, 7, 7, 7, 7, 7, 7, 7, 7, 7, 7, 7, 7, 7, 7, 7, 7, 7, 7, 7, 7, 7, 7, 7, 7, 8, 8, 8, 8, 8, 8, 8, 8, 8, 8, 8, 8, 8, 8, 8, 8, 8, 8, 8, 8, 8, 8, 8, 8, 8, 8, 8, 8, 8, 8, 8, 8, 8, 8, 8, 8, 8, 8, 8, 8, 8, 8, 8, 8, 8, 8, 8, 8, 8, 8, 8, 8, 8, 8, 8, 8, 8, 8, 8, 8, 8, 8, 8, 8, 8, 8, 8, 8, 8, 8, 8, 8, 8, 8, 8, 8, 8, 8, 8, 8, 8, 8, 8, 8, 8, 8, 8, 8, 8, 8, 8, 8, 8, 8, 8, 8, 8, 8, 8, 8, 8, 8, 8, 8, 8, 8, 8, 8, 8, 8, 8, 8, 8, 8, 8, 8, 8, 8, 8, 8, 8, 8, 8, 8, 8, 8, 8, 8]) t21) h fun t22 h =>
  runD (convD h T_uint8 T_int t22) h fun t23 h =>
  runD (binD T_int .add t2 t23) h fun t24 h =>
  K (.ret t24) h)))
theorem math_bits_Len.eq (F : List (FuncId × Contract)) (S : List (FuncId × Con)) (t0 : AV) (h : List AObj) (K : AOut → List AObj → Prop) : funW (ctx F S math_bits_Len.loops) Try.f93 [t0] h K = math_bits_Len.H (ctx F S math_bits_Len.loops) t0 h K := by kernel_rfl
theorem math_bits_Len64.eq (F : List (FuncId × Contract)) (S : List (FuncId × Con)) (t0 : AV) (h : List AObj) (K : AOut → List AObj → Prop) : funW (ctx F S math_bits_Len64.loops) Try.f123 [t0] h K = math_bits_Len64.H (ctx F S math_bits_Len64.loops) t0 h K := by kernel_rfl
theorem math_bits_Len.at : Try.prog.funcs[93]? = some Try.f93 := by kernel_rfl
theorem math_bits_Len.nm : (Try.f93.name == "runtime.NumGoroutine") = false := by kernel_rfl
theorem math_bits_Len.bd : Try.f93.body.isNone = false := by kernel_rfl
theorem math_bits_Len64.at : Try.prog.funcs[123]? = some Try.f123 := by kernel_rfl
theorem math_bits_Len64.nm : (Try.f123.name == "runtime.NumGoroutine") = false := by kernel_rfl
theorem math_bits_Len64.bd : Try.f123.body.isNone = false := by kernel_rfl
end Lam
namespace Lam
open Go Go.Proofs
set_option linter.unusedVariables false
def seek_Begin.loops : Nat → LInfo
  | 2 => ⟨[], [], [], [(3, none), (2, some [17, 19])], [], []⟩
  | _ => ⟨[], [], [], [], [], []⟩
def seek_Begin.H (c : Ctx) (t0 : AV) (t1 : AV) (h : List AObj) (K : AOut → List AObj → Prop) : Prop :=
  allocW T_api_Seek h fun t4 h =>
  callW false c (.fn (.func 23) [] []) [t0, t1] h (fun t12 h =>
  runD (extractD t12 0) h fun t13 h =>
  runD (extractD t12 1) h fun t14 h =>
  allocW T_api_Node h fun t6 h =>
  runH (storeH T_api_Node h t6 t13) h fun _ h =>
  runD (binD T_api_Errno .neq t14 (.int .i64 0)) h fun t16 h =>
  joinW (fun (J1 : AV → AV → List AObj → Prop) =>
  guardW t16 false
  (runD (binD T_int .geq t1 (.int .i64 256)) h fun t19 h =>
    J1 (.bool false) t19 h)
  (J1 (.bool true) .und h))
  (fun t17 t19 h => runD (pickD t17 (.bool true) t19) h fun t20 h =>
  condW t20
  (runD (buildD T_api_Seek []) h fun t21 h =>
    runH (storeH T_api_Seek h t4 t21) h fun _ h =>
    loadRes (fitD T_api_Seek (loadD h t4)) fun r0 => K (.ret (.tup [r0, (.int .i64 90)])) h)
  (runD (fieldAddrD T_api_Node t6 1) h fun t23 h =>
  runD (fitD T_int (loadD h t23)) h fun t24 h =>
  runD (buildD T_api_Seek [(0, t1), (1, t24)]) h fun t25 h =>
  allocW T_api_Seek h fun t8 h =>
  runH (storeH T_api_Seek h t8 t25) h fun _ h =>
  runD (fitD T_api_Seek (loadD h t8)) h fun t26 h =>
  callW false c (.fn (.func 61) [] []) [t26] h (fun t27 h =>
  joinW (fun (J2 : List AObj → Prop) =>
  condW t27
  (runD (fieldAddrD T_api_Seek t8 2) h fun t28 h =>
    runH (storeH T_int h t28 (.int .i64 12)) h fun _ h =>
    J2 h)
  (J2 h))
  (fun h => runD (fitD T_api_Seek (loadD h t8)) h fun t29 h =>
  runH (storeH T_api_Seek h t4 t29) h fun _ h =>
  loadRes (fitD T_api_Seek (loadD h t4)) fun r0 => K (.ret (.tup [r0, (.int .i64 0)])) h))
  (fun v h => K (.pan v) h))))
  (fun v h => K (.pan v) h)
def seek_Step.loops : Nat → LInfo
  | 2 => ⟨[], [], [], [(4, none), (3, some [12, 15]), (2, none), (6, some [17, 23])], [], []⟩
  | 4 => ⟨[], [], [], [(3, none), (2, some [33, 35])], [], []⟩
  | _ => ⟨[], [], [], [], [], []⟩
def seek_Step.H (c : Ctx) (t0 : AV) (t1 : AV) (h : List AObj) (K : AOut → List AObj → Prop) : Prop :=
  boxW T_api_Seek t1 h fun t3 h =>
  allocW T_api_Seek h fun t4 h =>
  runD (fieldAddrD T_api_Seek t3 0) h fun t9 h =>
  runD (fitD T_int (loadD h t9)) h fun t10 h =>
  runD (binD T_int .geq t10 (.int .i64 0)) h fun t11 h =>
  joinW (fun (J1 : AV → AV → List AObj → Prop) =>
  guardW t11 true
  (runD (fieldAddrD T_api_Seek t3 0) h fun t13 h =>
    runD (fitD T_int (loadD h t13)) h fun t14 h =>
    runD (binD T_int .lss t14 (.int .i64 256)) h fun t15 h =>
    J1 (.bool true) t15 h)
  (J1 (.bool false) .und h))
  (fun t12 t15 h => runD (pickD t12 t15 (.bool false)) h fun t16 h =>
  joinW (fun (J2 : AV → AV → List AObj → Prop) =>
  guardW t16 true
  (runD (fieldAddrD T_api_Seek t3 0) h fun t18 h =>
    runD (fitD T_int (loadD h t18)) h fun t19 h =>
    runD (lenD T_sl_int h t0) h fun t21 h =>
    runD (binD T_int .quo t21 (.int .i64 16)) h fun t22 h =>
    runD (binD T_int .lss t19 t22) h fun t23 h =>
    J2 (.bool true) t23 h)
  (J2 (.bool false) .und h))
  (fun t17 t23 h => runD (pickD t17 t23 (.bool false)) h fun t24 h =>
  joinW (fun (J3 : AV → List AObj → Prop) =>
  condW t24
  (runD (fieldAddrD T_api_Seek t3 0) h fun t25 h =>
    runD (fitD T_int (loadD h t25)) h fun t26 h =>
    runD (binD T_int .mul (.int .i64 16) t26) h fun t27 h =>
    runD (fieldAddrD T_api_Seek t3 2) h fun t28 h =>
    runD (fitD T_int (loadD h t28)) h fun t29 h =>
    callW false c (.fn (.func 63) [] []) [t27, t29] h (fun t30 h =>
    J3 t30 h)
    (fun v h => K (.pan v) h))
  (J3 (.int .i64 (-1)) h))
  (fun t5 h => runD (fieldAddrD T_api_Seek t3 4) h fun t31 h =>
  runD (fitD T_bool (loadD h t31)) h fun t32 h =>
  joinW (fun (J4 : AV → AV → List AObj → Prop) =>
  guardW t32 false
  (runD (binD T_int .lss t5 (.int .i64 0)) h fun t35 h =>
    J4 (.bool false) t35 h)
  (J4 (.bool true) .und h))
  (fun t33 t35 h => runD (pickD t33 (.bool true) t35) h fun t36 h =>
  condW t36
  (runD (fitD T_api_Seek (loadD h t3)) h fun t37 h =>
    runH (storeH T_api_Seek h t4 t37) h fun _ h =>
    loadRes (fitD T_api_Seek (loadD h t4)) fun r0 => K (.ret r0) h)
  (runD (fitD T_api_Seek (loadD h t3)) h fun t38 h =>
  runD (indexAddrD T_sl_int h t0 t5) h fun t41 h =>
  runD (fitD T_int (loadD h t41)) h fun t42 h =>
  runD (buildD T_seek_look [(0, t38), (1, t42)]) h fun t43 h =>
  boxW T_seek_look t43 h fun t44 h =>
  runD (fieldAddrD T_api_Seek t3 3) h fun t46 h =>
  runD (fitD T_sl_int (loadD h t46)) h fun t47 h =>
  callW false c (.fn (.func 64) [] []) [t47] h (fun t48 h =>
  runD (nilCheckD t44) h fun t49 h =>
  runD (fieldAddrD T_seek_look t49 0) h fun t50 h =>
  runD (fieldAddrD T_api_Seek t50 3) h fun t51 h =>
  runH (storeH T_sl_int h t51 t48) h fun _ h =>
  runD (fieldAddrD T_api_Seek t3 3) h fun t52 h =>
  runD (fitD T_sl_int (loadD h t52)) h fun t53 h =>
  runD (lenD T_sl_int h t53) h fun t54 h =>
  runD (nilCheckD t44) h fun t56 h =>
  runD (fieldAddrD T_seek_look t56 1) h fun t57 h =>
  runD (fitD T_int (loadD h t57)) h fun t58 h =>
  runD (binD T_int .gtr t58 (.int .i64 0)) h fun t59 h =>
  joinW (fun (J5 : AV → AV → List AObj → Prop) =>
  guardW t59 true
  (runD (binD T_int .eql t54 (.int .i64 0)) h fun t62 h =>
    joinW (fun (J6 : AV → AV → List AObj → Prop) =>
    guardW t62 false
    (runD (fieldAddrD T_api_Seek t3 3) h fun t64 h =>
      runD (fitD T_sl_int (loadD h t64)) h fun t65 h =>
      runD (binD T_int .sub t54 (.int .i64 1)) h fun t67 h =>
      runD (indexAddrD T_sl_int h t65 t67) h fun t68 h =>
      runD (fitD T_int (loadD h t68)) h fun t69 h =>
      runD (nilCheckD t44) h fun t71 h =>
      runD (fieldAddrD T_seek_look t71 1) h fun t72 h =>
      runD (fitD T_int (loadD h t72)) h fun t73 h =>
      runD (binD T_int .neq t69 t73) h fun t74 h =>
      J6 (.bool false) t74 h)
    (J6 (.bool true) .und h))
    (fun t63 t74 h => runD (pickD t63 (.bool true) t74) h fun t75 h =>
    J5 (.bool true) t75 h))
  (J5 (.bool false) .und h))
  (fun t60 t75 h => runD (pickD t60 t75 (.bool false)) h fun t76 h =>
  joinW (fun (J7 : List AObj → Prop) =>
  condW t76
  (runD (nilCheckD t44) h fun t79 h =>
    runD (fieldAddrD T_seek_look t79 0) h fun t80 h =>
    runD (fieldAddrD T_api_Seek t80 3) h fun t81 h =>
    runD (fitD T_sl_int (loadD h t81)) h fun t82 h =>
    runD (nilCheckD t44) h fun t84 h =>
    runD (fieldAddrD T_seek_look t84 1) h fun t85 h =>
    runD (fitD T_int (loadD h t85)) h fun t86 h =>
    runD (buildSliceD T_sl_int 1 [(0, t86)] h.length) h fun t87 h =>
    runDM (appendD T_sl_int h t82 t87 h.length) (appendH T_sl_int h t82 t87) h fun t88 h =>
    runD (nilCheckD t44) h fun t89 h =>
    runD (fieldAddrD T_seek_look t89 0) h fun t90 h =>
    runD (fieldAddrD T_api_Seek t90 3) h fun t91 h =>
    runH (storeH T_sl_int h t91 t88) h fun _ h =>
    J7 h)
  (J7 h))
  (fun h => runD (fitD T_api_Seek (loadD h t3)) h fun t94 h =>
  callW false c (.fn (.func 61) [] []) [t94] h (fun t95 h =>
  joinW (fun (J8 : AV → List AObj → Prop) =>
  condW t95
  (J8 (.fn (.func 66) [t44] []) h)
  (J8 (.fn (.func 65) [t44] []) h))
  (fun t8 h => callW false c t8 [] h (fun t99 h =>
  runD (nilCheckD t44) h fun t101 h =>
  runD (fieldAddrD T_seek_look t101 0) h fun t102 h =>
  runD (fitD T_api_Seek (loadD h t102)) h fun t103 h =>
  runH (storeH T_api_Seek h t4 t103) h fun _ h =>
  loadRes (fitD T_api_Seek (loadD h t4)) fun r0 => K (.ret r0) h)
  (fun v h => K (.pan v) h)))
  (fun v h => K (.pan v) h))))
  (fun v h => K (.pan v) h))))))
def seek_Holds.loops : Nat → LInfo
  | 2 => ⟨[], [], [], [(3, none), (5, some [16, 21])], [], []⟩
  | _ => ⟨[], [], [], [], [], []⟩
def seek_Holds.H (c : Ctx) (t0 : AV) (t1 : AV) (h : List AObj) (K : AOut → List AObj → Prop) : Prop :=
  boxW T_api_Seek t1 h fun t3 h =>
  runD (fieldAddrD T_api_Seek t3 0) h fun t9 h =>
  runD (fitD T_int (loadD h t9)) h fun t10 h =>
  callW false c (.fn (.func 23) [] []) [t0, t10] h (fun t11 h =>
  runD (extractD t11 0) h fun t12 h =>
  runD (extractD t11 1) h fun t13 h =>
  allocW T_api_Node h fun t5 h =>
  runH (storeH T_api_Node h t5 t12) h fun _ h =>
  runD (binD T_api_Errno .eql t13 (.int .i64 0)) h fun t15 h =>
  joinW (fun (J1 : AV → AV → List AObj → Prop) =>
  guardW t15 true
  (runD (fieldAddrD T_api_Node t5 1) h fun t17 h =>
    runD (fitD T_int (loadD h t17)) h fun t18 h =>
    runD (fieldAddrD T_api_Seek t3 1) h fun t19 h =>
    runD (fitD T_int (loadD h t19)) h fun t20 h =>
    runD (binD T_int .eql t18 t20) h fun t21 h =>
    J1 (.bool true) t21 h)
  (J1 (.bool false) .und h))
  (fun t16 t21 h => runD (pickD t16 t21 (.bool false)) h fun t22 h =>
  K (.ret t22) h))
  (fun v h => K (.pan v) h)
def seek_Hits.loops : Nat → LInfo
  | 3 => ⟨[4, 14], [true, false], [0, 5, 12, 13], [], [], []⟩
  | 6 => ⟨[], [], [], [(3, none), (5, some [26, 31])], [], []⟩
  | _ => ⟨[], [], [], [], [], []⟩
def seek_Hits.L1 (c : Ctx) (J1 : AV → List AObj → Prop) (K : AOut → List AObj → Prop) (lv : List AV) (h0 : List AObj) (n0 : Nat) (c0 : AV) (c5 : AV) (c12 : AV) (c13 : AV) : Prop :=
  ∃ I : Nat → List AV → List AObj → Prop, (∃ n, I n lv h0) ∧ ∀ n h, ∀ t4, ∀ t14, I n [t4, t14] h →
    runD (binD T_int .lss t14 c13) h fun t15 h =>
    condW t15
    (runD (indexAddrD T_sl_int h c12 t14) h fun t16 h =>
    runD (fitD T_int (loadD h t16)) h fun t17 h =>
    callW false c (.fn (.func 37) [] []) [c0, t17] h (fun t21 h =>
    runD (extractD t21 0) h fun t22 h =>
    runD (extractD t21 1) h fun t23 h =>
    allocW T_api_Rec h fun t8 h =>
    runH (storeH T_api_Rec h t8 t22) h fun _ h =>
    runD (binD T_api_Errno .eql t23 (.int .i64 0)) h fun t25 h =>
    joinW (fun (J2 : AV → AV → List AObj → Prop) =>
    guardW t25 true
    (runD (fieldAddrD T_api_Rec t8 1) h fun t28 h =>
      runD (fitD T_string (loadD h t28)) h fun t29 h =>
      runD (lookupD T_map_string_bool h c5 t29) h fun t30 h =>
      runD (unD .not t30) h fun t31 h =>
      J2 (.bool true) t31 h)
    (J2 (.bool false) .und h))
    (fun t26 t31 h => runD (pickD t26 t31 (.bool false)) h fun t32 h =>
    joinW (fun (J3 : AV → List AObj → Prop) =>
    condW t32
    (runD (fieldAddrD T_api_Rec t8 1) h fun t34 h =>
      runD (fitD T_string (loadD h t34)) h fun t35 h =>
      runH (mapSetH T_map_string_bool h c5 t35 (.bool true)) h fun _ h =>
      runD (fitD T_api_Rec (loadD h t8)) h fun t37 h =>
      runD (buildSliceD T_sl_api_Rec 1 [(0, t37)] h.length) h fun t38 h =>
      runDM (appendD T_sl_api_Rec h t4 t38 h.length) (appendH T_sl_api_Rec h t4 t38) h fun t39 h =>
      J3 t39 h)
    (J3 t4 h))
    (fun t4 h => runD (binD T_int .add t14 (.int .i64 1)) h fun t40 h =>
    (∃ m, m < n ∧ I m (AV.norms n0 h [t4, t40]) (normH n0 h)) ∧ AV.norms n0 h [c0, c5, c12, c13] = [c0, c5, c12, c13])))
    (fun v h => K (.pan v) h))
    (J1 t4 h)
def seek_Hits.H (c : Ctx) (t0 : AV) (t1 : AV) (h : List AObj) (K : AOut → List AObj → Prop) : Prop :=
  boxW T_api_Seek t1 h fun t3 h =>
  runD (makeMapD T_map_string_bool h.length) h fun t10 h =>
  runD (fieldAddrD T_api_Seek t3 3) h fun t11 h =>
  runD (fitD T_sl_int (loadD h t11)) h fun t12 h =>
  runD (lenD T_sl_int h t12) h fun t13 h =>
  joinW (fun (J1 : AV → List AObj → Prop) =>
  promV [true, false] [(.sl true (.recs [])), (.int .i64 0)] h fun lv h => seek_Hits.L1 c J1 K (AV.norms h.length h lv) (normH h.length h) h.length (AV.norm h.length h t0) (AV.norm h.length h t10) (AV.norm h.length h t12) (AV.norm h.length h t13))
  (fun t4 h => callW false c (.fn (.func 67) [] []) [t4, (.fn (.func 68) [] [])] h (fun t42 h =>
  K (.ret t4) h)
  (fun v h => K (.pan v) h))
def seek_down.loops : Nat → LInfo
  | _ => ⟨[], [], [], [], [], []⟩
def seek_down.H (c : Ctx) (t0 : AV) (h : List AObj) (K : AOut → List AObj → Prop) : Prop :=
  boxW T_api_Seek t0 h fun t1 h =>
  runD (fieldAddrD T_api_Seek t1 1) h fun t3 h =>
  runD (fitD T_int (loadD h t3)) h fun t4 h =>
  runD (binD T_int .and t4 (.int .i64 1)) h fun t5 h =>
  runD (binD T_int .eql t5 (.int .i64 1)) h fun t6 h =>
  K (.ret t6) h
def seek_look_up.loops : Nat → LInfo
  | 0 => ⟨[], [], [], [(7, none), (6, some [8, 14])], [], []⟩
  | _ => ⟨[], [], [], [], [], []⟩
def seek_look_up.H (c : Ctx) (t0 : AV) (h : List AObj) (K : AOut → List AObj → Prop) : Prop :=
  runD (nilCheckD t0) h fun t4 h =>
  runD (fieldAddrD T_seek_look t4 1) h fun t5 h =>
  runD (fitD T_int (loadD h t5)) h fun t6 h =>
  runD (binD T_int .lss t6 (.int .i64 1)) h fun t7 h =>
  joinW (fun (J1 : AV → AV → List AObj → Prop) =>
  guardW t7 false
  (runD (nilCheckD t0) h fun t10 h =>
    runD (fieldAddrD T_seek_look t10 0) h fun t11 h =>
    runD (fieldAddrD T_api_Seek t11 2) h fun t12 h =>
    runD (fitD T_int (loadD h t12)) h fun t13 h =>
    runD (binD T_int .eql t13 (.int .i64 12)) h fun t14 h =>
    J1 (.bool false) t14 h)
  (J1 (.bool true) .und h))
  (fun t8 t14 h => runD (pickD t8 (.bool true) t14) h fun t15 h =>
  runD (nilCheckD t0) h fun t16 h =>
  runD (fieldAddrD T_seek_look t16 0) h fun t17 h =>
  runD (fieldAddrD T_api_Seek t17 4) h fun t18 h =>
  runH (storeH T_bool h t18 t15) h fun _ h =>
  runD (nilCheckD t0) h fun t20 h =>
  runD (fieldAddrD T_seek_look t20 0) h fun t21 h =>
  runD (fieldAddrD T_api_Seek t21 4) h fun t22 h =>
  runD (fitD T_bool (loadD h t22)) h fun t23 h =>
  runD (unD .not t23) h fun t24 h =>
  joinW (fun (J2 : List AObj → Prop) =>
  condW t24
  (runD (nilCheckD t0) h fun t26 h =>
    runD (fieldAddrD T_seek_look t26 0) h fun t27 h =>
    runD (fieldAddrD T_api_Seek t27 2) h fun t28 h =>
    runD (fitD T_int (loadD h t28)) h fun t29 h =>
    runD (binD T_int .add t29 (.int .i64 1)) h fun t30 h =>
    runD (nilCheckD t0) h fun t31 h =>
    runD (fieldAddrD T_seek_look t31 0) h fun t32 h =>
    runD (fieldAddrD T_api_Seek t32 2) h fun t33 h =>
    runH (storeH T_int h t33 t30) h fun _ h =>
    J2 h)
  (J2 h))
  (fun h => K (.ret (.tup [])) h))
def seek_look_fall.loops : Nat → LInfo
  | _ => ⟨[], [], [], [], [], []⟩
def seek_look_fall.H (c : Ctx) (t0 : AV) (h : List AObj) (K : AOut → List AObj → Prop) : Prop :=
  runD (nilCheckD t0) h fun t4 h =>
  runD (fieldAddrD T_seek_look t4 0) h fun t5 h =>
  runD (fieldAddrD T_api_Seek t5 2) h fun t6 h =>
  runD (fitD T_int (loadD h t6)) h fun t7 h =>
  runD (binD T_int .eql t7 (.int .i64 0)) h fun t8 h =>
  runD (nilCheckD t0) h fun t9 h =>
  runD (fieldAddrD T_seek_look t9 0) h fun t10 h =>
  runD (fieldAddrD T_api_Seek t10 4) h fun t11 h =>
  runH (storeH T_bool h t11 t8) h fun _ h =>
  runD (nilCheckD t0) h fun t13 h =>
  runD (fieldAddrD T_seek_look t13 0) h fun t14 h =>
  runD (fieldAddrD T_api_Seek t14 4) h fun t15 h =>
  runD (fitD T_bool (loadD h t15)) h fun t16 h =>
  runD (unD .not t16) h fun t17 h =>
  joinW (fun (J1 : List AObj → Prop) =>
  condW t17
  (runD (nilCheckD t0) h fun t19 h =>
    runD (fieldAddrD T_seek_look t19 0) h fun t20 h =>
    runD (fieldAddrD T_api_Seek t20 2) h fun t21 h =>
    runD (fitD T_int (loadD h t21)) h fun t22 h =>
    runD (binD T_int .sub t22 (.int .i64 1)) h fun t23 h =>
    runD (nilCheckD t0) h fun t24 h =>
    runD (fieldAddrD T_seek_look t24 0) h fun t25 h =>
    runD (fieldAddrD T_api_Seek t25 2) h fun t26 h =>
    runH (storeH T_int h t26 t23) h fun _ h =>
    J1 h)
  (J1 h))
  (fun h => K (.ret (.tup [])) h)
def seek_Hits_1.loops : Nat → LInfo
  | _ => ⟨[], [], [], [], [], []⟩
def seek_Hits_1.H (c : Ctx) (t0 : AV) (t1 : AV) (h : List AObj) (K : AOut → List AObj → Prop) : Prop :=
  boxW T_api_Rec t0 h fun t2 h =>
  boxW T_api_Rec t1 h fun t3 h =>
  runD (fieldAddrD T_api_Rec t2 1) h fun t5 h =>
  runD (fitD T_string (loadD h t5)) h fun t6 h =>
  runD (fieldAddrD T_api_Rec t3 1) h fun t7 h =>
  runD (fitD T_string (loadD h t7)) h fun t8 h =>
  callW false c (.fn (.func 69) [] []) [t6, t8] h (fun t9 h =>
  K (.ret t9) h)
  (fun v h => K (.pan v) h)
theorem seek_Begin.eq (F : List (FuncId × Contract)) (S : List (FuncId × Con)) (t0 t1 : AV) (h : List AObj) (K : AOut → List AObj → Prop) : funW (ctx F S seek_Begin.loops) Try.f25 [t0, t1] h K = seek_Begin.H (ctx F S seek_Begin.loops) t0 t1 h K := by kernel_rfl
theorem seek_Step.eq (F : List (FuncId × Contract)) (S : List (FuncId × Con)) (t0 t1 : AV) (h : List AObj) (K : AOut → List AObj → Prop) : funW (ctx F S seek_Step.loops) Try.f28 [t0, t1] h K = seek_Step.H (ctx F S seek_Step.loops) t0 t1 h K := by kernel_rfl
theorem seek_Holds.eq (F : List (FuncId × Contract)) (S : List (FuncId × Con)) (t0 t1 : AV) (h : List AObj) (K : AOut → List AObj → Prop) : funW (ctx F S seek_Holds.loops) Try.f30 [t0, t1] h K = seek_Holds.H (ctx F S seek_Holds.loops) t0 t1 h K := by kernel_rfl
theorem seek_Hits.eq (F : List (FuncId × Contract)) (S : List (FuncId × Con)) (t0 t1 : AV) (h : List AObj) (K : AOut → List AObj → Prop) : funW (ctx F S seek_Hits.loops) Try.f33 [t0, t1] h K = seek_Hits.H (ctx F S seek_Hits.loops) t0 t1 h K := by kernel_rfl
theorem seek_down.eq (F : List (FuncId × Contract)) (S : List (FuncId × Con)) (t0 : AV) (h : List AObj) (K : AOut → List AObj → Prop) : funW (ctx F S seek_down.loops) Try.f61 [t0] h K = seek_down.H (ctx F S seek_down.loops) t0 h K := by kernel_rfl
theorem seek_look_up.eq (F : List (FuncId × Contract)) (S : List (FuncId × Con)) (t0 : AV) (h : List AObj) (K : AOut → List AObj → Prop) : funW (ctx F S seek_look_up.loops) Try.f65 [t0] h K = seek_look_up.H (ctx F S seek_look_up.loops) t0 h K := by kernel_rfl
theorem seek_look_fall.eq (F : List (FuncId × Contract)) (S : List (FuncId × Con)) (t0 : AV) (h : List AObj) (K : AOut → List AObj → Prop) : funW (ctx F S seek_look_fall.loops) Try.f66 [t0] h K = seek_look_fall.H (ctx F S seek_look_fall.loops) t0 h K := by kernel_rfl
theorem seek_Hits_1.eq (F : List (FuncId × Contract)) (S : List (FuncId × Con)) (t0 t1 : AV) (h : List AObj) (K : AOut → List AObj → Prop) : funW (ctx F S seek_Hits_1.loops) Try.f68 [t0, t1] h K = seek_Hits_1.H (ctx F S seek_Hits_1.loops) t0 t1 h K := by kernel_rfl
theorem seek_Begin.at : Try.prog.funcs[25]? = some Try.f25 := by kernel_rfl
theorem seek_Begin.nm : (Try.f25.name == "runtime.NumGoroutine") = false := by kernel_rfl
theorem seek_Begin.bd : Try.f25.body.isNone = false := by kernel_rfl
theorem seek_Step.at : Try.prog.funcs[28]? = some Try.f28 := by kernel_rfl
theorem seek_Step.nm : (Try.f28.name == "runtime.NumGoroutine") = false := by kernel_rfl
theorem seek_Step.bd : Try.f28.body.isNone = false := by kernel_rfl
theorem seek_Holds.at : Try.prog.funcs[30]? = some Try.f30 := by kernel_rfl
theorem seek_Holds.nm : (Try.f30.name == "runtime.NumGoroutine") = false := by kernel_rfl
theorem seek_Holds.bd : Try.f30.body.isNone = false := by kernel_rfl
theorem seek_Hits.at : Try.prog.funcs[33]? = some Try.f33 := by kernel_rfl
theorem seek_Hits.nm : (Try.f33.name == "runtime.NumGoroutine") = false := by kernel_rfl
theorem seek_Hits.bd : Try.f33.body.isNone = false := by kernel_rfl
theorem seek_down.at : Try.prog.funcs[61]? = some Try.f61 := by kernel_rfl
theorem seek_down.nm : (Try.f61.name == "runtime.NumGoroutine") = false := by kernel_rfl
theorem seek_down.bd : Try.f61.body.isNone = false := by kernel_rfl
theorem seek_look_up.at : Try.prog.funcs[65]? = some Try.f65 := by kernel_rfl
theorem seek_look_up.nm : (Try.f65.name == "runtime.NumGoroutine") = false := by kernel_rfl
theorem seek_look_up.bd : Try.f65.body.isNone = false := by kernel_rfl
theorem seek_look_fall.at : Try.prog.funcs[66]? = some Try.f66 := by kernel_rfl
theorem seek_look_fall.nm : (Try.f66.name == "runtime.NumGoroutine") = false := by kernel_rfl
theorem seek_look_fall.bd : Try.f66.body.isNone = false := by kernel_rfl
theorem seek_Hits_1.at : Try.prog.funcs[68]? = some Try.f68 := by kernel_rfl
theorem seek_Hits_1.nm : (Try.f68.name == "runtime.NumGoroutine") = false := by kernel_rfl
theorem seek_Hits_1.bd : Try.f68.body.isNone = false := by kernel_rfl
end Lam
namespace Lam
set_option maxRecDepth 20000
open Go Go.Proofs
set_option linter.unusedVariables false
set_option linter.unnecessarySimpa false
set_option linter.unusedSimpArgs false
def cmpI (a b : Bytes) : Int := if ltB a b = true then -1 else if ltB b a = true then 1 else 0
theorem cmpI_neg {a b : Bytes} : (cmpI a b < 0) ↔ ltB a b = true := by
  unfold cmpI
  split
  · rename_i h; simp [h]
  · rename_i h
    split
    · simp [h]
    · simp [h]
def cmp_isNaN_string.C : Contract
  | [.str _] => some (false, pD True (.bool false))
  | _ => none
set_option maxRecDepth 20000 in
theorem cmp_isNaN_string.spec : FSpec Try.prog 94 cmp_isNaN_string.C := by
  refine FSpec.of (ctx_ok (F := []) (S := []) (by simp) (by simp) cmp_isNaN_string.loops) cmp_isNaN_string.at cmp_isNaN_string.nm cmp_isNaN_string.bd ?_
  intro vs b S v news e hS
  unfold cmp_isNaN_string.C at e
  split at e
  rotate_left
  · cases e
  cases e
  rw [cmp_isNaN_string.eq]
  unfold cmp_isNaN_string.H
  simp (maxSteps := 4000000) only [go_sem, Nat.reduceEqDiff, Nat.reduceLT, Nat.reduceAdd, Nat.reduceSub, Nat.reduceLeDiff, List.reduceReplicate, Int.reduceToNat]
  exact post_val rfl rfl
def cmp_Compare_string.C : Contract
  | [.str a, .str b] => some (false, pD True (.int .i64 (cmpI a b)))
  | _ => none
set_option maxRecDepth 20000 in
theorem cmp_Compare_string.spec : FSpec Try.prog 69 cmp_Compare_string.C := by
  refine FSpec.of (ctx_ok (F := [(94, cmp_isNaN_string.C)]) (S := []) (by simpa using cmp_isNaN_string.spec) (by simp) cmp_Compare_string.loops) cmp_Compare_string.at cmp_Compare_string.nm cmp_Compare_string.bd ?_
  intro vs b S v news e hS
  unfold cmp_Compare_string.C at e
  split at e
  rotate_left
  · cases e
  cases e
  rw [cmp_Compare_string.eq]
  unfold cmp_Compare_string.H
  simp (maxSteps := 4000000) only [go_sem, Nat.reduceEqDiff, Nat.reduceLT, Nat.reduceAdd, Nat.reduceSub, Nat.reduceLeDiff, List.reduceReplicate, Int.reduceToNat, cmp_isNaN_string.C]
  rename_i a b
  unfold cmpI
  refine ⟨fun h => ?_, fun h => ⟨fun h2 => ?_, fun h2 => ?_⟩⟩
  · rw [h]; exact post_val rfl rfl
  · rw [h, h2]; exact post_val rfl rfl
  · rw [h, h2]; exact post_val rfl rfl
def seek_Hits_1.C : Contract
  | [.agg [.int .i64 a, .str b, .str c, .int .i64 d], .agg [.int .i64 e, .str f, .str g, .int .i64 i]] => some (false, pD True (.int .i64 (cmpI b f)))
  | _ => none
set_option maxRecDepth 20000 in
theorem seek_Hits_1.spec : FSpec Try.prog 68 seek_Hits_1.C := by
  refine FSpec.of (ctx_ok (F := [(69, cmp_Compare_string.C)]) (S := []) (by simpa using cmp_Compare_string.spec) (by simp) seek_Hits_1.loops) seek_Hits_1.at seek_Hits_1.nm seek_Hits_1.bd ?_
  intro vs b S v news e hS
  unfold seek_Hits_1.C at e
  split at e
  rotate_left
  · cases e
  cases e
  rw [seek_Hits_1.eq]
  unfold seek_Hits_1.H
  simp (maxSteps := 4000000) only [go_sem, Nat.reduceEqDiff, Nat.reduceLT, Nat.reduceAdd, Nat.reduceSub, Nat.reduceLeDiff, List.reduceReplicate, Int.reduceToNat, cmp_Compare_string.C]
  exact post_val rfl rfl
structure SkT where
  block : Int
  turn : Int
  at_ : Int
  refs : List Int
  over : Bool
def SkT.V (s : SkT) : AV := .agg [.int .i64 s.block, .int .i64 s.turn, .int .i64 s.at_, .sl false (.ints .i64 s.refs), .bool s.over]
theorem SkT.norm (s : SkT) (n : Nat) (h : List AObj) : AV.norm n h s.V = s.V := by simp only [SkT.V, go_sem, Nat.reduceEqDiff, Nat.reduceLT, Nat.reduceAdd, Nat.reduceSub, Nat.reduceLeDiff, List.reduceReplicate, Int.reduceToNat]
/-- the heap of one that sorts -/
def hpS (A : SkT) (m : Bytes → Bool) (v : Nat) (l : List RecT) (T : List AObj) : List AObj := .box A.V :: .map (.sb m) :: .row .own v (.recs l) :: T
/-- what is kept as it is -/
def OkT (T : List AObj) : Prop := ∀ k h, T.map (normO k h) = T
theorem OkT.nil : OkT [] := fun _ _ => rfl
theorem OkT.snoc {T : List AObj} (h : OkT T) (k : IntKind) (n : Int) : OkT (T ++ [.box (.int k n)]) := fun i g => by
  rw [List.map_append, h i g]; rfl
theorem get_last (T : List AObj) (y : AObj) : (T ++ [y])[T.length]? = some y := by simp
theorem set_last : ∀ (T : List AObj) (y z : AObj), (T ++ [y]).set T.length z = T ++ [z]
  | [], _, _ => rfl
  | a :: T, y, z => congrArg (a :: ·) (set_last T y z)
abbrev hitF : AV := .fn (.func 68) [] []
theorem d0_def : (⟨0, [], [], 0⟩ : RecT) = d0 := rfl
theorem rec_eta (l : List RecT) (i : Nat) : (⟨(l.getD i d0).kind, kyL l i, (l.getD i d0).val, (l.getD i d0).child⟩ : RecT) = l.getD i d0 := rfl
theorem kyL_def (l : List RecT) (i : Nat) : (l.getD i d0).key = kyL l i := rfl
theorem swapL_def (l : List RecT) (i j : Nat) : (l.set i (l.getD j d0)).set j (l.getD i d0) = swapL l i j := rfl
def slices_order2CmpFunc_api_Rec.K : Con := fun args h K => match args with
  | [a0, a1, a2, a3, a4] => slices_order2CmpFunc_api_Rec.H (ctx [(68, seek_Hits_1.C)] [] slices_order2CmpFunc_api_Rec.loops) a0 a1 a2 a3 a4 h K
  | _ => False
theorem slices_order2CmpFunc_api_Rec.spec : SSpec Try.prog 150 slices_order2CmpFunc_api_Rec.K := by
  refine SSpec.of (ctx_ok (F := [(68, seek_Hits_1.C)]) (S := []) (by simpa using seek_Hits_1.spec) (by simp) slices_order2CmpFunc_api_Rec.loops) slices_order2CmpFunc_api_Rec.at slices_order2CmpFunc_api_Rec.nm slices_order2CmpFunc_api_Rec.bd ?_
  intro args h K hC
  unfold slices_order2CmpFunc_api_Rec.K at hC
  split at hC
  · rw [slices_order2CmpFunc_api_Rec.eq]; exact hC
  · exact hC.elim
theorem order2_K (A : SkT) (m : Bytes → Bool) (v : Nat) (l : List RecT) (T : List AObj) (hT : OkT T) (s : Nat) (n a b : Nat) (hs : s < 100000) (hn : n = l.length) (ha : a < n) (hb : b < n) (hr : roomy n) (K : AOut → List AObj → Prop)
    (hK : ∀ (a' b' : Nat) (s' : Nat), a' < n → b' < n → (s' = s ∨ s' = s + 1) → (a' = a ∨ a' = b) → (b' = a ∨ b' = b) → K (.ret (.tup [.int .i64 a', .int .i64 b'])) (hpS A m v l (T ++ [.box (.int .i64 (s' : Int))]))) :
    slices_order2CmpFunc_api_Rec.K [.sref false 2 v 0 n, .int .i64 a, .int .i64 b, .ptr (T.length + 1 + 1 + 1) [], hitF] (hpS A m v l (T ++ [.box (.int .i64 (s : Int))])) K := by
  unfold slices_order2CmpFunc_api_Rec.K slices_order2CmpFunc_api_Rec.H hpS
  simp only [get_last, set_last, List.map_cons, List.map_nil, seek_Hits_1.C, d0_def, kyL_def, cmpI_neg, joinW_eq, guard_tt, guard_tf, guard_ft, guard_ff, Int.reduceEq, Int.reduceLT, Int.reduceLE, decide_false, decide_true, Bool.not_false, Bool.not_true, Bool.not_not, not_true_eq_false, not_false_eq_true, true_implies, false_implies, implies_true, and_true, true_and, reduceCtorEq, Bool.and_self, Bool.or_self, Bool.and_true, Bool.true_and, Bool.false_eq_true, if_true, if_false, go_sem, Nat.reduceEqDiff, Nat.reduceLT, Nat.reduceAdd, Nat.reduceSub, Nat.reduceLeDiff, List.reduceReplicate, Int.reduceToNat]
  refine ⟨⟨by omega, by omega⟩, by omega, ⟨by omega, by omega⟩, by omega, fun h => ?_, fun h => ?_⟩
  · rw [wnext (by omega)]
    exact hK b a (s + 1) hb ha (.inr rfl) (.inr rfl) (.inl rfl)
  · exact hK a b s ha hb (.inl rfl) (.inl rfl) (.inr rfl)
def slices_medianCmpFunc_api_Rec.K : Con := fun args h K => match args with
  | [a0, a1, a2, a3, a4, a5] => slices_medianCmpFunc_api_Rec.H (ctx [(68, seek_Hits_1.C)] [(150, slices_order2CmpFunc_api_Rec.K)] slices_medianCmpFunc_api_Rec.loops) a0 a1 a2 a3 a4 a5 h K
  | _ => False
theorem slices_medianCmpFunc_api_Rec.spec : SSpec Try.prog 141 slices_medianCmpFunc_api_Rec.K := by
  refine SSpec.of (ctx_ok (F := [(68, seek_Hits_1.C)]) (S := [(150, slices_order2CmpFunc_api_Rec.K)]) (by simpa using seek_Hits_1.spec) (by simpa using slices_order2CmpFunc_api_Rec.spec) slices_medianCmpFunc_api_Rec.loops) slices_medianCmpFunc_api_Rec.at slices_medianCmpFunc_api_Rec.nm slices_medianCmpFunc_api_Rec.bd ?_
  intro args h K hC
  unfold slices_medianCmpFunc_api_Rec.K at hC
  split at hC
  · rw [slices_medianCmpFunc_api_Rec.eq]; exact hC
  · exact hC.elim
theorem median_K (A : SkT) (m : Bytes → Bool) (v : Nat) (l : List RecT) (T : List AObj) (hT : OkT T) (s : Nat) (n a b d : Nat) (hs : s < 90000) (hn : n = l.length) (ha : a < n) (hb : b < n) (hd : d < n) (hr : roomy n) (K : AOut → List AObj → Prop)
    (hK : ∀ (a' : Nat) (s' : Nat), (a' = a ∨ a' = b ∨ a' = d) → s' ≤ s + 3 → K (.ret (.int .i64 a')) (hpS A m v l (T ++ [.box (.int .i64 (s' : Int))]))) :
    slices_medianCmpFunc_api_Rec.K [.sref false 2 v 0 n, .int .i64 a, .int .i64 b, .int .i64 d, .ptr (T.length + 1 + 1 + 1) [], hitF] (hpS A m v l (T ++ [.box (.int .i64 (s : Int))])) K := by
  unfold slices_medianCmpFunc_api_Rec.K slices_medianCmpFunc_api_Rec.H
  simp only [hpS, List.map_cons, List.map_nil, joinW_eq, guard_tt, guard_tf, guard_ft, guard_ff, Int.reduceEq, Int.reduceLT, Int.reduceLE, decide_false, decide_true, Bool.not_false, Bool.not_true, Bool.not_not, not_true_eq_false, not_false_eq_true, true_implies, false_implies, implies_true, and_true, true_and, reduceCtorEq, Bool.and_self, Bool.or_self, Bool.and_true, Bool.true_and, Bool.false_eq_true, if_true, if_false, go_sem, Nat.reduceEqDiff, Nat.reduceLT, Nat.reduceAdd, Nat.reduceSub, Nat.reduceLeDiff, List.reduceReplicate, Int.reduceToNat]
  refine order2_K A m v l T hT s n a b (by omega) hn ha hb hr _ fun a1 b1 s1 h1 h2 h3 h4 h5 => ?_
  simp only [hpS, List.map_cons, List.map_nil, joinW_eq, guard_tt, guard_tf, guard_ft, guard_ff, Int.reduceEq, Int.reduceLT, Int.reduceLE, decide_false, decide_true, Bool.not_false, Bool.not_true, Bool.not_not, not_true_eq_false, not_false_eq_true, true_implies, false_implies, implies_true, and_true, true_and, reduceCtorEq, Bool.and_self, Bool.or_self, Bool.and_true, Bool.true_and, Bool.false_eq_true, if_true, if_false, go_sem, Nat.reduceEqDiff, Nat.reduceLT, Nat.reduceAdd, Nat.reduceSub, Nat.reduceLeDiff, List.reduceReplicate, Int.reduceToNat]
  refine order2_K A m v l T hT s1 n b1 d (by omega) hn h2 hd hr _ fun b2 d2 s2 g1 g2 g3 g4 g5 => ?_
  simp only [hpS, List.map_cons, List.map_nil, joinW_eq, guard_tt, guard_tf, guard_ft, guard_ff, Int.reduceEq, Int.reduceLT, Int.reduceLE, decide_false, decide_true, Bool.not_false, Bool.not_true, Bool.not_not, not_true_eq_false, not_false_eq_true, true_implies, false_implies, implies_true, and_true, true_and, reduceCtorEq, Bool.and_self, Bool.or_self, Bool.and_true, Bool.true_and, Bool.false_eq_true, if_true, if_false, go_sem, Nat.reduceEqDiff, Nat.reduceLT, Nat.reduceAdd, Nat.reduceSub, Nat.reduceLeDiff, List.reduceReplicate, Int.reduceToNat]
  refine order2_K A m v l T hT s2 n a1 b2 (by omega) hn h1 g1 hr _ fun a3 b3 s3 k1 k2 k3 k4 k5 => ?_
  simp only [hpS, List.map_cons, List.map_nil, joinW_eq, guard_tt, guard_tf, guard_ft, guard_ff, Int.reduceEq, Int.reduceLT, Int.reduceLE, decide_false, decide_true, Bool.not_false, Bool.not_true, Bool.not_not, not_true_eq_false, not_false_eq_true, true_implies, false_implies, implies_true, and_true, true_and, reduceCtorEq, Bool.and_self, Bool.or_self, Bool.and_true, Bool.true_and, Bool.false_eq_true, if_true, if_false, go_sem, Nat.reduceEqDiff, Nat.reduceLT, Nat.reduceAdd, Nat.reduceSub, Nat.reduceLeDiff, List.reduceReplicate, Int.reduceToNat]
  exact hK b3 s3 (by omega) (by omega)
def slices_medianAdjacentCmpFunc_api_Rec.K : Con := fun args h K => match args with
  | [a0, a1, a2, a3] => slices_medianAdjacentCmpFunc_api_Rec.H (ctx [] [(141, slices_medianCmpFunc_api_Rec.K)] slices_medianAdjacentCmpFunc_api_Rec.loops) a0 a1 a2 a3 h K
  | _ => False
theorem slices_medianAdjacentCmpFunc_api_Rec.spec : SSpec Try.prog 140 slices_medianAdjacentCmpFunc_api_Rec.K := by
  refine SSpec.of (ctx_ok (F := []) (S := [(141, slices_medianCmpFunc_api_Rec.K)]) (by simp) (by simpa using slices_medianCmpFunc_api_Rec.spec) slices_medianAdjacentCmpFunc_api_Rec.loops) slices_medianAdjacentCmpFunc_api_Rec.at slices_medianAdjacentCmpFunc_api_Rec.nm slices_medianAdjacentCmpFunc_api_Rec.bd ?_
  intro args h K hC
  unfold slices_medianAdjacentCmpFunc_api_Rec.K at hC
  split at hC
  · rw [slices_medianAdjacentCmpFunc_api_Rec.eq]; exact hC
  · exact hC.elim
theorem adjacent_K (A : SkT) (m : Bytes → Bool) (v : Nat) (l : List RecT) (T : List AObj) (hT : OkT T) (s : Nat) (n a : Nat) (hs : s < 80000) (hn : n = l.length) (ha : 0 < a) (ha2 : a + 1 < n) (hr : roomy n) (K : AOut → List AObj → Prop)
    (hK : ∀ (a' : Nat) (s' : Nat), a ≤ a' + 1 → a' ≤ a + 1 → s' ≤ s + 3 → K (.ret (.int .i64 a')) (hpS A m v l (T ++ [.box (.int .i64 (s' : Int))]))) :
    slices_medianAdjacentCmpFunc_api_Rec.K [.sref false 2 v 0 n, .int .i64 a, .ptr (T.length + 1 + 1 + 1) [], hitF] (hpS A m v l (T ++ [.box (.int .i64 (s : Int))])) K := by
  have hr' := hr
  unfold roomy at hr'
  have e1 : IntKind.i64.wrap ((a : Int) - 1) = ((a - 1 : Nat) : Int) := by rw [w64 (by omega) (by omega)]; omega
  unfold slices_medianAdjacentCmpFunc_api_Rec.K slices_medianAdjacentCmpFunc_api_Rec.H
  simp only [hpS, List.map_cons, List.map_nil, e1, wnext (show a < 4611686018427387904 by omega), joinW_eq, guard_tt, guard_tf, guard_ft, guard_ff, Int.reduceEq, Int.reduceLT, Int.reduceLE, decide_false, decide_true, Bool.not_false, Bool.not_true, Bool.not_not, not_true_eq_false, not_false_eq_true, true_implies, false_implies, implies_true, and_true, true_and, reduceCtorEq, Bool.and_self, Bool.or_self, Bool.and_true, Bool.true_and, Bool.false_eq_true, if_true, if_false, go_sem, Nat.reduceEqDiff, Nat.reduceLT, Nat.reduceAdd, Nat.reduceSub, Nat.reduceLeDiff, List.reduceReplicate, Int.reduceToNat]
  refine median_K A m v l T hT s n _ _ _ (by omega) hn (by omega) (by omega) (by omega) hr _ fun a1 s1 h1 h2 => ?_
  simp only [hpS, List.map_cons, List.map_nil, joinW_eq, guard_tt, guard_tf, guard_ft, guard_ff, Int.reduceEq, Int.reduceLT, Int.reduceLE, decide_false, decide_true, Bool.not_false, Bool.not_true, Bool.not_not, not_true_eq_false, not_false_eq_true, true_implies, false_implies, implies_true, and_true, true_and, reduceCtorEq, Bool.and_self, Bool.or_self, Bool.and_true, Bool.true_and, Bool.false_eq_true, if_true, if_false, go_sem, Nat.reduceEqDiff, Nat.reduceLT, Nat.reduceAdd, Nat.reduceSub, Nat.reduceLeDiff, List.reduceReplicate, Int.reduceToNat]
  exact hK a1 s1 (by omega) (by omega) h2
def slices_choosePivotCmpFunc_api_Rec.K : Con := fun args h K => match args with
  | [a0, a1, a2, a3] => slices_choosePivotCmpFunc_api_Rec.H (ctx [] [(140, slices_medianAdjacentCmpFunc_api_Rec.K), (141, slices_medianCmpFunc_api_Rec.K)] slices_choosePivotCmpFunc_api_Rec.loops) a0 a1 a2 a3 h K
  | _ => False
theorem slices_choosePivotCmpFunc_api_Rec.spec : SSpec Try.prog 117 slices_choosePivotCmpFunc_api_Rec.K := by
  refine SSpec.of (ctx_ok (F := []) (S := [(140, slices_medianAdjacentCmpFunc_api_Rec.K), (141, slices_medianCmpFunc_api_Rec.K)]) (by simp) (by simpa using ⟨slices_medianAdjacentCmpFunc_api_Rec.spec, slices_medianCmpFunc_api_Rec.spec⟩) slices_choosePivotCmpFunc_api_Rec.loops) slices_choosePivotCmpFunc_api_Rec.at slices_choosePivotCmpFunc_api_Rec.nm slices_choosePivotCmpFunc_api_Rec.bd ?_
  intro args h K hC
  unfold slices_choosePivotCmpFunc_api_Rec.K at hC
  split at hC
  · rw [slices_choosePivotCmpFunc_api_Rec.eq]; exact hC
  · exact hC.elim
theorem choose_K (A : SkT) (m : Bytes → Bool) (v : Nat) (l : List RecT) (T : List AObj) (hT : OkT T) (n a b : Nat) (hn : n = l.length) (hab : a < b) (hbn : b ≤ n) (hr : roomy n) (K : AOut → List AObj → Prop)
    (hK : ∀ (p : Nat) (e : Nat) (s : Int), a ≤ p → p < b → e ≤ 2 → K (.ret (.tup [.int .i64 p, .int .i64 e])) (hpS A m v l (T ++ [.box (.int .i64 s)]))) :
    slices_choosePivotCmpFunc_api_Rec.K [.sref false 2 v 0 n, .int .i64 a, .int .i64 b, hitF] (hpS A m v l T) K := by
  unfold slices_choosePivotCmpFunc_api_Rec.K slices_choosePivotCmpFunc_api_Rec.H
  have hr' := hr
  unfold roomy at hr'
  have e0 : IntKind.i64.wrap ((b : Int) - a) = ((b - a : Nat) : Int) := by rw [w64 (by omega) (by omega)]; omega
  have e1 : ((b - a : Nat) : Int).tdiv 4 = (((b - a) / 4 : Nat) : Int) := by rw [Int.tdiv_eq_ediv_of_nonneg (by omega)]; omega
  obtain ⟨q, hq⟩ : ∃ q, (b - a) / 4 = q := ⟨_, rfl⟩
  have e2 : IntKind.i64.wrap (q : Int) = q := w64 (by omega) (by omega)
  have e3 : ∀ k : Nat, k ≤ 3 → IntKind.i64.wrap ((a : Int) + IntKind.i64.wrap ((q : Int) * k)) = ((a + q * k : Nat) : Int) := fun k hk => by
    have : q * k ≤ q * 3 := Nat.mul_le_mul_left q hk
    rw [w64 (n := (q : Int) * k) (by rw [← Int.natCast_mul]; omega) (by rw [← Int.natCast_mul]; omega), ← Int.natCast_mul, w64 (by omega) (by omega)]; omega
  have e31 := e3 1 (by decide)
  have e32 := e3 2 (by decide)
  have e33 := e3 3 (by decide)
  simp only [Int.natCast_one, Int.cast_ofNat_Int] at e31 e32 e33
  simp only [hpS, List.map_cons, List.map_nil, List.cons_append, e0, e1, hq, e2, e31, e32, e33, joinW_eq, guard_tt, guard_tf, guard_ft, guard_ff, Int.reduceEq, Int.reduceLT, Int.reduceLE, decide_false, decide_true, Bool.not_false, Bool.not_true, Bool.not_not, not_true_eq_false, not_false_eq_true, true_implies, false_implies, implies_true, and_true, true_and, reduceCtorEq, Bool.and_self, Bool.or_self, Bool.and_true, Bool.true_and, Bool.false_eq_true, if_true, if_false, go_sem, Nat.reduceEqDiff, Nat.reduceLT, Nat.reduceAdd, Nat.reduceSub, Nat.reduceLeDiff, List.reduceReplicate, Int.reduceToNat]
  have hfin : ∀ (p : Nat) (s : Int), a ≤ p → p < b → ((s = 0 → K (.ret (.tup [.int .i64 p, .int .i64 1])) (hpS A m v l (T ++ [.box (.int .i64 s)]))) ∧ (¬ s = 0 → (s = 12 → K (.ret (.tup [.int .i64 p, .int .i64 2])) (hpS A m v l (T ++ [.box (.int .i64 s)]))) ∧ (¬ s = 12 → K (.ret (.tup [.int .i64 p, .int .i64 0])) (hpS A m v l (T ++ [.box (.int .i64 s)]))))) := fun p s h1 h2 => ⟨fun _ => hK p 1 s h1 h2 (by decide), fun _ => ⟨fun _ => hK p 2 s h1 h2 (by decide), fun _ => hK p 0 s h1 h2 (by decide)⟩⟩
  refine ⟨fun h8 => ⟨fun h50 => ?_, fun _ => ?_⟩, fun h8 => ?_⟩
  · refine adjacent_K A m v l T hT 0 n _ (by decide) hn (by omega) (by omega) hr _ fun p1 s1 h1 h2 h3 => ?_
    simp only [hpS, joinW_eq, guard_tt, guard_tf, guard_ft, guard_ff, Int.reduceEq, Int.reduceLT, Int.reduceLE, decide_false, decide_true, Bool.not_false, Bool.not_true, Bool.not_not, not_true_eq_false, not_false_eq_true, true_implies, false_implies, implies_true, and_true, true_and, reduceCtorEq, Bool.and_self, Bool.or_self, Bool.and_true, Bool.true_and, Bool.false_eq_true, if_true, if_false, go_sem, Nat.reduceEqDiff, Nat.reduceLT, Nat.reduceAdd, Nat.reduceSub, Nat.reduceLeDiff, List.reduceReplicate, Int.reduceToNat]
    refine adjacent_K A m v l T hT s1 n _ (by omega) hn (by omega) (by omega) hr _ fun p2 s2 g1 g2 g3 => ?_
    simp only [hpS, joinW_eq, guard_tt, guard_tf, guard_ft, guard_ff, Int.reduceEq, Int.reduceLT, Int.reduceLE, decide_false, decide_true, Bool.not_false, Bool.not_true, Bool.not_not, not_true_eq_false, not_false_eq_true, true_implies, false_implies, implies_true, and_true, true_and, reduceCtorEq, Bool.and_self, Bool.or_self, Bool.and_true, Bool.true_and, Bool.false_eq_true, if_true, if_false, go_sem, Nat.reduceEqDiff, Nat.reduceLT, Nat.reduceAdd, Nat.reduceSub, Nat.reduceLeDiff, List.reduceReplicate, Int.reduceToNat]
    refine adjacent_K A m v l T hT s2 n _ (by omega) hn (by omega) (by omega) hr _ fun p3 s3 k1 k2 k3 => ?_
    simp only [hpS, joinW_eq, guard_tt, guard_tf, guard_ft, guard_ff, Int.reduceEq, Int.reduceLT, Int.reduceLE, decide_false, decide_true, Bool.not_false, Bool.not_true, Bool.not_not, not_true_eq_false, not_false_eq_true, true_implies, false_implies, implies_true, and_true, true_and, reduceCtorEq, Bool.and_self, Bool.or_self, Bool.and_true, Bool.true_and, Bool.false_eq_true, if_true, if_false, go_sem, Nat.reduceEqDiff, Nat.reduceLT, Nat.reduceAdd, Nat.reduceSub, Nat.reduceLeDiff, List.reduceReplicate, Int.reduceToNat]
    refine median_K A m v l T hT s3 n _ _ _ (by omega) hn (by omega) (by omega) (by omega) hr _ fun p s hp hs => ?_
    simp only [hpS, get_last, joinW_eq, guard_tt, guard_tf, guard_ft, guard_ff, Int.reduceEq, Int.reduceLT, Int.reduceLE, decide_false, decide_true, Bool.not_false, Bool.not_true, Bool.not_not, not_true_eq_false, not_false_eq_true, true_implies, false_implies, implies_true, and_true, true_and, reduceCtorEq, Bool.and_self, Bool.or_self, Bool.and_true, Bool.true_and, Bool.false_eq_true, if_true, if_false, go_sem, Nat.reduceEqDiff, Nat.reduceLT, Nat.reduceAdd, Nat.reduceSub, Nat.reduceLeDiff, List.reduceReplicate, Int.reduceToNat]
    exact hfin p s (by omega) (by omega)
  · refine median_K A m v l T hT 0 n _ _ _ (by decide) hn (by omega) (by omega) (by omega) hr _ fun p s hp hs => ?_
    simp only [hpS, get_last, joinW_eq, guard_tt, guard_tf, guard_ft, guard_ff, Int.reduceEq, Int.reduceLT, Int.reduceLE, decide_false, decide_true, Bool.not_false, Bool.not_true, Bool.not_not, not_true_eq_false, not_false_eq_true, true_implies, false_implies, implies_true, and_true, true_and, reduceCtorEq, Bool.and_self, Bool.or_self, Bool.and_true, Bool.true_and, Bool.false_eq_true, if_true, if_false, go_sem, Nat.reduceEqDiff, Nat.reduceLT, Nat.reduceAdd, Nat.reduceSub, Nat.reduceLeDiff, List.reduceReplicate, Int.reduceToNat]
    exact hfin p s (by omega) (by omega)
  · simp only [hpS, get_last, joinW_eq, guard_tt, guard_tf, guard_ft, guard_ff, Int.reduceEq, Int.reduceLT, Int.reduceLE, decide_false, decide_true, Bool.not_false, Bool.not_true, Bool.not_not, not_true_eq_false, not_false_eq_true, true_implies, false_implies, implies_true, and_true, true_and, reduceCtorEq, Bool.and_self, Bool.or_self, Bool.and_true, Bool.true_and, Bool.false_eq_true, if_true, if_false, go_sem, Nat.reduceEqDiff, Nat.reduceLT, Nat.reduceAdd, Nat.reduceSub, Nat.reduceLeDiff, List.reduceReplicate, Int.reduceToNat]
    exact hK (a + q * 2) 1 0 (by omega) (by omega) (by decide)
def slices_insertionSortCmpFunc_api_Rec.K : Con := fun args h K => match args with
  | [a0, a1, a2, a3] => slices_insertionSortCmpFunc_api_Rec.H (ctx [(68, seek_Hits_1.C)] [] slices_insertionSortCmpFunc_api_Rec.loops) a0 a1 a2 a3 h K
  | _ => False
theorem slices_insertionSortCmpFunc_api_Rec.spec : SSpec Try.prog 114 slices_insertionSortCmpFunc_api_Rec.K := by
  refine SSpec.of (ctx_ok (F := [(68, seek_Hits_1.C)]) (S := []) (by simpa using seek_Hits_1.spec) (by simp) slices_insertionSortCmpFunc_api_Rec.loops) slices_insertionSortCmpFunc_api_Rec.at slices_insertionSortCmpFunc_api_Rec.nm slices_insertionSortCmpFunc_api_Rec.bd ?_
  intro args h K hC
  unfold slices_insertionSortCmpFunc_api_Rec.K at hC
  split at hC
  · rw [slices_insertionSortCmpFunc_api_Rec.eq]; exact hC
  · exact hC.elim
theorem ins_K (A : SkT) (m : Bytes → Bool) (v : Nat) (l : List RecT) (T : List AObj) (hTn : OkT T) (n a b : Nat) (hn : n = l.length) (hab : a ≤ b) (hbn : b ≤ n) (hr : roomy n) (K : AOut → List AObj → Prop)
    (hK : ∀ l', SegP a b l l' → SegS a b l' → K (.ret (.tup [])) (hpS A m v l' T)) :
    slices_insertionSortCmpFunc_api_Rec.K [.sref false 2 v 0 n, .int .i64 a, .int .i64 b, hitF] (hpS A m v l T) K := by
  have hr' := hr
  unfold roomy at hr'
  have h2 : 2 < T.length + 1 + 1 + 1 := by omega
  unfold slices_insertionSortCmpFunc_api_Rec.K slices_insertionSortCmpFunc_api_Rec.H
  simp only [hpS, hTn _ _, SkT.norm, h2, joinW_eq, guard_tt, guard_tf, guard_ft, guard_ff, Int.reduceEq, Int.reduceLT, Int.reduceLE, decide_false, decide_true, Bool.not_false, Bool.not_true, Bool.not_not, not_true_eq_false, not_false_eq_true, true_implies, false_implies, implies_true, and_true, true_and, reduceCtorEq, Bool.and_self, Bool.or_self, Bool.and_true, Bool.true_and, Bool.false_eq_true, if_true, if_false, go_sem, Nat.reduceEqDiff, Nat.reduceLT, Nat.reduceAdd, Nat.reduceSub, Nat.reduceLeDiff, List.reduceReplicate, Int.reduceToNat] at hK ⊢
  rw [wnext (by omega)]
  unfold slices_insertionSortCmpFunc_api_Rec.L1
  refine loop1 (σ := List RecT × Nat) (fun s => .int .i64 s.2) (fun s => .box A.V :: .map (.sb m) :: .row .own v (.recs s.1) :: T) (fun s => n + 1 - s.2) (fun s => a + 1 ≤ s.2 ∧ (s.2 ≤ b ∨ s.2 = a + 1) ∧ SegP a b l s.1 ∧ SegS a s.2 s.1) (l, a + 1) rfl rfl ⟨by simp, by simp, SegP.refl, SegS.one (by simp)⟩ ?_
  rintro I back ⟨l1, i⟩ ⟨hi1, hi2, hp, hs⟩
  simp only at hi1 hi2 hp hs ⊢
  have hl1 := hp.len
  simp only [hTn _ _, SkT.norm, h2, joinW_eq, joinW_eq, guard_tt, guard_tf, guard_ft, guard_ff, Int.reduceEq, Int.reduceLT, Int.reduceLE, decide_false, decide_true, Bool.not_false, Bool.not_true, Bool.not_not, not_true_eq_false, not_false_eq_true, true_implies, false_implies, implies_true, and_true, true_and, reduceCtorEq, Bool.and_self, Bool.or_self, Bool.and_true, Bool.true_and, Bool.false_eq_true, if_true, if_false, go_sem, Nat.reduceEqDiff, Nat.reduceLT, Nat.reduceAdd, Nat.reduceSub, Nat.reduceLeDiff, List.reduceReplicate, Int.reduceToNat]
  refine ⟨fun hlt => ?_, fun hge => hK l1 hp fun p q h1 h2 h3 => hs p q h1 h2 (by omega)⟩
  unfold slices_insertionSortCmpFunc_api_Rec.L2
  refine loop1 (σ := List RecT × Nat) (fun s => .int .i64 s.2) (fun s => .box A.V :: .map (.sb m) :: .row .own v (.recs s.1) :: T) (fun s => s.2) (fun s => a ≤ s.2 ∧ s.2 ≤ i ∧ SegP a b l s.1 ∧ InsS a s.2 (i + 1) s.1) (l1, i) rfl rfl ⟨by simp only; omega, by simp, hp, InsS.begin hs⟩ ?_
  rintro I2 back2 ⟨l2, j⟩ ⟨hj1, hj2, hp2, hs2⟩
  simp only at hj1 hj2 hp2 hs2 ⊢
  have hl2 := hp2.len
  have hnx : SegS a (i + 1) l2 → ∃ m1, m1 < n + 1 - i ∧ I m1 [.int .i64 (IntKind.i64.wrap ((i : Int) + 1))] (.box A.V :: .map (.sb m) :: .row .own v (.recs l2) :: T) := fun h => back (l2, i + 1) (by simp only; omega) (by simp only; rw [wnext (by omega)]) rfl ⟨by simp only; omega, .inl (by simp only; omega), hp2, h⟩
  by_cases hja : a < j
  · have e1 : IntKind.i64.wrap ((j : Int) - 1) = ((j - 1 : Nat) : Int) := by rw [w64 (by omega) (by omega)]; omega
    have d1 : decide ((a : Int) < (j : Int)) = true := decide_eq_true (by omega)
    simp only [hTn _ _, SkT.norm, h2, joinW_eq, d1, e1, Int.toNat_natCast, seek_Hits_1.C, d0_def, kyL_def, cmpI_neg, rec_eta, swapL_def, List.length_set, joinW_eq, guard_tt, guard_tf, guard_ft, guard_ff, Int.reduceEq, Int.reduceLT, Int.reduceLE, decide_false, decide_true, Bool.not_false, Bool.not_true, Bool.not_not, not_true_eq_false, not_false_eq_true, true_implies, false_implies, implies_true, and_true, true_and, reduceCtorEq, Bool.and_self, Bool.or_self, Bool.and_true, Bool.true_and, Bool.false_eq_true, if_true, if_false, go_sem, Nat.reduceEqDiff, Nat.reduceLT, Nat.reduceAdd, Nat.reduceSub, Nat.reduceLeDiff, List.reduceReplicate, Int.reduceToNat]
    refine ⟨⟨by omega, by omega⟩, by omega, ⟨by omega, by omega⟩, by omega, fun h => ⟨⟨by omega, by omega⟩, by omega, ⟨by omega, by omega⟩, by omega, ⟨by omega, by omega⟩, by omega, ⟨by omega, by omega⟩, by omega, back2 (swapL l2 j (j - 1), j - 1) (by simp only; omega) rfl rfl ⟨by simp only; omega, by simp only; omega, hp2.trans (SegP.swap (by omega) (by omega) (by omega) (by omega) (by omega)), hs2.step hja (by omega) (by omega) h⟩⟩, fun h => hnx (hs2.done hj1 (by omega) (.inr (by unfold leB; simpa using h)))⟩
  · obtain rfl : j = a := by omega
    have d1 : decide ((j : Int) < (j : Int)) = false := decide_eq_false (by omega)
    simp only [hTn _ _, SkT.norm, h2, joinW_eq, d1, joinW_eq, guard_tt, guard_tf, guard_ft, guard_ff, Int.reduceEq, Int.reduceLT, Int.reduceLE, decide_false, decide_true, Bool.not_false, Bool.not_true, Bool.not_not, not_true_eq_false, not_false_eq_true, true_implies, false_implies, implies_true, and_true, true_and, reduceCtorEq, Bool.and_self, Bool.or_self, Bool.and_true, Bool.true_and, Bool.false_eq_true, if_true, if_false, go_sem, Nat.reduceEqDiff, Nat.reduceLT, Nat.reduceAdd, Nat.reduceSub, Nat.reduceLeDiff, List.reduceReplicate, Int.reduceToNat]
    exact hnx (hs2.done (Nat.le_refl _) (by omega) (.inl rfl))
def slices_partialInsertionSortCmpFunc_api_Rec.K : Con := fun args h K => match args with
  | [a0, a1, a2, a3] => slices_partialInsertionSortCmpFunc_api_Rec.H (ctx [(68, seek_Hits_1.C)] [] slices_partialInsertionSortCmpFunc_api_Rec.loops) a0 a1 a2 a3 h K
  | _ => False
theorem slices_partialInsertionSortCmpFunc_api_Rec.spec : SSpec Try.prog 119 slices_partialInsertionSortCmpFunc_api_Rec.K := by
  refine SSpec.of (ctx_ok (F := [(68, seek_Hits_1.C)]) (S := []) (by simpa using seek_Hits_1.spec) (by simp) slices_partialInsertionSortCmpFunc_api_Rec.loops) slices_partialInsertionSortCmpFunc_api_Rec.at slices_partialInsertionSortCmpFunc_api_Rec.nm slices_partialInsertionSortCmpFunc_api_Rec.bd ?_
  intro args h K hC
  unfold slices_partialInsertionSortCmpFunc_api_Rec.K at hC
  split at hC
  · rw [slices_partialInsertionSortCmpFunc_api_Rec.eq]; exact hC
  · exact hC.elim
/-- none of a part stands ahead of the one ahead of it -/
def PreS (a b : Nat) (l : List RecT) : Prop := a = 0 ∨ ∀ k, a ≤ k → k < b → leB (kyL l (a - 1)) (kyL l k)
theorem PreS.keep {a b : Nat} {l l' : List RecT} (h : PreS a b l) (s : SegP a b l l') : PreS a b l' := by
  rcases Nat.eq_zero_or_pos a with h0 | h0
  · exact .inl h0
  · rcases h with h | h
    · exact .inl h
    · refine .inr fun k h1 h2 => ?_
      rw [s.same (k := a - 1) (by omega)]
      exact s.le (x := kyL l (a - 1)) h k h1 h2
theorem part_left (c : Ctx) (hd : c.drawn = false) (hf : c.envF 68 = seek_Hits_1.C) (A : SkT) (m : Bytes → Bool) (v : Nat) (l : List RecT) (T : List AObj) (n a b i jc : Nat) (hTn : OkT T) (hn : n = l.length) (ha : a + 1 < i) (hi : i < n) (hp : PreS a i l) (hr : roomy n) (h0 : InsS a (i - 1) i l)
    (J : AV → AV → AV → AV → AV → AV → List AObj → Prop) (K : AOut → List AObj → Prop)
    (hJ : ∀ l', SegP a i l l' → SegS a i l' → J (.sref false 2 v 0 n) (.int .i64 a) (.int .i64 b) hitF (.int .i64 i) (.int .i64 jc) (.box A.V :: .map (.sb m) :: .row .own v (.recs l') :: T)) :
    slices_partialInsertionSortCmpFunc_api_Rec.L3 c J K [.int .i64 ((i - 1 : Nat) : Int)] (.box A.V :: .map (.sb m) :: .row .own v (.recs l) :: T) (T.length + 1 + 1 + 1) (.sref false 2 v 0 n) (.int .i64 a) (.int .i64 b) hitF (.int .i64 i) (.int .i64 jc) := by
  have hr' := hr
  unfold roomy at hr'
  have h2 : 2 < T.length + 1 + 1 + 1 := by omega
  unfold slices_partialInsertionSortCmpFunc_api_Rec.L3
  refine loop1 (σ := List RecT × Nat) (fun s => .int .i64 s.2) (fun s => .box A.V :: .map (.sb m) :: .row .own v (.recs s.1) :: T) (fun s => s.2) (fun s => a ≤ s.2 ∧ s.2 < i ∧ SegP a i l s.1 ∧ InsS a s.2 i s.1) (l, i - 1) rfl rfl ⟨by simp only; omega, by simp only; omega, SegP.refl, h0⟩ ?_
  rintro I back ⟨l2, j⟩ ⟨hj1, hj2, hp2, hs2⟩
  simp only at hj1 hj2 hp2 hs2 ⊢
  have hl2 := hp2.len
  by_cases hj0 : 1 ≤ j
  · have e1 : IntKind.i64.wrap ((j : Int) - 1) = ((j - 1 : Nat) : Int) := by rw [w64 (by omega) (by omega)]; omega
    have d1 : decide ((1 : Int) ≤ (j : Int)) = true := decide_eq_true (by omega)
    cases hlt : ltB (kyL l2 j) (kyL l2 (j - 1)) with
    | false =>
      simp only [hTn _ _, SkT.norm, h2, joinW_eq, d1, e1, hd, hf, hlt, Int.toNat_natCast, seek_Hits_1.C, d0_def, kyL_def, cmpI_neg, joinW_eq, guard_tt, guard_tf, guard_ft, guard_ff, Int.reduceEq, Int.reduceLT, Int.reduceLE, decide_false, decide_true, Bool.not_false, Bool.not_true, Bool.not_not, not_true_eq_false, not_false_eq_true, true_implies, false_implies, implies_true, and_true, true_and, reduceCtorEq, Bool.and_self, Bool.or_self, Bool.and_true, Bool.true_and, Bool.false_eq_true, if_true, if_false, go_sem, Nat.reduceEqDiff, Nat.reduceLT, Nat.reduceAdd, Nat.reduceSub, Nat.reduceLeDiff, List.reduceReplicate, Int.reduceToNat]
      refine ⟨⟨by omega, by omega⟩, by omega, ⟨by omega, by omega⟩, by omega, hJ l2 hp2 (hs2.done hj1 hj2 ?_)⟩
      rcases Nat.eq_or_lt_of_le hj1 with h | h
      · exact .inl h.symm
      · exact .inr hlt
    | true =>
      have hja : a < j := by
        rcases Nat.eq_or_lt_of_le hj1 with h | h
        · subst h
          rcases hp.keep hp2 with h | h
          · omega
          · have := h a (Nat.le_refl _) hj2
            unfold leB at this
            rw [hlt] at this; cases this
        · exact h
      simp only [hTn _ _, SkT.norm, h2, joinW_eq, d1, e1, hd, hf, hlt, Int.toNat_natCast, seek_Hits_1.C, d0_def, kyL_def, cmpI_neg, rec_eta, swapL_def, List.length_set, joinW_eq, guard_tt, guard_tf, guard_ft, guard_ff, Int.reduceEq, Int.reduceLT, Int.reduceLE, decide_false, decide_true, Bool.not_false, Bool.not_true, Bool.not_not, not_true_eq_false, not_false_eq_true, true_implies, false_implies, implies_true, and_true, true_and, reduceCtorEq, Bool.and_self, Bool.or_self, Bool.and_true, Bool.true_and, Bool.false_eq_true, if_true, if_false, go_sem, Nat.reduceEqDiff, Nat.reduceLT, Nat.reduceAdd, Nat.reduceSub, Nat.reduceLeDiff, List.reduceReplicate, Int.reduceToNat]
      refine ⟨⟨by omega, by omega⟩, by omega, ⟨by omega, by omega⟩, by omega, ⟨by omega, by omega⟩, by omega, ⟨by omega, by omega⟩, by omega, ⟨by omega, by omega⟩, by omega, ⟨by omega, by omega⟩, by omega, back (swapL l2 j (j - 1), j - 1) (by simp only; omega) rfl rfl ⟨by simp only; omega, by simp only; omega, hp2.trans (SegP.swap (by omega) (by omega) (by omega) (by omega) (by omega)), hs2.step hja hj2 (by omega) hlt⟩⟩
  · have d1 : decide ((1 : Int) ≤ (j : Int)) = false := decide_eq_false (by omega)
    simp only [hTn _ _, SkT.norm, h2, joinW_eq, d1, joinW_eq, guard_tt, guard_tf, guard_ft, guard_ff, Int.reduceEq, Int.reduceLT, Int.reduceLE, decide_false, decide_true, Bool.not_false, Bool.not_true, Bool.not_not, not_true_eq_false, not_false_eq_true, true_implies, false_implies, implies_true, and_true, true_and, reduceCtorEq, Bool.and_self, Bool.or_self, Bool.and_true, Bool.true_and, Bool.false_eq_true, if_true, if_false, go_sem, Nat.reduceEqDiff, Nat.reduceLT, Nat.reduceAdd, Nat.reduceSub, Nat.reduceLeDiff, List.reduceReplicate, Int.reduceToNat]
    exact hJ l2 hp2 (hs2.done hj1 hj2 (.inl (by omega)))
theorem part_right (c : Ctx) (hd : c.drawn = false) (hf : c.envF 68 = seek_Hits_1.C) (A : SkT) (m : Bytes → Bool) (v : Nat) (l : List RecT) (T : List AObj) (n a b i jc : Nat) (hTn : OkT T) (hn : n = l.length) (hi : i + 1 < b) (hb : b ≤ n) (hr : roomy n)
    (J : AV → AV → AV → AV → AV → AV → List AObj → Prop) (K : AOut → List AObj → Prop)
    (hJ : ∀ l', SegP i b l l' → J (.sref false 2 v 0 n) (.int .i64 a) (.int .i64 b) hitF (.int .i64 i) (.int .i64 jc) (.box A.V :: .map (.sb m) :: .row .own v (.recs l') :: T)) :
    slices_partialInsertionSortCmpFunc_api_Rec.L4 c J K [.int .i64 ((i + 1 : Nat) : Int)] (.box A.V :: .map (.sb m) :: .row .own v (.recs l) :: T) (T.length + 1 + 1 + 1) (.sref false 2 v 0 n) (.int .i64 a) (.int .i64 b) hitF (.int .i64 i) (.int .i64 jc) := by
  have hr' := hr
  unfold roomy at hr'
  have h2 : 2 < T.length + 1 + 1 + 1 := by omega
  unfold slices_partialInsertionSortCmpFunc_api_Rec.L4
  refine loop1 (σ := List RecT × Nat) (fun s => .int .i64 s.2) (fun s => .box A.V :: .map (.sb m) :: .row .own v (.recs s.1) :: T) (fun s => b - s.2) (fun s => i + 1 ≤ s.2 ∧ s.2 ≤ b ∧ SegP i b l s.1) (l, i + 1) rfl rfl ⟨Nat.le_refl _, by simp only; omega, SegP.refl⟩ ?_
  rintro I back ⟨l2, j⟩ ⟨hj1, hj2, hp2⟩
  simp only at hj1 hj2 hp2 ⊢
  have hl2 := hp2.len
  by_cases hj0 : j < b
  · have e1 : IntKind.i64.wrap ((j : Int) - 1) = ((j - 1 : Nat) : Int) := by rw [w64 (by omega) (by omega)]; omega
    have d1 : decide ((j : Int) < (b : Int)) = true := decide_eq_true (by omega)
    cases hlt : ltB (kyL l2 j) (kyL l2 (j - 1)) with
    | false =>
      simp only [hTn _ _, SkT.norm, h2, joinW_eq, d1, e1, hd, hf, hlt, Int.toNat_natCast, seek_Hits_1.C, d0_def, kyL_def, cmpI_neg, joinW_eq, guard_tt, guard_tf, guard_ft, guard_ff, Int.reduceEq, Int.reduceLT, Int.reduceLE, decide_false, decide_true, Bool.not_false, Bool.not_true, Bool.not_not, not_true_eq_false, not_false_eq_true, true_implies, false_implies, implies_true, and_true, true_and, reduceCtorEq, Bool.and_self, Bool.or_self, Bool.and_true, Bool.true_and, Bool.false_eq_true, if_true, if_false, go_sem, Nat.reduceEqDiff, Nat.reduceLT, Nat.reduceAdd, Nat.reduceSub, Nat.reduceLeDiff, List.reduceReplicate, Int.reduceToNat]
      exact ⟨⟨by omega, by omega⟩, by omega, ⟨by omega, by omega⟩, by omega, hJ l2 hp2⟩
    | true =>
      simp only [hTn _ _, SkT.norm, h2, joinW_eq, d1, e1, hd, hf, hlt, Int.toNat_natCast, seek_Hits_1.C, d0_def, kyL_def, cmpI_neg, rec_eta, swapL_def, List.length_set, joinW_eq, guard_tt, guard_tf, guard_ft, guard_ff, Int.reduceEq, Int.reduceLT, Int.reduceLE, decide_false, decide_true, Bool.not_false, Bool.not_true, Bool.not_not, not_true_eq_false, not_false_eq_true, true_implies, false_implies, implies_true, and_true, true_and, reduceCtorEq, Bool.and_self, Bool.or_self, Bool.and_true, Bool.true_and, Bool.false_eq_true, if_true, if_false, go_sem, Nat.reduceEqDiff, Nat.reduceLT, Nat.reduceAdd, Nat.reduceSub, Nat.reduceLeDiff, List.reduceReplicate, Int.reduceToNat]
      refine ⟨⟨by omega, by omega⟩, by omega, ⟨by omega, by omega⟩, by omega, ⟨by omega, by omega⟩, by omega, ⟨by omega, by omega⟩, by omega, ⟨by omega, by omega⟩, by omega, ⟨by omega, by omega⟩, by omega, back (swapL l2 j (j - 1), j + 1) (by simp only; omega) (by rw [wnext (by omega)]) rfl ⟨by simp only; omega, by simp only; omega, hp2.trans (SegP.swap (by omega) (by omega) (by omega) (by omega) (by omega))⟩⟩
  · have d1 : decide ((j : Int) < (b : Int)) = false := decide_eq_false (by omega)
    simp only [hTn _ _, SkT.norm, h2, joinW_eq, d1, joinW_eq, guard_tt, guard_tf, guard_ft, guard_ff, Int.reduceEq, Int.reduceLT, Int.reduceLE, decide_false, decide_true, Bool.not_false, Bool.not_true, Bool.not_not, not_true_eq_false, not_false_eq_true, true_implies, false_implies, implies_true, and_true, true_and, reduceCtorEq, Bool.and_self, Bool.or_self, Bool.and_true, Bool.true_and, Bool.false_eq_true, if_true, if_false, go_sem, Nat.reduceEqDiff, Nat.reduceLT, Nat.reduceAdd, Nat.reduceSub, Nat.reduceLeDiff, List.reduceReplicate, Int.reduceToNat]
    exact hJ l2 hp2
theorem part_K (A : SkT) (m : Bytes → Bool) (v : Nat) (l : List RecT) (T : List AObj) (hTn : OkT T) (n a b : Nat) (hn : n = l.length) (hab : a < b) (hbn : b ≤ n) (hpre : PreS a b l) (hr : roomy n) (K : AOut → List AObj → Prop)
    (hK1 : ∀ l', SegP a b l l' → SegS a b l' → K (.ret (.bool true)) (hpS A m v l' T)) (hK2 : ∀ l', SegP a b l l' → K (.ret (.bool false)) (hpS A m v l' T)) :
    slices_partialInsertionSortCmpFunc_api_Rec.K [.sref false 2 v 0 n, .int .i64 a, .int .i64 b, hitF] (hpS A m v l T) K := by
  have hr' := hr
  unfold roomy at hr'
  have h2 : 2 < T.length + 1 + 1 + 1 := by omega
  unfold slices_partialInsertionSortCmpFunc_api_Rec.K slices_partialInsertionSortCmpFunc_api_Rec.H
  simp only [hpS, hTn _ _, SkT.norm, h2, joinW_eq, guard_tt, guard_tf, guard_ft, guard_ff, Int.reduceEq, Int.reduceLT, Int.reduceLE, decide_false, decide_true, Bool.not_false, Bool.not_true, Bool.not_not, not_true_eq_false, not_false_eq_true, true_implies, false_implies, implies_true, and_true, true_and, reduceCtorEq, Bool.and_self, Bool.or_self, Bool.and_true, Bool.true_and, Bool.false_eq_true, if_true, if_false, go_sem, Nat.reduceEqDiff, Nat.reduceLT, Nat.reduceAdd, Nat.reduceSub, Nat.reduceLeDiff, List.reduceReplicate, Int.reduceToNat] at hK1 hK2 ⊢
  rw [wnext (by omega)]
  unfold slices_partialInsertionSortCmpFunc_api_Rec.L1
  refine loop2 (σ := List RecT × Nat × Nat) (fun s => .int .i64 s.2.1) (fun s => .int .i64 s.2.2) (fun s => .box A.V :: .map (.sb m) :: .row .own v (.recs s.1) :: T) (fun s => 5 - s.2.2) (fun s => s.2.2 ≤ 5 ∧ a + 1 ≤ s.2.1 ∧ s.2.1 ≤ b ∧ SegP a b l s.1 ∧ SegS a s.2.1 s.1) (l, a + 1, 0) rfl rfl ⟨Nat.zero_le _, Nat.le_refl _, by simp only; omega, SegP.refl, SegS.one (Nat.le_refl _)⟩ ?_
  rintro I back ⟨l1, i0, jc⟩ ⟨hjc, hi1, hi2, hp, hs⟩
  simp only at hjc hi1 hi2 hp hs ⊢
  have hl1 := hp.len
  by_cases hj5 : jc < 5
  rotate_left
  · have d1 : decide ((jc : Int) < 5) = false := decide_eq_false (by omega)
    simp only [hTn _ _, SkT.norm, h2, joinW_eq, d1, joinW_eq, guard_tt, guard_tf, guard_ft, guard_ff, Int.reduceEq, Int.reduceLT, Int.reduceLE, decide_false, decide_true, Bool.not_false, Bool.not_true, Bool.not_not, not_true_eq_false, not_false_eq_true, true_implies, false_implies, implies_true, and_true, true_and, reduceCtorEq, Bool.and_self, Bool.or_self, Bool.and_true, Bool.true_and, Bool.false_eq_true, if_true, if_false, go_sem, Nat.reduceEqDiff, Nat.reduceLT, Nat.reduceAdd, Nat.reduceSub, Nat.reduceLeDiff, List.reduceReplicate, Int.reduceToNat]
    exact hK2 l1 hp
  have d0 : decide ((jc : Int) < 5) = true := decide_eq_true (by omega)
  simp only [hTn _ _, SkT.norm, h2, joinW_eq, d0, joinW_eq, guard_tt, guard_tf, guard_ft, guard_ff, Int.reduceEq, Int.reduceLT, Int.reduceLE, decide_false, decide_true, Bool.not_false, Bool.not_true, Bool.not_not, not_true_eq_false, not_false_eq_true, true_implies, false_implies, implies_true, and_true, true_and, reduceCtorEq, Bool.and_self, Bool.or_self, Bool.and_true, Bool.true_and, Bool.false_eq_true, if_true, if_false, go_sem, Nat.reduceEqDiff, Nat.reduceLT, Nat.reduceAdd, Nat.reduceSub, Nat.reduceLeDiff, List.reduceReplicate, Int.reduceToNat]
  unfold slices_partialInsertionSortCmpFunc_api_Rec.L2
  refine loop1 (σ := Nat) (fun i => .int .i64 i) (fun s => .box A.V :: .map (.sb m) :: .row .own v (.recs l1) :: T) (fun i => b - i) (fun i => a + 1 ≤ i ∧ i ≤ b ∧ SegS a i l1) i0 rfl rfl ⟨hi1, hi2, hs⟩ ?_
  rintro I2 back2 i ⟨hi1, hi2, hs⟩
  have e1 : IntKind.i64.wrap ((i : Int) - 1) = ((i - 1 : Nat) : Int) := by rw [w64 (by omega) (by omega)]; omega
  have e2 : IntKind.i64.wrap ((b : Int) - a) = ((b - a : Nat) : Int) := by rw [w64 (by omega) (by omega)]; omega
  have e3 : IntKind.i64.wrap ((i : Int) - a) = ((i - a : Nat) : Int) := by rw [w64 (by omega) (by omega)]; omega
  have e4 : IntKind.i64.wrap ((b : Int) - i) = ((b - i : Nat) : Int) := by rw [w64 (by omega) (by omega)]; omega
  by_cases hib : i < b
  · have d1 : decide ((i : Int) < (b : Int)) = true := decide_eq_true (by omega)
    have d2 : decide ((i : Int) = (b : Int)) = false := decide_eq_false (by omega)
    cases hlt : ltB (kyL l1 i) (kyL l1 (i - 1)) with
    | false =>
      simp only [hTn _ _, SkT.norm, h2, joinW_eq, d1, e1, e2, hlt, Int.toNat_natCast, seek_Hits_1.C, d0_def, kyL_def, cmpI_neg, rec_eta, swapL_def, List.length_set, joinW_eq, guard_tt, guard_tf, guard_ft, guard_ff, Int.reduceEq, Int.reduceLT, Int.reduceLE, decide_false, decide_true, Bool.not_false, Bool.not_true, Bool.not_not, not_true_eq_false, not_false_eq_true, true_implies, false_implies, implies_true, and_true, true_and, reduceCtorEq, Bool.and_self, Bool.or_self, Bool.and_true, Bool.true_and, Bool.false_eq_true, if_true, if_false, go_sem, Nat.reduceEqDiff, Nat.reduceLT, Nat.reduceAdd, Nat.reduceSub, Nat.reduceLeDiff, List.reduceReplicate, Int.reduceToNat]
      refine ⟨⟨by omega, by omega⟩, by omega, ⟨by omega, by omega⟩, by omega, ?_⟩
      refine back2 (i + 1) (by omega) (by rw [wnext (by omega)]) rfl ⟨by omega, by omega, ?_⟩
      intro p q h1 h2 h3
      by_cases hq : q = i
      · subst hq
        by_cases hp : p = q - 1
        · subst hp; exact hlt
        · exact leB_trans (hs p (q - 1) h1 (by omega) (by omega)) hlt
      · exact hs p q h1 h2 (by omega)
    | true =>
      have hsw : SegP a b l (swapL l1 i (i - 1)) := hp.trans (SegP.swap (by omega) (by omega) (by omega) (by omega) (by omega))
      have hins : InsS a (i - 1) i (swapL l1 i (i - 1)) := fun p q h1 h2 h3 h4 => by
        rw [kyL_swap (by omega) (by omega), kyL_swap (by omega) (by omega), if_neg (by omega), if_neg (by omega), if_neg (by omega), if_neg (by omega)]
        exact hs p q h1 h2 (by omega)
      have hsl : (swapL l1 i (i - 1)).length = n := by rw [swapL_len]; omega
      simp only [hTn _ _, SkT.norm, h2, joinW_eq, d1, d2, e1, e2, e3, e4, hlt, Int.toNat_natCast, seek_Hits_1.C, d0_def, kyL_def, cmpI_neg, rec_eta, swapL_def, List.length_set, wnext (show i < 4611686018427387904 by omega), joinW_eq, guard_tt, guard_tf, guard_ft, guard_ff, Int.reduceEq, Int.reduceLT, Int.reduceLE, decide_false, decide_true, Bool.not_false, Bool.not_true, Bool.not_not, not_true_eq_false, not_false_eq_true, true_implies, false_implies, implies_true, and_true, true_and, reduceCtorEq, Bool.and_self, Bool.or_self, Bool.and_true, Bool.true_and, Bool.false_eq_true, if_true, if_false, go_sem, Nat.reduceEqDiff, Nat.reduceLT, Nat.reduceAdd, Nat.reduceSub, Nat.reduceLeDiff, List.reduceReplicate, Int.reduceToNat]
      generalize swapL l1 i (i - 1) = l2 at *
      have hend : ∀ l3, SegP a b l l3 → SegS a i l3 → ∃ m_1, m_1 < 5 - jc ∧ I m_1 [.int .i64 i, .int .i64 ((jc + 1 : Nat) : Int)] (.box A.V :: .map (.sb m) :: .row .own v (.recs l3) :: T) := fun l3 p3 s3 => back (l3, i, jc + 1) (by simp only; omega) rfl rfl ⟨by simp only; omega, hi1, hi2, p3, s3⟩
      have hright : ∀ (c : Ctx), c.drawn = false → c.envF 68 = seek_Hits_1.C → ∀ l3, SegP a b l l3 → SegS a i l3 → ∀ (J : AV → AV → AV → AV → AV → AV → List AObj → Prop) (K : AOut → List AObj → Prop), i + 1 < b → (∀ l4, SegP a b l l4 → SegS a i l4 → J (.sref false 2 v 0 n) (.int .i64 a) (.int .i64 b) hitF (.int .i64 i) (.int .i64 jc) (.box A.V :: .map (.sb m) :: .row .own v (.recs l4) :: T)) → slices_partialInsertionSortCmpFunc_api_Rec.L4 c J K [.int .i64 ((i + 1 : Nat) : Int)] (.box A.V :: .map (.sb m) :: .row .own v (.recs l3) :: T) (T.length + 1 + 1 + 1) (.sref false 2 v 0 n) (.int .i64 a) (.int .i64 b) hitF (.int .i64 i) (.int .i64 jc) := fun c hd hf l3 p3 s3 J K h1 hJ =>
        part_right c hd hf A m v l3 T n a b i jc hTn (by rw [p3.len]; exact hn) h1 hbn hr J K fun l4 p4 => hJ l4 (p3.trans (p4.mono (by omega) (Nat.le_refl _))) (s3.keep p4 (.inl (Nat.le_refl _)))
      refine ⟨⟨by omega, by omega⟩, by omega, ⟨by omega, by omega⟩, by omega, fun h50 => hK2 l1 hp, fun h50 => ⟨⟨by omega, by omega⟩, by omega, ⟨by omega, by omega⟩, by omega, ⟨by omega, by omega⟩, by omega, ⟨by omega, by omega⟩, by omega, fun hge => ?_, fun hge => ?_⟩⟩
      · have hpr : PreS a i l2 := (hpre.keep hsw).imp id fun h k k1 k2 => h k k1 (by omega)
        refine part_left _ rfl rfl A m v l2 T n a b i jc hTn hsl.symm (by omega) (by omega) hpr hr hins _ _ fun l3 p3 s3 => ?_
        have p3' : SegP a b l l3 := hsw.trans (p3.mono (Nat.le_refl _) (by omega))
        simp only [hTn _ _, SkT.norm, h2, e4, wnext (show i < 4611686018427387904 by omega), wnext (show jc < 4611686018427387904 by omega), joinW_eq, guard_tt, guard_tf, guard_ft, guard_ff, Int.reduceEq, Int.reduceLT, Int.reduceLE, decide_false, decide_true, Bool.not_false, Bool.not_true, Bool.not_not, not_true_eq_false, not_false_eq_true, true_implies, false_implies, implies_true, and_true, true_and, reduceCtorEq, Bool.and_self, Bool.or_self, Bool.and_true, Bool.true_and, Bool.false_eq_true, if_true, if_false, go_sem, Nat.reduceEqDiff, Nat.reduceLT, Nat.reduceAdd, Nat.reduceSub, Nat.reduceLeDiff, List.reduceReplicate, Int.reduceToNat]
        refine ⟨fun hge2 => hright _ rfl rfl l3 p3' s3 _ _ (by omega) fun l4 p4 s4 => ?_, fun _ => hend l3 p3' s3⟩
        simp only [hTn _ _, SkT.norm, h2, wnext (show jc < 4611686018427387904 by omega), joinW_eq, guard_tt, guard_tf, guard_ft, guard_ff, Int.reduceEq, Int.reduceLT, Int.reduceLE, decide_false, decide_true, Bool.not_false, Bool.not_true, Bool.not_not, not_true_eq_false, not_false_eq_true, true_implies, false_implies, implies_true, and_true, true_and, reduceCtorEq, Bool.and_self, Bool.or_self, Bool.and_true, Bool.true_and, Bool.false_eq_true, if_true, if_false, go_sem, Nat.reduceEqDiff, Nat.reduceLT, Nat.reduceAdd, Nat.reduceSub, Nat.reduceLeDiff, List.reduceReplicate, Int.reduceToNat]
        exact hend l4 p4 s4
      · refine ⟨fun hge2 => hright _ rfl rfl l2 hsw (SegS.one (by omega)) _ _ (by omega) fun l4 p4 s4 => ?_, fun _ => by rw [wnext (by omega)]; exact hend l2 hsw (SegS.one (by omega))⟩
        simp only [hTn _ _, SkT.norm, h2, wnext (show jc < 4611686018427387904 by omega), joinW_eq, guard_tt, guard_tf, guard_ft, guard_ff, Int.reduceEq, Int.reduceLT, Int.reduceLE, decide_false, decide_true, Bool.not_false, Bool.not_true, Bool.not_not, not_true_eq_false, not_false_eq_true, true_implies, false_implies, implies_true, and_true, true_and, reduceCtorEq, Bool.and_self, Bool.or_self, Bool.and_true, Bool.true_and, Bool.false_eq_true, if_true, if_false, go_sem, Nat.reduceEqDiff, Nat.reduceLT, Nat.reduceAdd, Nat.reduceSub, Nat.reduceLeDiff, List.reduceReplicate, Int.reduceToNat]
        exact hend l4 p4 s4
  · obtain rfl : i = b := by omega
    have d1 : decide ((i : Int) < (i : Int)) = false := decide_eq_false (by omega)
    simp only [hTn _ _, SkT.norm, h2, joinW_eq, d1, decide_true, joinW_eq, guard_tt, guard_tf, guard_ft, guard_ff, Int.reduceEq, Int.reduceLT, Int.reduceLE, decide_false, decide_true, Bool.not_false, Bool.not_true, Bool.not_not, not_true_eq_false, not_false_eq_true, true_implies, false_implies, implies_true, and_true, true_and, reduceCtorEq, Bool.and_self, Bool.or_self, Bool.and_true, Bool.true_and, Bool.false_eq_true, if_true, if_false, go_sem, Nat.reduceEqDiff, Nat.reduceLT, Nat.reduceAdd, Nat.reduceSub, Nat.reduceLeDiff, List.reduceReplicate, Int.reduceToNat]
    exact hK1 l1 hp hs
def slices_partitionCmpFunc_api_Rec.K : Con := fun args h K => match args with
  | [a0, a1, a2, a3, a4] => slices_partitionCmpFunc_api_Rec.H (ctx [(68, seek_Hits_1.C)] [] slices_partitionCmpFunc_api_Rec.loops) a0 a1 a2 a3 a4 h K
  | _ => False
theorem slices_partitionCmpFunc_api_Rec.spec : SSpec Try.prog 121 slices_partitionCmpFunc_api_Rec.K := by
  refine SSpec.of (ctx_ok (F := [(68, seek_Hits_1.C)]) (S := []) (by simpa using seek_Hits_1.spec) (by simp) slices_partitionCmpFunc_api_Rec.loops) slices_partitionCmpFunc_api_Rec.at slices_partitionCmpFunc_api_Rec.nm slices_partitionCmpFunc_api_Rec.bd ?_
  intro args h K hC
  unfold slices_partitionCmpFunc_api_Rec.K at hC
  split at hC
  · rw [slices_partitionCmpFunc_api_Rec.eq]; exact hC
  · exact hC.elim
/-- how far a partition has come -/
def PartS (a b i j : Nat) (l : List RecT) : Prop := a + 1 ≤ i ∧ i ≤ j + 1 ∧ j < b ∧ a ≤ j ∧ (∀ k, a < k → k < i → leB (kyL l k) (kyL l a)) ∧ ∀ k, j < k → k < b → leB (kyL l a) (kyL l k)
theorem PartS.swap {a b i j : Nat} {l : List RecT} (h : PartS a b i j l) (hij : i < j) (hb : b ≤ l.length) (h1 : leB (kyL l a) (kyL l i)) (h2 : leB (kyL l j) (kyL l a)) : PartS a b (i + 1) (j - 1) (swapL l i j) := by
  obtain ⟨q1, q2, q3, q4, q5, q6⟩ := h
  have hil : i < l.length := by omega
  have hjl : j < l.length := by omega
  have ea : kyL (swapL l i j) a = kyL l a := by rw [kyL_swap hil hjl, if_neg (by omega), if_neg (by omega)]
  refine ⟨by omega, by omega, by omega, by omega, fun k k1 k2 => ?_, fun k k1 k2 => ?_⟩
  · rw [ea, kyL_swap hil hjl, if_neg (by omega)]
    by_cases e : k = i
    · rw [if_pos e]; exact h2
    · rw [if_neg e]; exact q5 k k1 (by omega)
  · rw [ea, kyL_swap hil hjl]
    by_cases e : k = j
    · rw [if_pos e]; exact h1
    · rw [if_neg e, if_neg (by omega)]; exact q6 k (by omega) k2
theorem PartS.fin {a b i j : Nat} {l : List RecT} (h : PartS a b i j l) (hij : j < i) (hb : b ≤ l.length) : Parted a j b (swapL l a j) := by
  obtain ⟨q1, q2, q3, q4, q5, q6⟩ := h
  have hal : a < l.length := by omega
  have hjl : j < l.length := by omega
  have ej : kyL (swapL l a j) j = kyL l a := by rw [kyL_swap hal hjl, if_pos rfl]
  refine ⟨fun k k1 k2 => ?_, fun k k1 k2 => ?_⟩
  · rw [ej, kyL_swap hal hjl, if_neg (by omega)]
    by_cases e : k = a
    · rw [if_pos e]; exact q5 j (by omega) (by omega)
    · rw [if_neg e]; exact q5 k (by omega) (by omega)
  · rw [ej, kyL_swap hal hjl, if_neg (by omega), if_neg (by omega)]; exact q6 k k1 k2
theorem swapL_comm {l : List RecT} {i j : Nat} (hi : i < l.length) (hj : j < l.length) : swapL l i j = swapL l j i := by
  refine List.ext_getElem? fun k => ?_
  have h : ∀ k, (swapL l i j).getD k d0 = (swapL l j i).getD k d0 := fun k => by
    rw [swapL_get hi hj, swapL_get hj hi]
    by_cases e1 : k = j
    · by_cases e2 : k = i
      · rw [if_pos e1, if_pos e2, ← e1, ← e2]
      · rw [if_pos e1, if_neg e2, if_pos e1]
    · rw [if_neg e1, if_neg e1]
  rcases Nat.lt_or_ge k l.length with hk | hk
  · have := h k
    rw [List.getD_eq_getElem?_getD, List.getD_eq_getElem?_getD, List.getElem?_eq_getElem (by rw [swapL_len]; exact hk), List.getElem?_eq_getElem (by rw [swapL_len]; exact hk)] at this
    rw [List.getElem?_eq_getElem (by rw [swapL_len]; exact hk), List.getElem?_eq_getElem (by rw [swapL_len]; exact hk)]
    exact congrArg some this
  · rw [List.getElem?_eq_none (by rw [swapL_len]; exact hk), List.getElem?_eq_none (by rw [swapL_len]; exact hk)]
theorem partition_L4 : slices_partitionCmpFunc_api_Rec.L4 = slices_partitionCmpFunc_api_Rec.L1 := rfl
theorem partition_L5 : slices_partitionCmpFunc_api_Rec.L5 = slices_partitionCmpFunc_api_Rec.L2 := rfl
theorem partition_up (c : Ctx) (hd : c.drawn = false) (hf : c.envF 68 = seek_Hits_1.C) (A : SkT) (m : Bytes → Bool) (v : Nat) (l : List RecT) (T : List AObj) (n a j i0 : Nat) (hTn : OkT T) (hn : n = l.length) (ha : a < i0) (hj : j < n) (hij : i0 ≤ j + 1) (hr : roomy n)
    (J : AV → AV → AV → AV → AV → List AObj → Prop) (K : AOut → List AObj → Prop)
    (hJ : ∀ i : Nat, i0 ≤ i → i ≤ j + 1 → (∀ k, i0 ≤ k → k < i → leB (kyL l k) (kyL l a)) → (i ≤ j → leB (kyL l a) (kyL l i)) → J (.sref false 2 v 0 n) (.int .i64 a) hitF (.int .i64 i) (.int .i64 j) (.box A.V :: .map (.sb m) :: .row .own v (.recs l) :: T)) :
    slices_partitionCmpFunc_api_Rec.L1 c J K [.int .i64 i0] (.box A.V :: .map (.sb m) :: .row .own v (.recs l) :: T) (T.length + 1 + 1 + 1) (.sref false 2 v 0 n) (.int .i64 a) hitF (.int .i64 j) := by
  have hr' := hr
  unfold roomy at hr'
  have h2 : 2 < T.length + 1 + 1 + 1 := by omega
  unfold slices_partitionCmpFunc_api_Rec.L1
  refine loop1 (σ := Nat) (fun i => .int .i64 i) (fun s => .box A.V :: .map (.sb m) :: .row .own v (.recs l) :: T) (fun i => j + 1 - i) (fun i => i0 ≤ i ∧ i ≤ j + 1 ∧ ∀ k, i0 ≤ k → k < i → leB (kyL l k) (kyL l a)) i0 rfl rfl ⟨Nat.le_refl _, hij, fun k h1 h2 => by omega⟩ ?_
  rintro I back i ⟨hi1, hi2, hall⟩
  by_cases hle : i ≤ j
  · have d1 : decide ((i : Int) ≤ (j : Int)) = true := decide_eq_true (by omega)
    simp only [hTn _ _, SkT.norm, h2, joinW_eq, d1, hd, hf, Int.toNat_natCast, seek_Hits_1.C, d0_def, kyL_def, cmpI_neg, joinW_eq, guard_tt, guard_tf, guard_ft, guard_ff, Int.reduceEq, Int.reduceLT, Int.reduceLE, decide_false, decide_true, Bool.not_false, Bool.not_true, Bool.not_not, not_true_eq_false, not_false_eq_true, true_implies, false_implies, implies_true, and_true, true_and, reduceCtorEq, Bool.and_self, Bool.or_self, Bool.and_true, Bool.true_and, Bool.false_eq_true, if_true, if_false, go_sem, Nat.reduceEqDiff, Nat.reduceLT, Nat.reduceAdd, Nat.reduceSub, Nat.reduceLeDiff, List.reduceReplicate, Int.reduceToNat]
    refine ⟨⟨by omega, by omega⟩, by omega, ⟨by omega, by omega⟩, by omega, fun h => ?_, fun h => hJ i hi1 hi2 hall fun _ => by unfold leB; simpa using h⟩
    refine back (i + 1) (by omega) (by rw [wnext (by omega)]) rfl ⟨by omega, by omega, fun k k1 k2 => ?_⟩
    by_cases e : k = i
    · subst e; exact leB_of_lt h
    · exact hall k k1 (by omega)
  · have d1 : decide ((i : Int) ≤ (j : Int)) = false := decide_eq_false (by omega)
    simp only [hTn _ _, SkT.norm, h2, joinW_eq, d1, joinW_eq, guard_tt, guard_tf, guard_ft, guard_ff, Int.reduceEq, Int.reduceLT, Int.reduceLE, decide_false, decide_true, Bool.not_false, Bool.not_true, Bool.not_not, not_true_eq_false, not_false_eq_true, true_implies, false_implies, implies_true, and_true, true_and, reduceCtorEq, Bool.and_self, Bool.or_self, Bool.and_true, Bool.true_and, Bool.false_eq_true, if_true, if_false, go_sem, Nat.reduceEqDiff, Nat.reduceLT, Nat.reduceAdd, Nat.reduceSub, Nat.reduceLeDiff, List.reduceReplicate, Int.reduceToNat]
    exact hJ i hi1 hi2 hall fun h => absurd h hle
theorem partition_down (c : Ctx) (hd : c.drawn = false) (hf : c.envF 68 = seek_Hits_1.C) (A : SkT) (m : Bytes → Bool) (v : Nat) (l : List RecT) (T : List AObj) (n a i j0 : Nat) (hTn : OkT T) (hn : n = l.length) (ha : a < i) (hj : j0 < n) (hij : i ≤ j0 + 1) (hr : roomy n)
    (J : AV → AV → AV → AV → AV → List AObj → Prop) (K : AOut → List AObj → Prop)
    (hJ : ∀ j : Nat, j ≤ j0 → i ≤ j + 1 → (∀ k, j < k → k ≤ j0 → leB (kyL l a) (kyL l k)) → (i ≤ j → ltB (kyL l j) (kyL l a) = true) → J (.sref false 2 v 0 n) (.int .i64 a) hitF (.int .i64 i) (.int .i64 j) (.box A.V :: .map (.sb m) :: .row .own v (.recs l) :: T)) :
    slices_partitionCmpFunc_api_Rec.L2 c J K [.int .i64 j0] (.box A.V :: .map (.sb m) :: .row .own v (.recs l) :: T) (T.length + 1 + 1 + 1) (.sref false 2 v 0 n) (.int .i64 a) hitF (.int .i64 i) := by
  have hr' := hr
  unfold roomy at hr'
  have h2 : 2 < T.length + 1 + 1 + 1 := by omega
  unfold slices_partitionCmpFunc_api_Rec.L2
  refine loop1 (σ := Nat) (fun i => .int .i64 i) (fun s => .box A.V :: .map (.sb m) :: .row .own v (.recs l) :: T) (fun j => j) (fun j => j ≤ j0 ∧ i ≤ j + 1 ∧ ∀ k, j < k → k ≤ j0 → leB (kyL l a) (kyL l k)) j0 rfl rfl ⟨Nat.le_refl _, hij, fun k h1 h2 => by omega⟩ ?_
  rintro I back j ⟨hj1, hj2, hall⟩
  by_cases hle : i ≤ j
  · have d1 : decide ((i : Int) ≤ (j : Int)) = true := decide_eq_true (by omega)
    have e1 : IntKind.i64.wrap ((j : Int) - 1) = ((j - 1 : Nat) : Int) := by rw [w64 (by omega) (by omega)]; omega
    simp only [hTn _ _, SkT.norm, h2, joinW_eq, d1, e1, hd, hf, Int.toNat_natCast, seek_Hits_1.C, d0_def, kyL_def, cmpI_neg, joinW_eq, guard_tt, guard_tf, guard_ft, guard_ff, Int.reduceEq, Int.reduceLT, Int.reduceLE, decide_false, decide_true, Bool.not_false, Bool.not_true, Bool.not_not, not_true_eq_false, not_false_eq_true, true_implies, false_implies, implies_true, and_true, true_and, reduceCtorEq, Bool.and_self, Bool.or_self, Bool.and_true, Bool.true_and, Bool.false_eq_true, if_true, if_false, go_sem, Nat.reduceEqDiff, Nat.reduceLT, Nat.reduceAdd, Nat.reduceSub, Nat.reduceLeDiff, List.reduceReplicate, Int.reduceToNat]
    refine ⟨⟨by omega, by omega⟩, by omega, ⟨by omega, by omega⟩, by omega, ?_⟩
    cases hlt : ltB (kyL l j) (kyL l a) with
    | false =>
      simp only [joinW_eq, guard_tt, guard_tf, guard_ft, guard_ff, Int.reduceEq, Int.reduceLT, Int.reduceLE, decide_false, decide_true, Bool.not_false, Bool.not_true, Bool.not_not, not_true_eq_false, not_false_eq_true, true_implies, false_implies, implies_true, and_true, true_and, reduceCtorEq, Bool.and_self, Bool.or_self, Bool.and_true, Bool.true_and, Bool.false_eq_true, if_true, if_false, go_sem, Nat.reduceEqDiff, Nat.reduceLT, Nat.reduceAdd, Nat.reduceSub, Nat.reduceLeDiff, List.reduceReplicate, Int.reduceToNat]
      refine back (j - 1) (by omega) rfl rfl ⟨by omega, by omega, fun k k1 k2 => ?_⟩
      by_cases e : k = j
      · subst e; exact hlt
      · exact hall k (by omega) k2
    | true =>
      simp only [joinW_eq, guard_tt, guard_tf, guard_ft, guard_ff, Int.reduceEq, Int.reduceLT, Int.reduceLE, decide_false, decide_true, Bool.not_false, Bool.not_true, Bool.not_not, not_true_eq_false, not_false_eq_true, true_implies, false_implies, implies_true, and_true, true_and, reduceCtorEq, Bool.and_self, Bool.or_self, Bool.and_true, Bool.true_and, Bool.false_eq_true, if_true, if_false, go_sem, Nat.reduceEqDiff, Nat.reduceLT, Nat.reduceAdd, Nat.reduceSub, Nat.reduceLeDiff, List.reduceReplicate, Int.reduceToNat]
      exact hJ j hj1 hj2 hall fun _ => hlt
  · have d1 : decide ((i : Int) ≤ (j : Int)) = false := decide_eq_false (by omega)
    simp only [hTn _ _, SkT.norm, h2, joinW_eq, d1, joinW_eq, guard_tt, guard_tf, guard_ft, guard_ff, Int.reduceEq, Int.reduceLT, Int.reduceLE, decide_false, decide_true, Bool.not_false, Bool.not_true, Bool.not_not, not_true_eq_false, not_false_eq_true, true_implies, false_implies, implies_true, and_true, true_and, reduceCtorEq, Bool.and_self, Bool.or_self, Bool.and_true, Bool.true_and, Bool.false_eq_true, if_true, if_false, go_sem, Nat.reduceEqDiff, Nat.reduceLT, Nat.reduceAdd, Nat.reduceSub, Nat.reduceLeDiff, List.reduceReplicate, Int.reduceToNat]
    exact hJ j hj1 hj2 hall fun h => absurd h hle
theorem partition_K (A : SkT) (m : Bytes → Bool) (v : Nat) (l : List RecT) (T : List AObj) (hTn : OkT T) (n a b p : Nat) (hn : n = l.length) (hab : a + 1 < b) (hbn : b ≤ n) (hp : a ≤ p) (hpb : p < b) (hr : roomy n) (K : AOut → List AObj → Prop)
    (hK : ∀ l' q al, SegP a b l l' → a ≤ q → q < b → Parted a q b l' → K (.ret (.tup [.int .i64 q, .bool al])) (hpS A m v l' T)) :
    slices_partitionCmpFunc_api_Rec.K [.sref false 2 v 0 n, .int .i64 a, .int .i64 b, .int .i64 p, hitF] (hpS A m v l T) K := by
  have hr' := hr
  unfold roomy at hr'
  have h2 : 2 < T.length + 1 + 1 + 1 := by omega
  have e1 : IntKind.i64.wrap ((b : Int) - 1) = ((b - 1 : Nat) : Int) := by rw [w64 (by omega) (by omega)]; omega
  unfold slices_partitionCmpFunc_api_Rec.K slices_partitionCmpFunc_api_Rec.H
  simp only [hpS, hTn _ _, SkT.norm, h2, e1, wnext (show a < 4611686018427387904 by omega), joinW_eq, Int.toNat_natCast, d0_def, kyL_def, rec_eta, swapL_def, List.length_set, joinW_eq, guard_tt, guard_tf, guard_ft, guard_ff, Int.reduceEq, Int.reduceLT, Int.reduceLE, decide_false, decide_true, Bool.not_false, Bool.not_true, Bool.not_not, not_true_eq_false, not_false_eq_true, true_implies, false_implies, implies_true, and_true, true_and, reduceCtorEq, Bool.and_self, Bool.or_self, Bool.and_true, Bool.true_and, Bool.false_eq_true, if_true, if_false, go_sem, Nat.reduceEqDiff, Nat.reduceLT, Nat.reduceAdd, Nat.reduceSub, Nat.reduceLeDiff, List.reduceReplicate, Int.reduceToNat] at hK ⊢
  refine ⟨⟨by omega, by omega⟩, by omega, ⟨by omega, by omega⟩, by omega, ⟨by omega, by omega⟩, by omega, ⟨by omega, by omega⟩, by omega, ?_⟩
  have hp1 : SegP a b l (swapL l a p) := SegP.swap (by omega) (by omega) (by omega) (by omega) (by omega)
  generalize swapL l a p = l1 at *
  have hl1 := hp1.len
  refine partition_up _ rfl rfl A m v l1 T n a (b - 1) (a + 1) hTn (by omega) (by omega) (by omega) (by omega) hr _ _ fun i hi1 hi2 hi3 hi4 => ?_
  simp only [hTn _ _, SkT.norm, h2, joinW_eq, guard_tt, guard_tf, guard_ft, guard_ff, Int.reduceEq, Int.reduceLT, Int.reduceLE, decide_false, decide_true, Bool.not_false, Bool.not_true, Bool.not_not, not_true_eq_false, not_false_eq_true, true_implies, false_implies, implies_true, and_true, true_and, reduceCtorEq, Bool.and_self, Bool.or_self, Bool.and_true, Bool.true_and, Bool.false_eq_true, if_true, if_false, go_sem, Nat.reduceEqDiff, Nat.reduceLT, Nat.reduceAdd, Nat.reduceSub, Nat.reduceLeDiff, List.reduceReplicate, Int.reduceToNat]
  refine partition_down _ rfl rfl A m v l1 T n a i (b - 1) hTn (by omega) (by omega) (by omega) (by omega) hr _ _ fun j hj1 hj2 hj3 hj4 => ?_
  have hS : PartS a b i j l1 := ⟨hi1, hj2, by omega, by omega, fun k k1 k2 => hi3 k (by omega) k2, fun k k1 k2 => hj3 k k1 (by omega)⟩
  have e2 : j ≠ 0 → IntKind.i64.wrap ((j : Int) - 1) = ((j - 1 : Nat) : Int) := fun h => by rw [w64 (by omega) (by omega)]; omega
  simp only [hTn _ _, SkT.norm, h2, wnext (show i < 4611686018427387904 by omega), joinW_eq, Int.toNat_natCast, d0_def, kyL_def, rec_eta, swapL_def, List.length_set, joinW_eq, guard_tt, guard_tf, guard_ft, guard_ff, Int.reduceEq, Int.reduceLT, Int.reduceLE, decide_false, decide_true, Bool.not_false, Bool.not_true, Bool.not_not, not_true_eq_false, not_false_eq_true, true_implies, false_implies, implies_true, and_true, true_and, reduceCtorEq, Bool.and_self, Bool.or_self, Bool.and_true, Bool.true_and, Bool.false_eq_true, if_true, if_false, go_sem, Nat.reduceEqDiff, Nat.reduceLT, Nat.reduceAdd, Nat.reduceSub, Nat.reduceLeDiff, List.reduceReplicate, Int.reduceToNat]
  refine ⟨fun hgt => ⟨⟨by omega, by omega⟩, by omega, ⟨by omega, by omega⟩, by omega, ⟨by omega, by omega⟩, by omega, ⟨by omega, by omega⟩, by omega, ?_⟩, fun hle => ⟨⟨by omega, by omega⟩, by omega, ⟨by omega, by omega⟩, by omega, ⟨by omega, by omega⟩, by omega, ⟨by omega, by omega⟩, by omega, ?_⟩⟩
  · rw [swapL_comm (by omega) (by omega)]
    exact hK _ j true (hp1.trans (SegP.swap (by omega) (by omega) (by omega) (by omega) (by omega))) (by omega) (by omega) (hS.fin (by omega) (by omega))
  have hij : i < j := by
    rcases Nat.lt_or_ge i j with h | h
    · exact h
    · exfalso
      obtain rfl : i = j := by omega
      have := hj4 (Nat.le_refl _)
      have h' := hi4 (by omega)
      unfold leB at h'
      rw [this] at h'; cases h'
  have hS2 := hS.swap hij (by omega) (hi4 (by omega)) (leB_of_lt (hj4 (by omega)))
  have hp2 : SegP a b l (swapL l1 i j) := hp1.trans (SegP.swap (by omega) (by omega) (by omega) (by omega) (by omega))
  generalize swapL l1 i j = l2 at *
  rw [e2 (by omega)]
  unfold slices_partitionCmpFunc_api_Rec.L3
  refine loop2 (σ := List RecT × Nat × Nat) (fun s => .int .i64 s.2.1) (fun s => .int .i64 s.2.2) (fun s => .box A.V :: .map (.sb m) :: .row .own v (.recs s.1) :: T) (fun s => s.2.2) (fun s => SegP a b l s.1 ∧ PartS a b s.2.1 s.2.2 s.1) (l2, i + 1, j - 1) rfl rfl ⟨hp2, hS2⟩ ?_
  rintro I back ⟨l3, i3, j3⟩ ⟨hp3, q1, q2, q3, q4, q5, q6⟩
  simp only at hp3 q1 q2 q3 q4 q5 q6 ⊢
  have hl3 := hp3.len
  simp only [hTn _ _, SkT.norm, h2, joinW_eq, partition_L4, partition_L5, joinW_eq, guard_tt, guard_tf, guard_ft, guard_ff, Int.reduceEq, Int.reduceLT, Int.reduceLE, decide_false, decide_true, Bool.not_false, Bool.not_true, Bool.not_not, not_true_eq_false, not_false_eq_true, true_implies, false_implies, implies_true, and_true, true_and, reduceCtorEq, Bool.and_self, Bool.or_self, Bool.and_true, Bool.true_and, Bool.false_eq_true, if_true, if_false, go_sem, Nat.reduceEqDiff, Nat.reduceLT, Nat.reduceAdd, Nat.reduceSub, Nat.reduceLeDiff, List.reduceReplicate, Int.reduceToNat]
  refine partition_up _ rfl rfl A m v l3 T n a j3 i3 hTn (by omega) (by omega) (by omega) (by omega) hr _ _ fun i4 g1 g2 g3 g4 => ?_
  simp only [hTn _ _, SkT.norm, h2, joinW_eq, guard_tt, guard_tf, guard_ft, guard_ff, Int.reduceEq, Int.reduceLT, Int.reduceLE, decide_false, decide_true, Bool.not_false, Bool.not_true, Bool.not_not, not_true_eq_false, not_false_eq_true, true_implies, false_implies, implies_true, and_true, true_and, reduceCtorEq, Bool.and_self, Bool.or_self, Bool.and_true, Bool.true_and, Bool.false_eq_true, if_true, if_false, go_sem, Nat.reduceEqDiff, Nat.reduceLT, Nat.reduceAdd, Nat.reduceSub, Nat.reduceLeDiff, List.reduceReplicate, Int.reduceToNat]
  refine partition_down _ rfl rfl A m v l3 T n a i4 j3 hTn (by omega) (by omega) (by omega) (by omega) hr _ _ fun j4 k1 k2 k3 k4 => ?_
  have hS4 : PartS a b i4 j4 l3 := ⟨by omega, k2, by omega, by omega, fun k z1 z2 => by
    by_cases e : k < i3
    · exact q5 k z1 e
    · exact g3 k (by omega) z2, fun k z1 z2 => by
    by_cases e : j3 < k
    · exact q6 k e z2
    · exact k3 k z1 (by omega)⟩
  have e4 : j4 ≠ 0 → IntKind.i64.wrap ((j4 : Int) - 1) = ((j4 - 1 : Nat) : Int) := fun h => by rw [w64 (by omega) (by omega)]; omega
  simp only [hTn _ _, SkT.norm, h2, wnext (show i4 < 4611686018427387904 by omega), joinW_eq, Int.toNat_natCast, d0_def, kyL_def, rec_eta, swapL_def, List.length_set, joinW_eq, guard_tt, guard_tf, guard_ft, guard_ff, Int.reduceEq, Int.reduceLT, Int.reduceLE, decide_false, decide_true, Bool.not_false, Bool.not_true, Bool.not_not, not_true_eq_false, not_false_eq_true, true_implies, false_implies, implies_true, and_true, true_and, reduceCtorEq, Bool.and_self, Bool.or_self, Bool.and_true, Bool.true_and, Bool.false_eq_true, if_true, if_false, go_sem, Nat.reduceEqDiff, Nat.reduceLT, Nat.reduceAdd, Nat.reduceSub, Nat.reduceLeDiff, List.reduceReplicate, Int.reduceToNat]
  refine ⟨fun hgt => ⟨⟨by omega, by omega⟩, by omega, ⟨by omega, by omega⟩, by omega, ⟨by omega, by omega⟩, by omega, ⟨by omega, by omega⟩, by omega, ?_⟩, fun hle => ⟨⟨by omega, by omega⟩, by omega, ⟨by omega, by omega⟩, by omega, ⟨by omega, by omega⟩, by omega, ⟨by omega, by omega⟩, by omega, ?_⟩⟩
  · rw [swapL_comm (by omega) (by omega)]
    exact hK _ j4 false (hp3.trans (SegP.swap (by omega) (by omega) (by omega) (by omega) (by omega))) (by omega) (by omega) (hS4.fin (by omega) (by omega))
  · have hij4 : i4 < j4 := by
      rcases Nat.lt_or_ge i4 j4 with h | h
      · exact h
      · exfalso
        obtain rfl : i4 = j4 := by omega
        have := k4 (Nat.le_refl _)
        have h' := g4 (by omega)
        unfold leB at h'
        rw [this] at h'; cases h'
    rw [e4 (by omega)]
    exact back (swapL l3 i4 j4, i4 + 1, j4 - 1) (by simp only; omega) rfl rfl ⟨hp3.trans (SegP.swap (by omega) (by omega) (by omega) (by omega) (by omega)), hS4.swap hij4 (by omega) (g4 (by omega)) (leB_of_lt (k4 (by omega)))⟩
end Lam
namespace Lam
set_option maxRecDepth 20000
open Go Go.Proofs
set_option linter.unusedVariables false
set_option linter.unnecessarySimpa false
set_option linter.unusedSimpArgs false
def slices_reverseRangeCmpFunc_api_Rec.K : Con := fun args h K => match args with
  | [a0, a1, a2, a3] => slices_reverseRangeCmpFunc_api_Rec.H (ctx [] [] slices_reverseRangeCmpFunc_api_Rec.loops) a0 a1 a2 a3 h K
  | _ => False
theorem slices_reverseRangeCmpFunc_api_Rec.spec : SSpec Try.prog 118 slices_reverseRangeCmpFunc_api_Rec.K := by
  refine SSpec.of (ctx_ok (F := []) (S := []) (by simp) (by simp) slices_reverseRangeCmpFunc_api_Rec.loops) slices_reverseRangeCmpFunc_api_Rec.at slices_reverseRangeCmpFunc_api_Rec.nm slices_reverseRangeCmpFunc_api_Rec.bd ?_
  intro args h K hC
  unfold slices_reverseRangeCmpFunc_api_Rec.K at hC
  split at hC
  · rw [slices_reverseRangeCmpFunc_api_Rec.eq]; exact hC
  · exact hC.elim
theorem reverse_K (A : SkT) (m : Bytes → Bool) (v : Nat) (l : List RecT) (T : List AObj) (hTn : OkT T) (n a b : Nat) (hn : n = l.length) (hab : a < b) (hbn : b ≤ n) (hr : roomy n) (K : AOut → List AObj → Prop)
    (hK : ∀ l', SegP a b l l' → K (.ret (.tup [])) (hpS A m v l' T)) :
    slices_reverseRangeCmpFunc_api_Rec.K [.sref false 2 v 0 n, .int .i64 a, .int .i64 b, hitF] (hpS A m v l T) K := by
  have hr' := hr
  unfold roomy at hr'
  have h2 : 2 < T.length + 1 + 1 + 1 := by omega
  have e1 : IntKind.i64.wrap ((b : Int) - 1) = ((b - 1 : Nat) : Int) := by rw [w64 (by omega) (by omega)]; omega
  unfold slices_reverseRangeCmpFunc_api_Rec.K slices_reverseRangeCmpFunc_api_Rec.H
  simp only [hpS, hTn _ _, SkT.norm, h2, e1, joinW_eq, guard_tt, guard_tf, guard_ft, guard_ff, Int.reduceEq, Int.reduceLT, Int.reduceLE, decide_false, decide_true, Bool.not_false, Bool.not_true, Bool.not_not, not_true_eq_false, not_false_eq_true, true_implies, false_implies, implies_true, and_true, true_and, reduceCtorEq, Bool.and_self, Bool.or_self, Bool.and_true, Bool.true_and, Bool.false_eq_true, if_true, if_false, go_sem, Nat.reduceEqDiff, Nat.reduceLT, Nat.reduceAdd, Nat.reduceSub, Nat.reduceLeDiff, List.reduceReplicate, Int.reduceToNat] at hK ⊢
  unfold slices_reverseRangeCmpFunc_api_Rec.L1
  refine loop2 (σ := List RecT × Nat × Nat) (fun s => .int .i64 s.2.1) (fun s => .int .i64 s.2.2) (fun s => .box A.V :: .map (.sb m) :: .row .own v (.recs s.1) :: T) (fun s => s.2.2) (fun s => a ≤ s.2.1 ∧ s.2.2 < b ∧ s.2.1 ≤ n ∧ SegP a b l s.1) (l, a, b - 1) rfl rfl ⟨Nat.le_refl _, by simp only; omega, by simp only; omega, SegP.refl⟩ ?_
  rintro I back ⟨l1, i, j⟩ ⟨hi, hj, hin, hp⟩
  simp only at hi hj hin hp ⊢
  have hl1 := hp.len
  by_cases hij : i < j
  · have e2 : IntKind.i64.wrap ((j : Int) - 1) = ((j - 1 : Nat) : Int) := by rw [w64 (by omega) (by omega)]; omega
    have d1 : decide ((i : Int) < (j : Int)) = true := decide_eq_true (by omega)
    simp only [hTn _ _, SkT.norm, h2, joinW_eq, d1, e2, wnext (show i < 4611686018427387904 by omega), Int.toNat_natCast, d0_def, rec_eta, swapL_def, List.length_set, joinW_eq, guard_tt, guard_tf, guard_ft, guard_ff, Int.reduceEq, Int.reduceLT, Int.reduceLE, decide_false, decide_true, Bool.not_false, Bool.not_true, Bool.not_not, not_true_eq_false, not_false_eq_true, true_implies, false_implies, implies_true, and_true, true_and, reduceCtorEq, Bool.and_self, Bool.or_self, Bool.and_true, Bool.true_and, Bool.false_eq_true, if_true, if_false, go_sem, Nat.reduceEqDiff, Nat.reduceLT, Nat.reduceAdd, Nat.reduceSub, Nat.reduceLeDiff, List.reduceReplicate, Int.reduceToNat]
    exact ⟨⟨by omega, by omega⟩, by omega, ⟨by omega, by omega⟩, by omega, ⟨by omega, by omega⟩, by omega, ⟨by omega, by omega⟩, by omega, back (swapL l1 i j, i + 1, j - 1) (by simp only; omega) rfl rfl ⟨by simp only; omega, by simp only; omega, by simp only; omega, hp.trans (SegP.swap (by omega) (by omega) (by omega) (by omega) (by omega))⟩⟩
  · have d1 : decide ((i : Int) < (j : Int)) = false := decide_eq_false (by omega)
    simp only [hTn _ _, SkT.norm, h2, joinW_eq, d1, joinW_eq, guard_tt, guard_tf, guard_ft, guard_ff, Int.reduceEq, Int.reduceLT, Int.reduceLE, decide_false, decide_true, Bool.not_false, Bool.not_true, Bool.not_not, not_true_eq_false, not_false_eq_true, true_implies, false_implies, implies_true, and_true, true_and, reduceCtorEq, Bool.and_self, Bool.or_self, Bool.and_true, Bool.true_and, Bool.false_eq_true, if_true, if_false, go_sem, Nat.reduceEqDiff, Nat.reduceLT, Nat.reduceAdd, Nat.reduceSub, Nat.reduceLeDiff, List.reduceReplicate, Int.reduceToNat]
    exact hK l1 hp
def slices_siftDownCmpFunc_api_Rec.K : Con := fun args h K => match args with
  | [a0, a1, a2, a3, a4] => slices_siftDownCmpFunc_api_Rec.H (ctx [(68, seek_Hits_1.C)] [] slices_siftDownCmpFunc_api_Rec.loops) a0 a1 a2 a3 a4 h K
  | _ => False
theorem slices_siftDownCmpFunc_api_Rec.spec : SSpec Try.prog 137 slices_siftDownCmpFunc_api_Rec.K := by
  refine SSpec.of (ctx_ok (F := [(68, seek_Hits_1.C)]) (S := []) (by simpa using seek_Hits_1.spec) (by simp) slices_siftDownCmpFunc_api_Rec.loops) slices_siftDownCmpFunc_api_Rec.at slices_siftDownCmpFunc_api_Rec.nm slices_siftDownCmpFunc_api_Rec.bd ?_
  intro args h K hC
  unfold slices_siftDownCmpFunc_api_Rec.K at hC
  split at hC
  · rw [slices_siftDownCmpFunc_api_Rec.eq]; exact hC
  · exact hC.elim
theorem sift_K (A : SkT) (m : Bytes → Bool) (v : Nat) (l : List RecT) (T : List AObj) (hTn : OkT T) (n lo hi a : Nat) (hn : n = l.length) (hlo : lo ≤ n) (hah : a + hi ≤ n) (hr : roomy n) (hh : HeapS a (lo + 1) hi l) (K : AOut → List AObj → Prop)
    (hK : ∀ l', SegP a (a + hi) l l' → HeapS a lo hi l' → K (.ret (.tup [])) (hpS A m v l' T)) :
    slices_siftDownCmpFunc_api_Rec.K [.sref false 2 v 0 n, .int .i64 lo, .int .i64 hi, .int .i64 a, hitF] (hpS A m v l T) K := by
  have hr' := hr
  unfold roomy at hr'
  have h2 : 2 < T.length + 1 + 1 + 1 := by omega
  unfold slices_siftDownCmpFunc_api_Rec.K slices_siftDownCmpFunc_api_Rec.H
  simp only [hpS, hTn _ _, SkT.norm, h2, joinW_eq, guard_tt, guard_tf, guard_ft, guard_ff, Int.reduceEq, Int.reduceLT, Int.reduceLE, decide_false, decide_true, Bool.not_false, Bool.not_true, Bool.not_not, not_true_eq_false, not_false_eq_true, true_implies, false_implies, implies_true, and_true, true_and, reduceCtorEq, Bool.and_self, Bool.or_self, Bool.and_true, Bool.true_and, Bool.false_eq_true, if_true, if_false, go_sem, Nat.reduceEqDiff, Nat.reduceLT, Nat.reduceAdd, Nat.reduceSub, Nat.reduceLeDiff, List.reduceReplicate, Int.reduceToNat] at hK ⊢
  unfold slices_siftDownCmpFunc_api_Rec.L1
  refine loop1 (σ := List RecT × Nat) (fun s => .int .i64 s.2) (fun s => .box A.V :: .map (.sb m) :: .row .own v (.recs s.1) :: T) (fun s => n + 1 - s.2) (fun s => lo ≤ s.2 ∧ s.2 ≤ n ∧ SegP a (a + hi) l s.1 ∧ SiftS a lo s.2 hi s.1) (l, lo) rfl rfl ⟨Nat.le_refl _, hlo, SegP.refl, SiftS.begin hh⟩ ?_
  rintro I back ⟨l1, r⟩ ⟨hr1, hr2, hp, hs⟩
  simp only at hr1 hr2 hp hs ⊢
  have hl1 := hp.len
  have e1 : IntKind.i64.wrap (2 * (r : Int)) = ((2 * r : Nat) : Int) := by rw [w64 (by omega) (by omega)]; omega
  have e2 : ∀ k : Nat, k ≤ 4 * n + 4 → IntKind.i64.wrap ((a : Int) + (k : Int)) = ((a + k : Nat) : Int) := fun k hk => by rw [w64 (by omega) (by omega)]; omega
  simp only [hTn _ _, SkT.norm, h2, joinW_eq, e1, wnext (show 2 * r < 4611686018427387904 by omega), wnext (show 2 * r + 1 < 4611686018427387904 by omega), e2 (2 * r + 1) (by omega), e2 r (by omega), wnext (show a + (2 * r + 1) < 4611686018427387904 by omega), joinW_eq, guard_tt, guard_tf, guard_ft, guard_ff, Int.reduceEq, Int.reduceLT, Int.reduceLE, decide_false, decide_true, Bool.not_false, Bool.not_true, Bool.not_not, not_true_eq_false, not_false_eq_true, true_implies, false_implies, implies_true, and_true, true_and, reduceCtorEq, Bool.and_self, Bool.or_self, Bool.and_true, Bool.true_and, Bool.false_eq_true, if_true, if_false, go_sem, Nat.reduceEqDiff, Nat.reduceLT, Nat.reduceAdd, Nat.reduceSub, Nat.reduceLeDiff, List.reduceReplicate, Int.reduceToNat]
  refine ⟨fun hge => hK l1 hp (hs.done fun c hc hch => by omega), fun hlt => ?_⟩
  have e3 : ∀ c : Nat, c ≤ 2 * r + 2 → IntKind.i64.wrap ((a : Int) + (c : Int)) = ((a + c : Nat) : Int) := fun c hc => e2 c (by omega)
  have hfin : ∀ c : Nat, (c = 2 * r + 1 ∨ c = 2 * r + 2) → c < hi → (∀ d, (d = 2 * r + 1 ∨ d = 2 * r + 2) → d < hi → leB (kyL l1 (a + d)) (kyL l1 (a + c))) → ltB (kyL l1 (a + r)) (kyL l1 (a + c)) = true →
      ∃ m_1, m_1 < n + 1 - r ∧ I m_1 [.int .i64 c] (.box A.V :: .map (.sb m) :: .row .own v (.recs (swapL l1 (a + r) (a + c))) :: T) := fun c h1 h3 h4 h5 =>
    back (swapL l1 (a + r) (a + c), c) (by simp only; omega) rfl rfl ⟨by simp only; omega, by simp only; omega, hp.trans (SegP.swap (by omega) (by omega) (by omega) (by omega) (by omega)), hs.step hr1 h1 h3 (by omega) (leB_of_lt h5) h4⟩
  have hstop : ∀ c : Nat, (c = 2 * r + 1 ∨ c = 2 * r + 2) → c < hi → (∀ d, (d = 2 * r + 1 ∨ d = 2 * r + 2) → d < hi → leB (kyL l1 (a + d)) (kyL l1 (a + c))) → ltB (kyL l1 (a + r)) (kyL l1 (a + c)) = false → HeapS a lo hi l1 := fun c h1 h3 h4 h5 =>
    hs.done fun d q1 q2 => leB_trans (h4 d q1 q2) h5
  by_cases h22 : 2 * r + 2 < hi
  rotate_left
  · have d1 : decide (((2 * r + 1 + 1 : Nat) : Int) < (hi : Int)) = false := decide_eq_false (by omega)
    have hle : ∀ d, (d = 2 * r + 1 ∨ d = 2 * r + 2) → d < hi → leB (kyL l1 (a + d)) (kyL l1 (a + (2 * r + 1))) := fun d q1 q2 => by
      obtain rfl : d = 2 * r + 1 := by omega
      exact leB_refl _
    cases hlt2 : ltB (kyL l1 (a + r)) (kyL l1 (a + (2 * r + 1))) with
    | false =>
      simp only [hTn _ _, SkT.norm, h2, joinW_eq, d1, hlt2, e3 (2 * r + 1) (by omega), Int.toNat_natCast, seek_Hits_1.C, d0_def, kyL_def, cmpI_neg, rec_eta, swapL_def, List.length_set, joinW_eq, guard_tt, guard_tf, guard_ft, guard_ff, Int.reduceEq, Int.reduceLT, Int.reduceLE, decide_false, decide_true, Bool.not_false, Bool.not_true, Bool.not_not, not_true_eq_false, not_false_eq_true, true_implies, false_implies, implies_true, and_true, true_and, reduceCtorEq, Bool.and_self, Bool.or_self, Bool.and_true, Bool.true_and, Bool.false_eq_true, if_true, if_false, go_sem, Nat.reduceEqDiff, Nat.reduceLT, Nat.reduceAdd, Nat.reduceSub, Nat.reduceLeDiff, List.reduceReplicate, Int.reduceToNat]
      exact ⟨⟨by omega, by omega⟩, by omega, ⟨by omega, by omega⟩, by omega, hK l1 hp (hstop _ (.inl rfl) (by omega) hle hlt2)⟩
    | true =>
      simp only [hTn _ _, SkT.norm, h2, joinW_eq, d1, hlt2, e3 (2 * r + 1) (by omega), Int.toNat_natCast, seek_Hits_1.C, d0_def, kyL_def, cmpI_neg, rec_eta, swapL_def, List.length_set, joinW_eq, guard_tt, guard_tf, guard_ft, guard_ff, Int.reduceEq, Int.reduceLT, Int.reduceLE, decide_false, decide_true, Bool.not_false, Bool.not_true, Bool.not_not, not_true_eq_false, not_false_eq_true, true_implies, false_implies, implies_true, and_true, true_and, reduceCtorEq, Bool.and_self, Bool.or_self, Bool.and_true, Bool.true_and, Bool.false_eq_true, if_true, if_false, go_sem, Nat.reduceEqDiff, Nat.reduceLT, Nat.reduceAdd, Nat.reduceSub, Nat.reduceLeDiff, List.reduceReplicate, Int.reduceToNat]
      exact ⟨⟨by omega, by omega⟩, by omega, ⟨by omega, by omega⟩, by omega, ⟨by omega, by omega⟩, by omega, ⟨by omega, by omega⟩, by omega, ⟨by omega, by omega⟩, by omega, ⟨by omega, by omega⟩, by omega, hfin _ (.inl rfl) (by omega) hle hlt2⟩
  · have d1 : decide (((2 * r + 1 + 1 : Nat) : Int) < (hi : Int)) = true := decide_eq_true (by omega)
    cases hch : ltB (kyL l1 (a + (2 * r + 1))) (kyL l1 (a + (2 * r + 1) + 1)) with
    | false =>
      have hle : ∀ d, (d = 2 * r + 1 ∨ d = 2 * r + 2) → d < hi → leB (kyL l1 (a + d)) (kyL l1 (a + (2 * r + 1))) := fun d q1 q2 => by
        rcases q1 with rfl | rfl
        · exact leB_refl _
        · exact hch
      cases hlt2 : ltB (kyL l1 (a + r)) (kyL l1 (a + (2 * r + 1))) with
      | false =>
        simp only [hTn _ _, SkT.norm, h2, joinW_eq, d1, hch, hlt2, e3 (2 * r + 1) (by omega), Int.toNat_natCast, seek_Hits_1.C, d0_def, kyL_def, cmpI_neg, rec_eta, swapL_def, List.length_set, joinW_eq, guard_tt, guard_tf, guard_ft, guard_ff, Int.reduceEq, Int.reduceLT, Int.reduceLE, decide_false, decide_true, Bool.not_false, Bool.not_true, Bool.not_not, not_true_eq_false, not_false_eq_true, true_implies, false_implies, implies_true, and_true, true_and, reduceCtorEq, Bool.and_self, Bool.or_self, Bool.and_true, Bool.true_and, Bool.false_eq_true, if_true, if_false, go_sem, Nat.reduceEqDiff, Nat.reduceLT, Nat.reduceAdd, Nat.reduceSub, Nat.reduceLeDiff, List.reduceReplicate, Int.reduceToNat]
        exact ⟨⟨by omega, by omega⟩, by omega, ⟨by omega, by omega⟩, by omega, ⟨by omega, by omega⟩, by omega, ⟨by omega, by omega⟩, by omega, hK l1 hp (hstop _ (.inl rfl) (by omega) hle hlt2)⟩
      | true =>
        simp only [hTn _ _, SkT.norm, h2, joinW_eq, d1, hch, hlt2, e3 (2 * r + 1) (by omega), Int.toNat_natCast, seek_Hits_1.C, d0_def, kyL_def, cmpI_neg, rec_eta, swapL_def, List.length_set, joinW_eq, guard_tt, guard_tf, guard_ft, guard_ff, Int.reduceEq, Int.reduceLT, Int.reduceLE, decide_false, decide_true, Bool.not_false, Bool.not_true, Bool.not_not, not_true_eq_false, not_false_eq_true, true_implies, false_implies, implies_true, and_true, true_and, reduceCtorEq, Bool.and_self, Bool.or_self, Bool.and_true, Bool.true_and, Bool.false_eq_true, if_true, if_false, go_sem, Nat.reduceEqDiff, Nat.reduceLT, Nat.reduceAdd, Nat.reduceSub, Nat.reduceLeDiff, List.reduceReplicate, Int.reduceToNat]
        exact ⟨⟨by omega, by omega⟩, by omega, ⟨by omega, by omega⟩, by omega, ⟨by omega, by omega⟩, by omega, ⟨by omega, by omega⟩, by omega, ⟨by omega, by omega⟩, by omega, ⟨by omega, by omega⟩, by omega, ⟨by omega, by omega⟩, by omega, ⟨by omega, by omega⟩, by omega, hfin _ (.inl rfl) (by omega) hle hlt2⟩
    | true =>
      have hle : ∀ d, (d = 2 * r + 1 ∨ d = 2 * r + 2) → d < hi → leB (kyL l1 (a + d)) (kyL l1 (a + (2 * r + 1 + 1))) := fun d q1 q2 => by
        rcases q1 with rfl | rfl
        · exact leB_of_lt hch
        · exact leB_refl _
      cases hlt2 : ltB (kyL l1 (a + r)) (kyL l1 (a + (2 * r + 1 + 1))) with
      | false =>
        simp only [hTn _ _, SkT.norm, h2, joinW_eq, d1, hch, hlt2, e3 (2 * r + 1 + 1) (by omega), Int.toNat_natCast, seek_Hits_1.C, d0_def, kyL_def, cmpI_neg, rec_eta, swapL_def, List.length_set, joinW_eq, guard_tt, guard_tf, guard_ft, guard_ff, Int.reduceEq, Int.reduceLT, Int.reduceLE, decide_false, decide_true, Bool.not_false, Bool.not_true, Bool.not_not, not_true_eq_false, not_false_eq_true, true_implies, false_implies, implies_true, and_true, true_and, reduceCtorEq, Bool.and_self, Bool.or_self, Bool.and_true, Bool.true_and, Bool.false_eq_true, if_true, if_false, go_sem, Nat.reduceEqDiff, Nat.reduceLT, Nat.reduceAdd, Nat.reduceSub, Nat.reduceLeDiff, List.reduceReplicate, Int.reduceToNat]
        exact ⟨⟨by omega, by omega⟩, by omega, ⟨by omega, by omega⟩, by omega, ⟨by omega, by omega⟩, by omega, ⟨by omega, by omega⟩, by omega, hK l1 hp (hstop _ (.inr rfl) (by omega) hle hlt2)⟩
      | true =>
        simp only [hTn _ _, SkT.norm, h2, joinW_eq, d1, hch, hlt2, e3 (2 * r + 1 + 1) (by omega), Int.toNat_natCast, seek_Hits_1.C, d0_def, kyL_def, cmpI_neg, rec_eta, swapL_def, List.length_set, joinW_eq, guard_tt, guard_tf, guard_ft, guard_ff, Int.reduceEq, Int.reduceLT, Int.reduceLE, decide_false, decide_true, Bool.not_false, Bool.not_true, Bool.not_not, not_true_eq_false, not_false_eq_true, true_implies, false_implies, implies_true, and_true, true_and, reduceCtorEq, Bool.and_self, Bool.or_self, Bool.and_true, Bool.true_and, Bool.false_eq_true, if_true, if_false, go_sem, Nat.reduceEqDiff, Nat.reduceLT, Nat.reduceAdd, Nat.reduceSub, Nat.reduceLeDiff, List.reduceReplicate, Int.reduceToNat]
        exact ⟨⟨by omega, by omega⟩, by omega, ⟨by omega, by omega⟩, by omega, ⟨by omega, by omega⟩, by omega, ⟨by omega, by omega⟩, by omega, ⟨by omega, by omega⟩, by omega, ⟨by omega, by omega⟩, by omega, ⟨by omega, by omega⟩, by omega, ⟨by omega, by omega⟩, by omega, hfin _ (.inr rfl) (by omega) hle hlt2⟩
def slices_heapSortCmpFunc_api_Rec.K : Con := fun args h K => match args with
  | [a0, a1, a2, a3] => slices_heapSortCmpFunc_api_Rec.H (ctx [] [(137, slices_siftDownCmpFunc_api_Rec.K)] slices_heapSortCmpFunc_api_Rec.loops) a0 a1 a2 a3 h K
  | _ => False
theorem slices_heapSortCmpFunc_api_Rec.spec : SSpec Try.prog 115 slices_heapSortCmpFunc_api_Rec.K := by
  refine SSpec.of (ctx_ok (F := []) (S := [(137, slices_siftDownCmpFunc_api_Rec.K)]) (by simp) (by simpa using slices_siftDownCmpFunc_api_Rec.spec) slices_heapSortCmpFunc_api_Rec.loops) slices_heapSortCmpFunc_api_Rec.at slices_heapSortCmpFunc_api_Rec.nm slices_heapSortCmpFunc_api_Rec.bd ?_
  intro args h K hC
  unfold slices_heapSortCmpFunc_api_Rec.K at hC
  split at hC
  · rw [slices_heapSortCmpFunc_api_Rec.eq]; exact hC
  · exact hC.elim
theorem heap_K (A : SkT) (m : Bytes → Bool) (v : Nat) (l : List RecT) (T : List AObj) (hTn : OkT T) (n a b : Nat) (hn : n = l.length) (hab : a < b) (hbn : b ≤ n) (hr : roomy n) (K : AOut → List AObj → Prop)
    (hK : ∀ l', SegP a b l l' → SegS a b l' → K (.ret (.tup [])) (hpS A m v l' T)) :
    slices_heapSortCmpFunc_api_Rec.K [.sref false 2 v 0 n, .int .i64 a, .int .i64 b, hitF] (hpS A m v l T) K := by
  have hr' := hr
  unfold roomy at hr'
  have h2 : 2 < T.length + 1 + 1 + 1 := by omega
  have e0 : IntKind.i64.wrap ((b : Int) - a) = ((b - a : Nat) : Int) := by rw [w64 (by omega) (by omega)]; omega
  have e1 : IntKind.i64.wrap (((b - a : Nat) : Int) - 1) = ((b - a - 1 : Nat) : Int) := by rw [w64 (by omega) (by omega)]; omega
  have e2 : IntKind.i64.wrap (((b - a - 1 : Nat) : Int).tdiv 2) = (((b - a - 1) / 2 + 1 : Nat) : Int) - 1 := by
    rw [Int.tdiv_eq_ediv_of_nonneg (by omega), w64 (by omega) (by omega)]; omega
  unfold slices_heapSortCmpFunc_api_Rec.K slices_heapSortCmpFunc_api_Rec.H
  simp only [hpS, hTn _ _, SkT.norm, h2, e0, e1, e2, joinW_eq, guard_tt, guard_tf, guard_ft, guard_ff, Int.reduceEq, Int.reduceLT, Int.reduceLE, decide_false, decide_true, Bool.not_false, Bool.not_true, Bool.not_not, not_true_eq_false, not_false_eq_true, true_implies, false_implies, implies_true, and_true, true_and, reduceCtorEq, Bool.and_self, Bool.or_self, Bool.and_true, Bool.true_and, Bool.false_eq_true, if_true, if_false, go_sem, Nat.reduceEqDiff, Nat.reduceLT, Nat.reduceAdd, Nat.reduceSub, Nat.reduceLeDiff, List.reduceReplicate, Int.reduceToNat] at hK ⊢
  unfold slices_heapSortCmpFunc_api_Rec.L1
  refine loop1 (σ := List RecT × Nat) (fun s => .int .i64 ((s.2 : Int) - 1)) (fun s => .box A.V :: .map (.sb m) :: .row .own v (.recs s.1) :: T) (fun s => s.2) (fun s => s.2 ≤ n ∧ SegP a b l s.1 ∧ HeapS a s.2 (b - a) s.1) (l, (b - a - 1) / 2 + 1) rfl rfl ⟨by simp only; omega, SegP.refl, fun i c q1 q2 q3 => by simp only at q1; omega⟩ ?_
  rintro I back ⟨l1, k⟩ ⟨hk, hp, hh⟩
  simp only at hk hp hh ⊢
  have hl1 := hp.len
  have e3 : IntKind.i64.wrap ((k : Int) - 1 - 1) = ((k - 1 : Nat) : Int) - 1 ∨ k = 0 := by
    rcases Nat.eq_zero_or_pos k with h | h
    · exact .inr h
    · left; rw [w64 (by omega) (by omega)]; omega
  by_cases hk0 : k = 0
  rotate_left
  · have e3 := e3.resolve_right hk0
    have d1 : decide ((0 : Int) ≤ (k : Int) - 1) = true := decide_eq_true (by omega)
    have e4 : (k : Int) - 1 = ((k - 1 : Nat) : Int) := by omega
    rw [e4] at e3 d1 ⊢
    simp only [hTn _ _, SkT.norm, h2, joinW_eq, d1, joinW_eq, guard_tt, guard_tf, guard_ft, guard_ff, Int.reduceEq, Int.reduceLT, Int.reduceLE, decide_false, decide_true, Bool.not_false, Bool.not_true, Bool.not_not, not_true_eq_false, not_false_eq_true, true_implies, false_implies, implies_true, and_true, true_and, reduceCtorEq, Bool.and_self, Bool.or_self, Bool.and_true, Bool.true_and, Bool.false_eq_true, if_true, if_false, go_sem, Nat.reduceEqDiff, Nat.reduceLT, Nat.reduceAdd, Nat.reduceSub, Nat.reduceLeDiff, List.reduceReplicate, Int.reduceToNat]
    refine sift_K A m v l1 T hTn n (k - 1) (b - a) a (by omega) (by omega) (by omega) hr (by rw [show k - 1 + 1 = k by omega]; exact hh) _ fun l2 p2 h2' => ?_
    simp only [hpS, hTn _ _, SkT.norm, h2, e3, joinW_eq, guard_tt, guard_tf, guard_ft, guard_ff, Int.reduceEq, Int.reduceLT, Int.reduceLE, decide_false, decide_true, Bool.not_false, Bool.not_true, Bool.not_not, not_true_eq_false, not_false_eq_true, true_implies, false_implies, implies_true, and_true, true_and, reduceCtorEq, Bool.and_self, Bool.or_self, Bool.and_true, Bool.true_and, Bool.false_eq_true, if_true, if_false, go_sem, Nat.reduceEqDiff, Nat.reduceLT, Nat.reduceAdd, Nat.reduceSub, Nat.reduceLeDiff, List.reduceReplicate, Int.reduceToNat]
    exact back (l2, k - 1) (by simp only; omega) rfl rfl ⟨by simp only; omega, hp.trans (p2.mono (Nat.le_refl _) (by omega)), h2'⟩
  subst hk0
  have e5 : IntKind.i64.wrap (((b - a : Nat) : Int) - 1) = ((b - a : Nat) : Int) - 1 := w64 (by omega) (by omega)
  simp only [hTn _ _, SkT.norm, h2, joinW_eq, e5, joinW_eq, guard_tt, guard_tf, guard_ft, guard_ff, Int.reduceEq, Int.reduceLT, Int.reduceLE, decide_false, decide_true, Bool.not_false, Bool.not_true, Bool.not_not, not_true_eq_false, not_false_eq_true, true_implies, false_implies, implies_true, and_true, true_and, reduceCtorEq, Bool.and_self, Bool.or_self, Bool.and_true, Bool.true_and, Bool.false_eq_true, if_true, if_false, go_sem, Nat.reduceEqDiff, Nat.reduceLT, Nat.reduceAdd, Nat.reduceSub, Nat.reduceLeDiff, List.reduceReplicate, Int.reduceToNat]
  refine ⟨fun h => absurd h (by omega), fun _ => ?_⟩
  unfold slices_heapSortCmpFunc_api_Rec.L2
  refine loop1 (σ := List RecT × Nat) (fun s => .int .i64 ((s.2 : Int) - 1)) (fun s => .box A.V :: .map (.sb m) :: .row .own v (.recs s.1) :: T) (fun s => s.2) (fun s => s.2 ≤ b - a ∧ SegP a b l s.1 ∧ DownS a s.2 b s.1) (l1, b - a) rfl rfl ⟨Nat.le_refl _, hp, DownS.begin (by omega) hh⟩ ?_
  rintro I2 back2 ⟨l2, k⟩ ⟨hk, hp2, hd⟩
  simp only at hk hp2 hd ⊢
  have hl2 := hp2.len
  by_cases hk0 : k = 0
  · subst hk0
    simp only [hTn _ _, SkT.norm, h2, joinW_eq, joinW_eq, guard_tt, guard_tf, guard_ft, guard_ff, Int.reduceEq, Int.reduceLT, Int.reduceLE, decide_false, decide_true, Bool.not_false, Bool.not_true, Bool.not_not, not_true_eq_false, not_false_eq_true, true_implies, false_implies, implies_true, and_true, true_and, reduceCtorEq, Bool.and_self, Bool.or_self, Bool.and_true, Bool.true_and, Bool.false_eq_true, if_true, if_false, go_sem, Nat.reduceEqDiff, Nat.reduceLT, Nat.reduceAdd, Nat.reduceSub, Nat.reduceLeDiff, List.reduceReplicate, Int.reduceToNat]
    exact ⟨fun h => absurd h (by omega), fun _ => hK l2 hp2 hd.fin⟩
  · have d1 : decide ((0 : Int) ≤ (k : Int) - 1) = true := decide_eq_true (by omega)
    have e3 : IntKind.i64.wrap ((k : Int) - 1 - 1) = ((k - 1 : Nat) : Int) - 1 := by rw [w64 (by omega) (by omega)]; omega
    have e4 : (k : Int) - 1 = ((k - 1 : Nat) : Int) := by omega
    have e6 : IntKind.i64.wrap ((a : Int) + ((k - 1 : Nat) : Int)) = ((a + (k - 1) : Nat) : Int) := by rw [w64 (by omega) (by omega)]; omega
    rw [e4] at e3 d1 ⊢
    have hd' : DownS a (k - 1 + 1) b l2 := by rw [show k - 1 + 1 = k by omega]; exact hd
    simp only [hTn _ _, SkT.norm, h2, joinW_eq, d1, e6, Int.toNat_natCast, d0_def, rec_eta, swapL_def, List.length_set, joinW_eq, guard_tt, guard_tf, guard_ft, guard_ff, Int.reduceEq, Int.reduceLT, Int.reduceLE, decide_false, decide_true, Bool.not_false, Bool.not_true, Bool.not_not, not_true_eq_false, not_false_eq_true, true_implies, false_implies, implies_true, and_true, true_and, reduceCtorEq, Bool.and_self, Bool.or_self, Bool.and_true, Bool.true_and, Bool.false_eq_true, if_true, if_false, go_sem, Nat.reduceEqDiff, Nat.reduceLT, Nat.reduceAdd, Nat.reduceSub, Nat.reduceLeDiff, List.reduceReplicate, Int.reduceToNat]
    refine ⟨⟨by omega, by omega⟩, by omega, ⟨by omega, by omega⟩, by omega, ⟨by omega, by omega⟩, by omega, ⟨by omega, by omega⟩, by omega, ?_⟩
    refine sift_K A m v (swapL l2 a (a + (k - 1))) T hTn n 0 (k - 1) a (by rw [swapL_len]; omega) (Nat.zero_le _) (by omega) hr (hd'.heap (by omega) (by omega)) _ fun l3 p3 h3 => ?_
    simp only [hpS, hTn _ _, SkT.norm, h2, e3, joinW_eq, guard_tt, guard_tf, guard_ft, guard_ff, Int.reduceEq, Int.reduceLT, Int.reduceLE, decide_false, decide_true, Bool.not_false, Bool.not_true, Bool.not_not, not_true_eq_false, not_false_eq_true, true_implies, false_implies, implies_true, and_true, true_and, reduceCtorEq, Bool.and_self, Bool.or_self, Bool.and_true, Bool.true_and, Bool.false_eq_true, if_true, if_false, go_sem, Nat.reduceEqDiff, Nat.reduceLT, Nat.reduceAdd, Nat.reduceSub, Nat.reduceLeDiff, List.reduceReplicate, Int.reduceToNat]
    exact back2 (l3, k - 1) (by simp only; omega) rfl rfl ⟨by simp only; omega, hp2.trans ((SegP.swap (Nat.le_refl _) (by omega) (by omega) (by omega) (by omega)).trans (p3.mono (Nat.le_refl _) (by omega))), hd'.next (by omega) (by omega) p3 h3⟩
theorem and_le {a b : Int} (h0 : 0 ≤ b) (h1 : b < 18446744073709551616) : 0 ≤ andI .u64 a b ∧ andI .u64 a b ≤ b := by
  unfold andI
  have h := u64_range ((BitVec.ofInt IntKind.u64.bits a &&& BitVec.ofInt IntKind.u64.bits b).toNat : Int)
  refine ⟨h.1, ?_⟩
  have e : (BitVec.ofInt IntKind.u64.bits b).toNat = b.toNat := by
    show (BitVec.ofInt 64 b).toNat = _
    rw [BitVec.toNat_ofInt]; omega
  have hle : (BitVec.ofInt IntKind.u64.bits a &&& BitVec.ofInt IntKind.u64.bits b).toNat ≤ b.toNat := by
    rw [BitVec.toNat_and, e]; exact Nat.and_le_right
  rw [u64_id (by omega) (by omega)]
  omega
def slices_xorshift_Next.K : Con := fun args h K => match args with
  | [a0] => slices_xorshift_Next.H (ctx [] [] slices_xorshift_Next.loops) a0 h K
  | _ => False
theorem slices_xorshift_Next.spec : SSpec Try.prog 139 slices_xorshift_Next.K := by
  refine SSpec.of (ctx_ok (F := []) (S := []) (by simp) (by simp) slices_xorshift_Next.loops) slices_xorshift_Next.at slices_xorshift_Next.nm slices_xorshift_Next.bd ?_
  intro args h K hC
  unfold slices_xorshift_Next.K at hC
  split at hC
  · rw [slices_xorshift_Next.eq]; exact hC
  · exact hC.elim
theorem next_K (A : SkT) (m : Bytes → Bool) (v : Nat) (l : List RecT) (T : List AObj) (hTn : OkT T) (x : Int) (K : AOut → List AObj → Prop)
    (hK : ∀ y : Int, K (.ret (.int .u64 y)) (hpS A m v l (T ++ [.box (.int .u64 y)]))) :
    slices_xorshift_Next.K [.ptr (T.length + 1 + 1 + 1) []] (hpS A m v l (T ++ [.box (.int .u64 x)])) K := by
  unfold slices_xorshift_Next.K slices_xorshift_Next.H
  simp only [hpS, get_last, set_last, List.map_cons, List.map_nil, joinW_eq, guard_tt, guard_tf, guard_ft, guard_ff, Int.reduceEq, Int.reduceLT, Int.reduceLE, decide_false, decide_true, Bool.not_false, Bool.not_true, Bool.not_not, not_true_eq_false, not_false_eq_true, true_implies, false_implies, implies_true, and_true, true_and, reduceCtorEq, Bool.and_self, Bool.or_self, Bool.and_true, Bool.true_and, Bool.false_eq_true, if_true, if_false, go_sem, Nat.reduceEqDiff, Nat.reduceLT, Nat.reduceAdd, Nat.reduceSub, Nat.reduceLeDiff, List.reduceReplicate, Int.reduceToNat] at hK ⊢
  exact hK _
end Lam
namespace Lam
set_option maxRecDepth 20000
open Go Go.Proofs
set_option linter.unusedVariables false
set_option linter.unnecessarySimpa false
set_option linter.unusedSimpArgs false
def lenN (n : Nat) : Nat := if n = 0 then 0 else if n < 2 then 1 else if n < 4 then 2 else if n < 8 then 3 else if n < 16 then 4 else if n < 32 then 5 else if n < 64 then 6 else if n < 128 then 7 else 8
def lenTb : Bytes := [0, 1, 2, 2, 3, 3, 3, 3, 4, 4, 4, 4, 4, 4, 4, 4, 5, 5, 5, 5, 5, 5, 5, 5, 5, 5, 5, 5, 5, 5, 5, 5, 6, 6, 6, 6, 6, 6, 6, 6, 6, 6, 6, 6, 6, 6, 6, 6, 6, 6, 6, 6, 6, 6, 6, 6, 6, 6, 6, 6, 6, 6, 6, 6, 7, 7, 7, 7, 7, 7, 7, 7, 7, 7, 7, 7, 7, 7, 7, 7, 7, 7, 7, 7, 7, 7, 7, 7, 7, 7, 7, 7, 7, 7, 7, 7, 7, 7, 7, 7, 7, 7, 7, 7, 7, 7, 7, 7, 7, 7, 7, 7, 7, 7, 7, 7, 7, 7, 7, 7, 7, 7, 7, 7, 7, 7, 7, 7, 8, 8, 8, 8, 8, 8, 8, 8, 8, 8, 8, 8, 8, 8, 8, 8, 8, 8, 8, 8, 8, 8, 8, 8, 8, 8, 8, 8, 8, 8, 8, 8, 8, 8, 8, 8, 8, 8, 8, 8, 8, 8, 8, 8, 8, 8, 8, 8, 8, 8, 8, 8, 8, 8, 8, 8, 8, 8, 8, 8, 8, 8, 8, 8, 8, 8, 8, 8, 8, 8, 8, 8, 8, 8, 8, 8, 8, 8, 8, 8, 8, 8, 8, 8, 8, 8, 8, 8, 8, 8, 8, 8, 8, 8, 8, 8, 8, 8, 8, 8, 8, 8, 8, 8, 8, 8, 8, 8, 8, 8, 8, 8, 8, 8, 8, 8, 8, 8, 8, 8, 8, 8, 8, 8, 8, 8, 8, 8]
theorem lenTb_is : ∀ k, k < 256 → (lenTb.getD k 0).toNat = lenN k := by decide +kernel
theorem lenN_pow : ∀ k, k < 256 → 8 ≤ k → 1 ≤ 2 ^ lenN k ∧ 2 ^ lenN k ≤ 2 * k ∧ lenN k ≤ 8 := by decide +kernel
theorem lenN_le : ∀ k, k < 256 → lenN k ≤ 8 := by decide +kernel
def math_bits_Len64.C : Contract
  | [.int .u64 n] => some (false, pD (0 ≤ n ∧ n < 256) (.int .i64 (lenN n.toNat)))
  | _ => none
set_option maxRecDepth 20000 in
theorem math_bits_Len64.spec : FSpec Try.prog 123 math_bits_Len64.C := by
  refine FSpec.of (ctx_ok (F := []) (S := []) (by simp) (by simp) math_bits_Len64.loops) math_bits_Len64.at math_bits_Len64.nm math_bits_Len64.bd ?_
  intro vs b S v news e hS
  unfold math_bits_Len64.C at e
  split at e
  rotate_left
  · cases e
  cases e
  rw [math_bits_Len64.eq]
  unfold math_bits_Len64.H
  simp (maxSteps := 4000000) only [go_sem, Nat.reduceEqDiff, Nat.reduceLT, Nat.reduceAdd, Nat.reduceSub, Nat.reduceLeDiff, List.reduceReplicate, Int.reduceToNat]
  rename_i n
  have d1 : decide ((4294967296 : Int) ≤ n) = false := decide_eq_false (by omega)
  have d2 : decide ((65536 : Int) ≤ n) = false := decide_eq_false (by omega)
  have d3 : decide ((256 : Int) ≤ n) = false := decide_eq_false (by omega)
  have g1 : ¬ (4294967296 : Int) ≤ n := by omega
  have g2 : IntKind.u8.wrap n = n := by simp [IntKind.wrap, IntKind.bits, IntKind.signed]; omega
  simp only [g1, d1, d2, d3, g2, joinW_eq, joinW_eq, guard_tt, guard_tf, guard_ft, guard_ff, Int.reduceEq, Int.reduceLT, Int.reduceLE, decide_false, decide_true, Bool.not_false, Bool.not_true, Bool.not_not, not_true_eq_false, not_false_eq_true, true_implies, false_implies, implies_true, and_true, true_and, reduceCtorEq, Bool.and_self, Bool.or_self, Bool.and_true, Bool.true_and, Bool.false_eq_true, if_true, if_false, go_sem, Nat.reduceEqDiff, Nat.reduceLT, Nat.reduceAdd, Nat.reduceSub, Nat.reduceLeDiff, List.reduceReplicate, Int.reduceToNat]
  refine ⟨hS, ?_⟩
  show Post false (.int .i64 (lenN n.toNat)) [] (.ret (.int .i64 (IntKind.i64.wrap (0 + IntKind.i64.wrap ((lenTb.getD n.toNat 0).toNat : Int))))) []
  have h8 := lenN_le n.toNat (by omega)
  rw [lenTb_is n.toNat (by omega), w64 (n := (lenN n.toNat : Int)) (by omega) (by omega), Int.zero_add, w64 (by omega) (by omega)]
  exact post_val rfl rfl
def math_bits_Len.C : Contract
  | [.int .u64 n] => some (false, pD (0 ≤ n ∧ n < 256) (.int .i64 (lenN n.toNat)))
  | _ => none
set_option maxRecDepth 20000 in
theorem math_bits_Len.spec : FSpec Try.prog 93 math_bits_Len.C := by
  refine FSpec.of (ctx_ok (F := [(123, math_bits_Len64.C)]) (S := []) (by simpa using math_bits_Len64.spec) (by simp) math_bits_Len.loops) math_bits_Len.at math_bits_Len.nm math_bits_Len.bd ?_
  intro vs b S v news e hS
  unfold math_bits_Len.C at e
  split at e
  rotate_left
  · cases e
  cases e
  rw [math_bits_Len.eq]
  unfold math_bits_Len.H
  simp (maxSteps := 4000000) only [go_sem, Nat.reduceEqDiff, Nat.reduceLT, Nat.reduceAdd, Nat.reduceSub, Nat.reduceLeDiff, List.reduceReplicate, Int.reduceToNat, math_bits_Len64.C]
  rename_i n
  exact ⟨hS, post_val rfl rfl⟩
def slices_nextPowerOfTwo.C : Contract
  | [.int .i64 n] => some (false, pD (0 ≤ n ∧ n < 256) (.int .u64 (2 ^ lenN n.toNat : Nat)))
  | _ => none
set_option maxRecDepth 20000 in
theorem slices_nextPowerOfTwo.spec : FSpec Try.prog 138 slices_nextPowerOfTwo.C := by
  refine FSpec.of (ctx_ok (F := [(93, math_bits_Len.C)]) (S := []) (by simpa using math_bits_Len.spec) (by simp) slices_nextPowerOfTwo.loops) slices_nextPowerOfTwo.at slices_nextPowerOfTwo.nm slices_nextPowerOfTwo.bd ?_
  intro vs b S v news e hS
  unfold slices_nextPowerOfTwo.C at e
  split at e
  rotate_left
  · cases e
  cases e
  rw [slices_nextPowerOfTwo.eq]
  unfold slices_nextPowerOfTwo.H
  simp (maxSteps := 4000000) only [go_sem, Nat.reduceEqDiff, Nat.reduceLT, Nat.reduceAdd, Nat.reduceSub, Nat.reduceLeDiff, List.reduceReplicate, Int.reduceToNat, math_bits_Len.C]
  rename_i n
  have g2 : IntKind.u64.wrap n = n := u64_id (by omega) (by omega)
  have h8 := lenN_le n.toNat (by omega)
  simp only [g2, math_bits_Len.C, joinW_eq, guard_tt, guard_tf, guard_ft, guard_ff, Int.reduceEq, Int.reduceLT, Int.reduceLE, decide_false, decide_true, Bool.not_false, Bool.not_true, Bool.not_not, not_true_eq_false, not_false_eq_true, true_implies, false_implies, implies_true, and_true, true_and, reduceCtorEq, Bool.and_self, Bool.or_self, Bool.and_true, Bool.true_and, Bool.false_eq_true, if_true, if_false, go_sem, Nat.reduceEqDiff, Nat.reduceLT, Nat.reduceAdd, Nat.reduceSub, Nat.reduceLeDiff, List.reduceReplicate, Int.reduceToNat]
  refine ⟨hS.2, by omega, ?_⟩
  have h2 : 2 ^ lenN n.toNat ≤ 2 ^ 8 := Nat.pow_le_pow_right (by decide) h8
  have e : (2 : Int) ^ lenN n.toNat = ((2 ^ lenN n.toNat : Nat) : Int) := by rw [Int.natCast_pow]; rfl
  rw [Nat.min_eq_left (by omega), Int.one_mul, e]
  generalize 2 ^ lenN n.toNat = P at *
  rw [u64_id (n := (P : Int)) (by omega) (by omega)]
  exact post_val rfl rfl
def slices_breakPatternsCmpFunc_api_Rec.K : Con := fun args h K => match args with
  | [a0, a1, a2, a3] => slices_breakPatternsCmpFunc_api_Rec.H (ctx [(138, slices_nextPowerOfTwo.C)] [(139, slices_xorshift_Next.K)] slices_breakPatternsCmpFunc_api_Rec.loops) a0 a1 a2 a3 h K
  | _ => False
theorem slices_breakPatternsCmpFunc_api_Rec.spec : SSpec Try.prog 116 slices_breakPatternsCmpFunc_api_Rec.K := by
  refine SSpec.of (ctx_ok (F := [(138, slices_nextPowerOfTwo.C)]) (S := [(139, slices_xorshift_Next.K)]) (by simpa using slices_nextPowerOfTwo.spec) (by simpa using slices_xorshift_Next.spec) slices_breakPatternsCmpFunc_api_Rec.loops) slices_breakPatternsCmpFunc_api_Rec.at slices_breakPatternsCmpFunc_api_Rec.nm slices_breakPatternsCmpFunc_api_Rec.bd ?_
  intro args h K hC
  unfold slices_breakPatternsCmpFunc_api_Rec.K at hC
  split at hC
  · rw [slices_breakPatternsCmpFunc_api_Rec.eq]; exact hC
  · exact hC.elim
theorem break_K (A : SkT) (m : Bytes → Bool) (v : Nat) (l : List RecT) (T : List AObj) (hTn : OkT T) (n a b : Nat) (hn : n = l.length) (hab : a + 8 ≤ b) (hbn : b ≤ n) (h255 : b < a + 256) (hr : roomy n) (K : AOut → List AObj → Prop)
    (hK : ∀ l' y, SegP a b l l' → K (.ret (.tup [])) (hpS A m v l' (T ++ [.box (.int .u64 y)]))) :
    slices_breakPatternsCmpFunc_api_Rec.K [.sref false 2 v 0 n, .int .i64 a, .int .i64 b, hitF] (hpS A m v l T) K := by
  have hr' := hr
  unfold roomy at hr'
  have h2 : 2 < T.length + 1 + 1 + 1 := by omega
  obtain ⟨len, hlen⟩ : ∃ len, b - a = len := ⟨_, rfl⟩
  have hl8 : 8 ≤ len := by omega
  have hpw := lenN_pow len (by omega) hl8
  obtain ⟨P, hP⟩ : ∃ P, 2 ^ lenN len = P := ⟨_, rfl⟩
  rw [hP] at hpw
  have e0 : IntKind.i64.wrap ((b : Int) - a) = (len : Int) := by rw [w64 (by omega) (by omega)]; omega
  have e1 : IntKind.i64.wrap ((len : Int).tdiv 4) = ((len / 4 : Nat) : Int) := by rw [Int.tdiv_eq_ediv_of_nonneg (by omega), w64 (by omega) (by omega)]; omega
  obtain ⟨q, hq⟩ : ∃ q, len / 4 = q := ⟨_, rfl⟩
  rw [hq] at e1
  have e2 : IntKind.i64.wrap ((q : Int) * 2) = ((q * 2 : Nat) : Int) := by rw [w64 (by omega) (by omega)]; omega
  have e3 : IntKind.i64.wrap ((a : Int) + ((q * 2 : Nat) : Int)) = ((a + q * 2 : Nat) : Int) := by rw [w64 (by omega) (by omega)]; omega
  have e4 : IntKind.i64.wrap (((a + q * 2 : Nat) : Int) - 1) = ((a + q * 2 - 1 : Nat) : Int) := by rw [w64 (by omega) (by omega)]; omega
  have e5 : IntKind.u64.wrap ((P : Int) - 1) = (P : Int) - 1 := u64_id (by omega) (by omega)
  have d1 : decide ((8 : Int) ≤ (len : Int)) = true := decide_eq_true (by omega)
  unfold slices_breakPatternsCmpFunc_api_Rec.K slices_breakPatternsCmpFunc_api_Rec.H
  have hT1 : ∀ y k h, (T ++ [AObj.box (.int .u64 y)]).map (normO k h) = T ++ [AObj.box (.int .u64 y)] := fun y => hTn.snoc .u64 y
  have hL1 : ∀ y : AObj, (T ++ [y]).length = T.length + 1 := fun y => by simp
  have hTk : ∀ y : AObj, (T ++ [y]).take (T.length + 1) = T ++ [y] := fun y => List.take_of_length_le (by simp)
  have h3 : T.length + 1 + 1 + 1 < T.length + 1 + 1 + 1 + 1 := by omega
  have h4 : 2 < T.length + 1 + 1 + 1 + 1 := by omega
  simp only [hpS, hTn _ _, hT1, hL1, get_last, set_last, SkT.norm, h2, h3, h4, e0, e1, e2, e3, e4, d1, joinW_eq, slices_nextPowerOfTwo.C, Int.toNat_natCast, hP, joinW_eq, guard_tt, guard_tf, guard_ft, guard_ff, Int.reduceEq, Int.reduceLT, Int.reduceLE, decide_false, decide_true, Bool.not_false, Bool.not_true, Bool.not_not, not_true_eq_false, not_false_eq_true, true_implies, false_implies, implies_true, and_true, true_and, reduceCtorEq, Bool.and_self, Bool.or_self, Bool.and_true, Bool.true_and, Bool.false_eq_true, if_true, if_false, go_sem, Nat.reduceEqDiff, Nat.reduceLT, Nat.reduceAdd, Nat.reduceSub, Nat.reduceLeDiff, List.reduceReplicate, Int.reduceToNat] at hK ⊢
  refine ⟨⟨by omega, by omega⟩, ?_⟩
  unfold slices_breakPatternsCmpFunc_api_Rec.L1
  refine loop1 (σ := List RecT × Nat × Int) (fun s => .int .i64 s.2.1) (fun s => .box A.V :: .map (.sb m) :: .row .own v (.recs s.1) :: (T ++ [.box (.int .u64 s.2.2)])) (fun s => a + q * 2 + 2 - s.2.1) (fun s => a + q * 2 - 1 ≤ s.2.1 ∧ s.2.1 ≤ a + q * 2 + 2 ∧ SegP a b l s.1) (l, a + q * 2 - 1, IntKind.u64.wrap len) rfl rfl ⟨Nat.le_refl _, by simp only; omega, SegP.refl⟩ ?_
  rintro I back ⟨l1, i, x⟩ ⟨hi1, hi2, hp⟩
  simp only at hi1 hi2 hp ⊢
  have hl1 := hp.len
  simp only [e1, e2, e3, wnext (show a + q * 2 < 4611686018427387904 by omega), hT1, hL1, SkT.norm, h2, h3, h4, joinW_eq, joinW_eq, guard_tt, guard_tf, guard_ft, guard_ff, Int.reduceEq, Int.reduceLT, Int.reduceLE, decide_false, decide_true, Bool.not_false, Bool.not_true, Bool.not_not, not_true_eq_false, not_false_eq_true, true_implies, false_implies, implies_true, and_true, true_and, reduceCtorEq, Bool.and_self, Bool.or_self, Bool.and_true, Bool.true_and, Bool.false_eq_true, if_true, if_false, go_sem, Nat.reduceEqDiff, Nat.reduceLT, Nat.reduceAdd, Nat.reduceSub, Nat.reduceLeDiff, List.reduceReplicate, Int.reduceToNat]
  refine ⟨fun hle => ?_, fun hgt => hK l1 x hp⟩
  refine next_K A m v l1 T hTn x _ fun y => ?_
  obtain ⟨z0, z1⟩ := and_le (a := y) (b := (P : Int) - 1) (by omega) (by omega)
  have hlt : ∀ c : Nat, c < len → ∃ m_1, m_1 < a + q * 2 + 2 - i ∧ I m_1 [.int .i64 ((i + 1 : Nat) : Int)] (.box A.V :: .map (.sb m) :: .row .own v (.recs (swapL l1 i (a + c))) :: (T ++ [.box (.int .u64 y)])) := fun c hc =>
    back (swapL l1 i (a + c), i + 1, y) (by simp only; omega) rfl rfl ⟨by simp only; omega, by simp only; omega, hp.trans (SegP.swap (by omega) (by omega) (by omega) (by omega) (by omega))⟩
  obtain ⟨c, hc⟩ : ∃ c : Nat, andI .u64 y ((P : Int) - 1) = c := ⟨(andI .u64 y ((P : Int) - 1)).toNat, by omega⟩
  have e6 : IntKind.i64.wrap (c : Int) = c := w64 (by omega) (by omega)
  have e7 : ∀ c : Nat, c < len → IntKind.i64.wrap ((a : Int) + (c : Int)) = ((a + c : Nat) : Int) := fun c hc => by rw [w64 (by omega) (by omega)]; omega
  have e8 : len ≤ c → IntKind.i64.wrap ((c : Int) - (len : Int)) = ((c - len : Nat) : Int) := fun h => by rw [w64 (by omega) (by omega)]; omega
  rw [hc] at z0 z1
  simp only [hpS, hT1, hL1, get_last, SkT.norm, h2, h3, h4, e5, hc, e6, joinW_eq, wnext (show i < 4611686018427387904 by omega), joinW_eq, guard_tt, guard_tf, guard_ft, guard_ff, Int.reduceEq, Int.reduceLT, Int.reduceLE, decide_false, decide_true, Bool.not_false, Bool.not_true, Bool.not_not, not_true_eq_false, not_false_eq_true, true_implies, false_implies, implies_true, and_true, true_and, reduceCtorEq, Bool.and_self, Bool.or_self, Bool.and_true, Bool.true_and, Bool.false_eq_true, if_true, if_false, go_sem, Nat.reduceEqDiff, Nat.reduceLT, Nat.reduceAdd, Nat.reduceSub, Nat.reduceLeDiff, List.reduceReplicate, Int.reduceToNat]
  refine ⟨fun hge => ?_, fun hnge => ?_⟩
  · have hcl : c - len < len := by omega
    simp only [hpS, hT1, hL1, SkT.norm, h2, h3, h4, e8 (by omega), e7 _ hcl, joinW_eq, Int.toNat_natCast, d0_def, kyL_def, rec_eta, swapL_def, List.length_set, hTk, wnext (show i < 4611686018427387904 by omega), joinW_eq, guard_tt, guard_tf, guard_ft, guard_ff, Int.reduceEq, Int.reduceLT, Int.reduceLE, decide_false, decide_true, Bool.not_false, Bool.not_true, Bool.not_not, not_true_eq_false, not_false_eq_true, true_implies, false_implies, implies_true, and_true, true_and, reduceCtorEq, Bool.and_self, Bool.or_self, Bool.and_true, Bool.true_and, Bool.false_eq_true, if_true, if_false, go_sem, Nat.reduceEqDiff, Nat.reduceLT, Nat.reduceAdd, Nat.reduceSub, Nat.reduceLeDiff, List.reduceReplicate, Int.reduceToNat]
    exact ⟨⟨by omega, by omega⟩, by omega, ⟨by omega, by omega⟩, by omega, ⟨by omega, by omega⟩, by omega, ⟨by omega, by omega⟩, by omega, hlt _ hcl⟩
  · have hcl : c < len := by omega
    simp only [hpS, hT1, hL1, SkT.norm, h2, h3, h4, e7 _ hcl, joinW_eq, Int.toNat_natCast, d0_def, kyL_def, rec_eta, swapL_def, List.length_set, hTk, wnext (show i < 4611686018427387904 by omega), joinW_eq, guard_tt, guard_tf, guard_ft, guard_ff, Int.reduceEq, Int.reduceLT, Int.reduceLE, decide_false, decide_true, Bool.not_false, Bool.not_true, Bool.not_not, not_true_eq_false, not_false_eq_true, true_implies, false_implies, implies_true, and_true, true_and, reduceCtorEq, Bool.and_self, Bool.or_self, Bool.and_true, Bool.true_and, Bool.false_eq_true, if_true, if_false, go_sem, Nat.reduceEqDiff, Nat.reduceLT, Nat.reduceAdd, Nat.reduceSub, Nat.reduceLeDiff, List.reduceReplicate, Int.reduceToNat]
    exact ⟨⟨by omega, by omega⟩, by omega, ⟨by omega, by omega⟩, by omega, ⟨by omega, by omega⟩, by omega, ⟨by omega, by omega⟩, by omega, hlt _ hcl⟩
end Lam
namespace Lam
open Go Go.Proofs
set_option linter.unusedVariables false
def slices_Equal_sl_int_int.loops : Nat → LInfo
  | 4 => ⟨[13], [false], [0, 1, 12], [], [], []⟩
  | _ => ⟨[], [], [], [], [], []⟩
def slices_Equal_sl_int_int.L1 (c : Ctx) (J1 : List AObj → Prop) (K : AOut → List AObj → Prop) (lv : List AV) (h0 : List AObj) (n0 : Nat) (c0 : AV) (c1 : AV) (c12 : AV) : Prop :=
  ∃ I : Nat → List AV → List AObj → Prop, (∃ n, I n lv h0) ∧ ∀ n h, ∀ t13, I n [t13] h →
    runD (binD T_int .lss t13 c12) h fun t14 h =>
    condW t14
    (runD (indexAddrD T_sl_int h c0 t13) h fun t18 h =>
    runD (fitD T_int (loadD h t18)) h fun t19 h =>
    runD (indexAddrD T_sl_int h c1 t13) h fun t22 h =>
    runD (fitD T_int (loadD h t22)) h fun t23 h =>
    runD (binD T_int .neq t19 t23) h fun t24 h =>
    condW t24
    (K (.ret (.bool false)) h)
    (runD (binD T_int .add t13 (.int .i64 1)) h fun t25 h =>
    (∃ m, m < n ∧ I m (AV.norms n0 h [t25]) (normH n0 h)) ∧ AV.norms n0 h [c0, c1, c12] = [c0, c1, c12]))
    (J1 h)
def slices_Equal_sl_int_int.H (c : Ctx) (t0 : AV) (t1 : AV) (h : List AObj) (K : AOut → List AObj → Prop) : Prop :=
  runD (lenD T_sl_int h t0) h fun t7 h =>
  runD (lenD T_sl_int h t1) h fun t9 h =>
  runD (binD T_int .neq t7 t9) h fun t10 h =>
  condW t10
  (K (.ret (.bool false)) h)
  (runD (lenD T_sl_int h t0) h fun t12 h =>
  joinW (fun (J1 : List AObj → Prop) =>
  promV [false] [(.int .i64 0)] h fun lv h => slices_Equal_sl_int_int.L1 c J1 K (AV.norms h.length h lv) (normH h.length h) h.length (AV.norm h.length h t0) (AV.norm h.length h t1) (AV.norm h.length h t12))
  (fun h => K (.ret (.bool true)) h))
def slices_Clone_sl_int_int.loops : Nat → LInfo
  | _ => ⟨[], [], [], [], [], []⟩
def slices_Clone_sl_int_int.H (c : Ctx) (t0 : AV) (h : List AObj) (K : AOut → List AObj → Prop) : Prop :=
  nilEqO (AV.len T_sl_int h t0) h fun t4 h =>
  condW t4
  (K (.ret (.sl true (.ints .i64 []))) h)
  (runD (buildSliceD T_sl_int 0 [] h.length) h fun t5 h =>
  runDM (appendD T_sl_int h t5 t0 h.length) (appendH T_sl_int h t5 t0) h fun t7 h =>
  K (.ret t7) h)
def slices_IndexFunc_sl_int_int.loops : Nat → LInfo
  | 2 => ⟨[8], [false], [0, 1, 7], [], [], []⟩
  | _ => ⟨[], [], [], [], [], []⟩
def slices_IndexFunc_sl_int_int.L1 (c : Ctx) (J1 : List AObj → Prop) (K : AOut → List AObj → Prop) (lv : List AV) (h0 : List AObj) (n0 : Nat) (c0 : AV) (c1 : AV) (c7 : AV) : Prop :=
  ∃ I : Nat → List AV → List AObj → Prop, (∃ n, I n lv h0) ∧ ∀ n h, ∀ t8, I n [t8] h →
    runD (binD T_int .lss t8 c7) h fun t9 h =>
    condW t9
    (runD (indexAddrD T_sl_int h c0 t8) h fun t14 h =>
    runD (fitD T_int (loadD h t14)) h fun t15 h =>
    callW false c c1 [t15] h (fun t16 h =>
    condW t16
    (K (.ret t8) h)
    (runD (binD T_int .add t8 (.int .i64 1)) h fun t18 h =>
    (∃ m, m < n ∧ I m (AV.norms n0 h [t18]) (normH n0 h)) ∧ AV.norms n0 h [c0, c1, c7] = [c0, c1, c7]))
    (fun v h => K (.pan v) h))
    (J1 h)
def slices_IndexFunc_sl_int_int.H (c : Ctx) (t0 : AV) (t1 : AV) (h : List AObj) (K : AOut → List AObj → Prop) : Prop :=
  runD (lenD T_sl_int h t0) h fun t7 h =>
  joinW (fun (J1 : List AObj → Prop) =>
  promV [false] [(.int .i64 0)] h fun lv h => slices_IndexFunc_sl_int_int.L1 c J1 K (AV.norms h.length h lv) (normH h.length h) h.length (AV.norm h.length h t0) (AV.norm h.length h t1) (AV.norm h.length h t7))
  (fun h => K (.ret (.int .i64 (-1))) h)
def slices_ContainsFunc_sl_int_int.loops : Nat → LInfo
  | _ => ⟨[], [], [], [], [], []⟩
def slices_ContainsFunc_sl_int_int.H (c : Ctx) (t0 : AV) (t1 : AV) (h : List AObj) (K : AOut → List AObj → Prop) : Prop :=
  callW false c (.fn (.func 89) [] []) [t0, t1] h (fun t7 h =>
  runD (binD T_int .geq t7 (.int .i64 0)) h fun t8 h =>
  K (.ret t8) h)
  (fun v h => K (.pan v) h)
theorem slices_Equal_sl_int_int.eq (F : List (FuncId × Contract)) (S : List (FuncId × Con)) (t0 t1 : AV) (h : List AObj) (K : AOut → List AObj → Prop) : funW (ctx F S slices_Equal_sl_int_int.loops) Try.f59 [t0, t1] h K = slices_Equal_sl_int_int.H (ctx F S slices_Equal_sl_int_int.loops) t0 t1 h K := by kernel_rfl
theorem slices_Clone_sl_int_int.eq (F : List (FuncId × Contract)) (S : List (FuncId × Con)) (t0 : AV) (h : List AObj) (K : AOut → List AObj → Prop) : funW (ctx F S slices_Clone_sl_int_int.loops) Try.f64 [t0] h K = slices_Clone_sl_int_int.H (ctx F S slices_Clone_sl_int_int.loops) t0 h K := by kernel_rfl
theorem slices_IndexFunc_sl_int_int.eq (F : List (FuncId × Contract)) (S : List (FuncId × Con)) (t0 t1 : AV) (h : List AObj) (K : AOut → List AObj → Prop) : funW (ctx F S slices_IndexFunc_sl_int_int.loops) Try.f89 [t0, t1] h K = slices_IndexFunc_sl_int_int.H (ctx F S slices_IndexFunc_sl_int_int.loops) t0 t1 h K := by kernel_rfl
theorem slices_ContainsFunc_sl_int_int.eq (F : List (FuncId × Contract)) (S : List (FuncId × Con)) (t0 t1 : AV) (h : List AObj) (K : AOut → List AObj → Prop) : funW (ctx F S slices_ContainsFunc_sl_int_int.loops) Try.f99 [t0, t1] h K = slices_ContainsFunc_sl_int_int.H (ctx F S slices_ContainsFunc_sl_int_int.loops) t0 t1 h K := by kernel_rfl
theorem slices_Equal_sl_int_int.at : Try.prog.funcs[59]? = some Try.f59 := by kernel_rfl
theorem slices_Equal_sl_int_int.nm : (Try.f59.name == "runtime.NumGoroutine") = false := by kernel_rfl
theorem slices_Equal_sl_int_int.bd : Try.f59.body.isNone = false := by kernel_rfl
theorem slices_Clone_sl_int_int.at : Try.prog.funcs[64]? = some Try.f64 := by kernel_rfl
theorem slices_Clone_sl_int_int.nm : (Try.f64.name == "runtime.NumGoroutine") = false := by kernel_rfl
theorem slices_Clone_sl_int_int.bd : Try.f64.body.isNone = false := by kernel_rfl
theorem slices_IndexFunc_sl_int_int.at : Try.prog.funcs[89]? = some Try.f89 := by kernel_rfl
theorem slices_IndexFunc_sl_int_int.nm : (Try.f89.name == "runtime.NumGoroutine") = false := by kernel_rfl
theorem slices_IndexFunc_sl_int_int.bd : Try.f89.body.isNone = false := by kernel_rfl
theorem slices_ContainsFunc_sl_int_int.at : Try.prog.funcs[99]? = some Try.f99 := by kernel_rfl
theorem slices_ContainsFunc_sl_int_int.nm : (Try.f99.name == "runtime.NumGoroutine") = false := by kernel_rfl
theorem slices_ContainsFunc_sl_int_int.bd : Try.f99.body.isNone = false := by kernel_rfl
end Lam
namespace Lam
open Go Go.Proofs
set_option linter.unusedVariables false
def fast_Slots.loops : Nat → LInfo
  | 1 => ⟨[], [], [], [(4, none), (5, some [10, 15])], [], []⟩
  | _ => ⟨[], [], [], [], [], []⟩
def fast_Slots.H (c : Ctx) (t0 : AV) (t1 : AV) (h : List AObj) (K : AOut → List AObj → Prop) : Prop :=
  callW false c (.fn (.func 88) [] []) [t1] h (fun t8 h =>
  runD (unD .not t8) h fun t9 h =>
  joinW (fun (J1 : AV → AV → List AObj → Prop) =>
  guardW t9 false
  (runD (binD T_int .add t1 (.int .i64 16)) h fun t12 h =>
    runD (lenD T_sl_int h t0) h fun t14 h =>
    runD (binD T_int .gtr t12 t14) h fun t15 h =>
    J1 (.bool false) t15 h)
  (J1 (.bool true) .und h))
  (fun t10 t15 h => runD (pickD t10 (.bool true) t15) h fun t16 h =>
  condW t16
  (K (.ret (.sl true (.ints .i64 []))) h)
  (runD (binD T_int .add t1 (.int .i64 3)) h fun t19 h =>
  runD (binD T_int .add t1 (.int .i64 16)) h fun t21 h =>
  runD (binD T_int .add t1 (.int .i64 16)) h fun t23 h =>
  runD (sliceD T_sl_int h t0 (some t19) (some t21) (some t23)) h fun t24 h =>
  callW false c (.fn (.func 89) [] []) [t24, (.fn (.func 90) [] [])] h (fun t26 h =>
  runD (binD T_int .lss t26 (.int .i64 0)) h fun t28 h =>
  joinW (fun (J2 : AV → List AObj → Prop) =>
  condW t28
  (runD (lenD T_sl_int h t24) h fun t30 h =>
    J2 t30 h)
  (J2 t26 h))
  (fun t6 h => runD (sliceD T_sl_int h t24 none (some t6) none) h fun t33 h =>
  callW false c (.fn (.func 64) [] []) [t33] h (fun t34 h =>
  K (.ret t34) h)
  (fun v h => K (.pan v) h)))
  (fun v h => K (.pan v) h))))
  (fun v h => K (.pan v) h)
def fast_Place.loops : Nat → LInfo
  | 1 => ⟨[], [], [], [(4, none), (2, some [8, 10]), (2, none), (2, some [12, 14])], [], []⟩
  | _ => ⟨[], [], [], [], [], []⟩
def fast_Place.H (c : Ctx) (t0 : AV) (t1 : AV) (h : List AObj) (K : AOut → List AObj → Prop) : Prop :=
  callW false c (.fn (.func 88) [] []) [t0] h (fun t6 h =>
  runD (unD .not t6) h fun t7 h =>
  joinW (fun (J1 : AV → AV → List AObj → Prop) =>
  guardW t7 false
  (runD (binD T_int .lss t1 (.int .i64 0)) h fun t10 h =>
    J1 (.bool false) t10 h)
  (J1 (.bool true) .und h))
  (fun t8 t10 h => runD (pickD t8 (.bool true) t10) h fun t11 h =>
  joinW (fun (J2 : AV → AV → List AObj → Prop) =>
  guardW t11 false
  (runD (binD T_int .geq t1 (.int .i64 13)) h fun t14 h =>
    J2 (.bool false) t14 h)
  (J2 (.bool true) .und h))
  (fun t12 t14 h => runD (pickD t12 (.bool true) t14) h fun t15 h =>
  condW t15
  (K (.ret (.int .i64 (-1))) h)
  (runD (binD T_int .add t0 (.int .i64 3)) h fun t17 h =>
  runD (binD T_int .add t17 t1) h fun t19 h =>
  K (.ret t19) h))))
  (fun v h => K (.pan v) h)
def fast_node.loops : Nat → LInfo
  | 1 => ⟨[], [], [], [(3, none), (3, some [5, 8]), (2, none), (3, some [10, 13])], [], []⟩
  | _ => ⟨[], [], [], [], [], []⟩
def fast_node.H (c : Ctx) (t0 : AV) (h : List AObj) (K : AOut → List AObj → Prop) : Prop :=
  runD (binD T_int .geq t0 (.int .i64 0)) h fun t4 h =>
  joinW (fun (J1 : AV → AV → List AObj → Prop) =>
  guardW t4 true
  (runD (binD T_int .add t0 (.int .i64 16)) h fun t7 h =>
    runD (binD T_int .leq t7 (.int .i64 4096)) h fun t8 h =>
    J1 (.bool true) t8 h)
  (J1 (.bool false) .und h))
  (fun t5 t8 h => runD (pickD t5 t8 (.bool false)) h fun t9 h =>
  joinW (fun (J2 : AV → AV → List AObj → Prop) =>
  guardW t9 true
  (runD (binD T_int .rem t0 (.int .i64 16)) h fun t12 h =>
    runD (binD T_int .eql t12 (.int .i64 0)) h fun t13 h =>
    J2 (.bool true) t13 h)
  (J2 (.bool false) .und h))
  (fun t10 t13 h => runD (pickD t10 t13 (.bool false)) h fun t14 h =>
  K (.ret t14) h))
def fast_Slots_1.loops : Nat → LInfo
  | _ => ⟨[], [], [], [], [], []⟩
def fast_Slots_1.H (c : Ctx) (t0 : AV) (h : List AObj) (K : AOut → List AObj → Prop) : Prop :=
  runD (binD T_int .lss t0 (.int .i64 1)) h fun t4 h =>
  K (.ret t4) h
def fast_may_1.loops : Nat → LInfo
  | _ => ⟨[], [], [], [], [], []⟩
def fast_may_1.H (c : Ctx) (t0 : AV) (h : List AObj) (K : AOut → List AObj → Prop) : Prop :=
  runD (binD T_int .lss t0 (.int .i64 1)) h fun t4 h =>
  K (.ret t4) h
theorem fast_Slots.eq (F : List (FuncId × Contract)) (S : List (FuncId × Con)) (t0 t1 : AV) (h : List AObj) (K : AOut → List AObj → Prop) : funW (ctx F S fast_Slots.loops) Try.f58 [t0, t1] h K = fast_Slots.H (ctx F S fast_Slots.loops) t0 t1 h K := by kernel_rfl
theorem fast_Place.eq (F : List (FuncId × Contract)) (S : List (FuncId × Con)) (t0 t1 : AV) (h : List AObj) (K : AOut → List AObj → Prop) : funW (ctx F S fast_Place.loops) Try.f63 [t0, t1] h K = fast_Place.H (ctx F S fast_Place.loops) t0 t1 h K := by kernel_rfl
theorem fast_node.eq (F : List (FuncId × Contract)) (S : List (FuncId × Con)) (t0 : AV) (h : List AObj) (K : AOut → List AObj → Prop) : funW (ctx F S fast_node.loops) Try.f88 [t0] h K = fast_node.H (ctx F S fast_node.loops) t0 h K := by kernel_rfl
theorem fast_Slots_1.eq (F : List (FuncId × Contract)) (S : List (FuncId × Con)) (t0 : AV) (h : List AObj) (K : AOut → List AObj → Prop) : funW (ctx F S fast_Slots_1.loops) Try.f90 [t0] h K = fast_Slots_1.H (ctx F S fast_Slots_1.loops) t0 h K := by kernel_rfl
theorem fast_may_1.eq (F : List (FuncId × Contract)) (S : List (FuncId × Con)) (t0 : AV) (h : List AObj) (K : AOut → List AObj → Prop) : funW (ctx F S fast_may_1.loops) Try.f106 [t0] h K = fast_may_1.H (ctx F S fast_may_1.loops) t0 h K := by kernel_rfl
theorem fast_Slots.at : Try.prog.funcs[58]? = some Try.f58 := by kernel_rfl
theorem fast_Slots.nm : (Try.f58.name == "runtime.NumGoroutine") = false := by kernel_rfl
theorem fast_Slots.bd : Try.f58.body.isNone = false := by kernel_rfl
theorem fast_Place.at : Try.prog.funcs[63]? = some Try.f63 := by kernel_rfl
theorem fast_Place.nm : (Try.f63.name == "runtime.NumGoroutine") = false := by kernel_rfl
theorem fast_Place.bd : Try.f63.body.isNone = false := by kernel_rfl
theorem fast_node.at : Try.prog.funcs[88]? = some Try.f88 := by kernel_rfl
theorem fast_node.nm : (Try.f88.name == "runtime.NumGoroutine") = false := by kernel_rfl
theorem fast_node.bd : Try.f88.body.isNone = false := by kernel_rfl
theorem fast_Slots_1.at : Try.prog.funcs[90]? = some Try.f90 := by kernel_rfl
theorem fast_Slots_1.nm : (Try.f90.name == "runtime.NumGoroutine") = false := by kernel_rfl
theorem fast_Slots_1.bd : Try.f90.body.isNone = false := by kernel_rfl
theorem fast_may_1.at : Try.prog.funcs[106]? = some Try.f106 := by kernel_rfl
theorem fast_may_1.nm : (Try.f106.name == "runtime.NumGoroutine") = false := by kernel_rfl
theorem fast_may_1.bd : Try.f106.body.isNone = false := by kernel_rfl
end Lam
namespace Lam
open Go Go.Proofs
set_option linter.unusedVariables false
def node_Read.loops : Nat → LInfo
  | 1 => ⟨[], [], [], [(3, none), (5, some [12, 17])], [], []⟩
  | 6 => ⟨[], [], [], [(3, none), (4, some [52, 56])], [], []⟩
  | _ => ⟨[], [], [], [], [], []⟩
def node_Read.H (c : Ctx) (t0 : AV) (t1 : AV) (h : List AObj) (K : AOut → List AObj → Prop) : Prop :=
  allocW T_api_Node h fun t4 h =>
  runD (binD T_int .lss t1 (.int .i64 0)) h fun t11 h =>
  joinW (fun (J1 : AV → AV → List AObj → Prop) =>
  guardW t11 false
  (runD (lenD T_sl_int h t0) h fun t15 h =>
    runD (binD T_int .quo t15 (.int .i64 16)) h fun t16 h =>
    runD (binD T_int .geq t1 t16) h fun t17 h =>
    J1 (.bool false) t17 h)
  (J1 (.bool true) .und h))
  (fun t12 t17 h => runD (pickD t12 (.bool true) t17) h fun t18 h =>
  condW t18
  (runD (buildD T_api_Node []) h fun t19 h =>
    runH (storeH T_api_Node h t4 t19) h fun _ h =>
    loadRes (fitD T_api_Node (loadD h t4)) fun r0 => K (.ret (.tup [r0, (.int .i64 1)])) h)
  (runD (binD T_int .mul (.int .i64 16) t1) h fun t22 h =>
  runD (binD T_int .add t1 (.int .i64 1)) h fun t24 h =>
  runD (binD T_int .mul (.int .i64 16) t24) h fun t25 h =>
  runD (sliceD T_sl_int h t0 (some t22) (some t25) none) h fun t26 h =>
  runD (indexAddrD T_sl_int h t26 (.int .i64 0)) h fun t28 h =>
  runD (fitD T_int (loadD h t28)) h fun t29 h =>
  runD (binD T_int .and t29 (.int .i64 15)) h fun t30 h =>
  runD (indexAddrD T_sl_int h t26 (.int .i64 0)) h fun t32 h =>
  runD (fitD T_int (loadD h t32)) h fun t33 h =>
  runD (binD T_int .andNot t33 (.int .i64 1152921504606846976)) h fun t34 h =>
  runD (binD T_int .shr t34 (.int .u64 4)) h fun t35 h =>
  runD (indexAddrD T_sl_int h t26 (.int .i64 1)) h fun t37 h =>
  runD (fitD T_int (loadD h t37)) h fun t38 h =>
  runD (indexAddrD T_sl_int h t26 (.int .i64 2)) h fun t40 h =>
  runD (fitD T_int (loadD h t40)) h fun t41 h =>
  callW false c.noS (.fn (.func 58) [] []) [t26, (.int .i64 0)] h (fun t43 h =>
  runD (buildD T_api_Node [(0, t30), (1, t35), (2, t38), (3, t41), (4, t43)]) h fun t44 h =>
  allocW T_api_Node h fun t7 h =>
  runH (storeH T_api_Node h t7 t44) h fun _ h =>
  runD (fitD T_api_Node (loadD h t7)) h fun t46 h =>
  callW false c (.fn (.func 35) [] []) [t46] h (fun t47 h =>
  runD (extractD t47 0) h fun t48 h =>
  runD (extractD t47 1) h fun t49 h =>
  runD (binD T_api_Errno .neq t49 (.int .i64 0)) h fun t51 h =>
  joinW (fun (J2 : AV → AV → List AObj → Prop) =>
  guardW t51 false
  (callW false c (.fn (.func 59) [] []) [t48, t26] h (fun t55 h =>
    runD (unD .not t55) h fun t56 h =>
    J2 (.bool false) t56 h)
    (fun v h => K (.pan v) h))
  (J2 (.bool true) .und h))
  (fun t52 t56 h => runD (pickD t52 (.bool true) t56) h fun t57 h =>
  condW t57
  (runD (buildD T_api_Node []) h fun t58 h =>
    runH (storeH T_api_Node h t4 t58) h fun _ h =>
    loadRes (fitD T_api_Node (loadD h t4)) fun r0 => K (.ret (.tup [r0, (.int .i64 90)])) h)
  (runD (fitD T_api_Node (loadD h t7)) h fun t59 h =>
  runH (storeH T_api_Node h t4 t59) h fun _ h =>
  loadRes (fitD T_api_Node (loadD h t4)) fun r0 => K (.ret (.tup [r0, (.int .i64 0)])) h)))
  (fun v h => K (.pan v) h))
  (fun _ _ => False)))
def node_Words.loops : Nat → LInfo
  | _ => ⟨[], [], [], [], [], []⟩
def node_Words.H (c : Ctx) (t0 : AV) (h : List AObj) (K : AOut → List AObj → Prop) : Prop :=
  boxW T_api_Node t0 h fun t1 h =>
  runD (fitD T_api_Node (loadD h t1)) h fun t5 h =>
  callW false c (.fn (.func 71) [] []) [t5] h (fun t6 h =>
  runD (unD .not t6) h fun t7 h =>
  condW t7
  (K (.ret (.tup [(.sl true (.ints .i64 [])), (.int .i64 90)])) h)
  (runD (makeSliceD T_sl_int (.int .i64 16) (.int .i64 16) h.length) h fun t8 h =>
  runD (fitD T_api_Node (loadD h t1)) h fun t12 h =>
  callW false c.noS (.fn (.func 72) [] []) [t12] h (fun t13 h =>
  runD (fieldAddrD T_api_Node t1 2) h fun t14 h =>
  runD (fitD T_int (loadD h t14)) h fun t15 h =>
  runD (fieldAddrD T_api_Node t1 3) h fun t16 h =>
  runD (fitD T_int (loadD h t16)) h fun t17 h =>
  runD (indexAddrD T_sl_int h t8 (.int .i64 0)) h fun t18 h =>
  runH (storeH T_int h t18 t13) h fun _ h =>
  runD (indexAddrD T_sl_int h t8 (.int .i64 1)) h fun t19 h =>
  runH (storeH T_int h t19 t15) h fun _ h =>
  runD (indexAddrD T_sl_int h t8 (.int .i64 2)) h fun t20 h =>
  runH (storeH T_int h t20 t17) h fun _ h =>
  sepB t18 [t14] = true ∧ sepB t18 [t16] = true ∧ sepB t19 [t16] = true ∧ runD (sliceD T_sl_int h t8 (some (.int .i64 3)) none none) h fun t22 h =>
  runD (fieldAddrD T_api_Node t1 4) h fun t23 h =>
  runD (fitD T_sl_int (loadD h t23)) h fun t24 h =>
  runM (copyH T_sl_int h t22 t24) h fun t25 h =>
  K (.ret (.tup [t8, (.int .i64 0)])) h)
  (fun _ _ => False)))
  (fun v h => K (.pan v) h)
def node_Check.loops : Nat → LInfo
  | 10 => ⟨[], [], [], [(2, none), (4, some [32, 36])], [], []⟩
  | _ => ⟨[], [], [], [], [], []⟩
def node_Check.H (c : Ctx) (t0 : AV) (h : List AObj) (K : AOut → List AObj → Prop) : Prop :=
  boxW T_api_Node t0 h fun t1 h =>
  joinW (fun (J1 : AV → List AObj → Prop) =>
  joinW (fun (J2 : List AObj → Prop) =>
  joinW (fun (J3 : List AObj → Prop) =>
  runD (fieldAddrD T_api_Node t1 0) h fun t5 h =>
  runD (fitD T_int (loadD h t5)) h fun t6 h =>
  runD (binD T_int .lss t6 (.int .i64 0)) h fun t7 h =>
  joinW (fun (J4 : AV → List AObj → Prop) =>
  condW t7
  (J4 t7 h)
  (runD (fieldAddrD T_api_Node t1 0) h fun t8 h =>
    runD (fitD T_int (loadD h t8)) h fun t9 h =>
    runD (binD T_int .gtr t9 (.int .i64 9)) h fun t10 h =>
    J4 t10 h))
  (fun t4 h => condW t4
  (J3 h)
  (runD (fieldAddrD T_api_Node t1 1) h fun t12 h =>
  runD (fitD T_int (loadD h t12)) h fun t13 h =>
  runD (binD T_int .lss t13 (.int .i64 0)) h fun t14 h =>
  joinW (fun (J5 : AV → List AObj → Prop) =>
  condW t14
  (J5 t14 h)
  (runD (fieldAddrD T_api_Node t1 1) h fun t15 h =>
    runD (fitD T_int (loadD h t15)) h fun t16 h =>
    runD (binD T_int .gtr t16 (.int .i64 1099511627776)) h fun t17 h =>
    J5 t17 h))
  (fun t11 h => condW t11
  (J3 h)
  (runD (fieldAddrD T_api_Node t1 2) h fun t19 h =>
  runD (fitD T_int (loadD h t19)) h fun t20 h =>
  callW false c (.fn (.func 98) [] []) [t20] h (fun t21 h =>
  runD (unD .not t21) h fun t22 h =>
  joinW (fun (J6 : AV → List AObj → Prop) =>
  condW t22
  (J6 t22 h)
  (runD (fieldAddrD T_api_Node t1 3) h fun t23 h =>
    runD (fitD T_int (loadD h t23)) h fun t24 h =>
    callW false c (.fn (.func 98) [] []) [t24] h (fun t25 h =>
    runD (unD .not t25) h fun t26 h =>
    joinW (fun (J7 : AV → List AObj → Prop) =>
    condW t26
    (J7 t26 h)
    (runD (fieldAddrD T_api_Node t1 4) h fun t27 h =>
      runD (fitD T_sl_int (loadD h t27)) h fun t28 h =>
      runD (lenD T_sl_int h t28) h fun t29 h =>
      runD (binD T_int .gtr t29 (.int .i64 13)) h fun t30 h =>
      J7 t30 h))
    (fun t18 h => J6 t18 h))
    (fun v h => K (.pan v) h)))
  (fun t18 h => condW t18
  (J2 h)
  (J1 (.bool true) h)))
  (fun v h => K (.pan v) h))))))
  (fun h => J2 h))
  (fun h => J1 (.bool false) h))
  (fun t3 h => joinW (fun (J8 : AV → AV → List AObj → Prop) =>
  guardW t3 true
  (runD (fieldAddrD T_api_Node t1 4) h fun t33 h =>
    runD (fitD T_sl_int (loadD h t33)) h fun t34 h =>
    callW false c (.fn (.func 99) [] []) [t34, (.fn (.func 100) [] [])] h (fun t35 h =>
    runD (unD .not t35) h fun t36 h =>
    J8 (.bool true) t36 h)
    (fun v h => K (.pan v) h))
  (J8 (.bool false) .und h))
  (fun t32 t36 h => runD (pickD t32 t36 (.bool false)) h fun t37 h =>
  K (.ret t37) h))
def node_first.loops : Nat → LInfo
  | _ => ⟨[], [], [], [], [], []⟩
def node_first.H (c : Ctx) (t0 : AV) (h : List AObj) (K : AOut → List AObj → Prop) : Prop :=
  boxW T_api_Node t0 h fun t1 h =>
  runD (fieldAddrD T_api_Node t1 1) h fun t3 h =>
  runD (fitD T_int (loadD h t3)) h fun t4 h =>
  runD (binD T_int .shl t4 (.int .u64 4)) h fun t5 h =>
  runD (binD T_int .or (.int .i64 1152921504606846976) t5) h fun t6 h =>
  runD (fieldAddrD T_api_Node t1 0) h fun t7 h =>
  runD (fitD T_int (loadD h t7)) h fun t8 h =>
  runD (binD T_int .or t6 t8) h fun t9 h =>
  K (.ret t9) h
def node_block.loops : Nat → LInfo
  | 1 => ⟨[], [], [], [(3, none), (2, some [5, 7])], [], []⟩
  | _ => ⟨[], [], [], [], [], []⟩
def node_block.H (c : Ctx) (t0 : AV) (h : List AObj) (K : AOut → List AObj → Prop) : Prop :=
  runD (binD T_int .geq t0 (.int .i64 0)) h fun t4 h =>
  joinW (fun (J1 : AV → AV → List AObj → Prop) =>
  guardW t4 true
  (runD (binD T_int .lss t0 (.int .i64 256)) h fun t7 h =>
    J1 (.bool true) t7 h)
  (J1 (.bool false) .und h))
  (fun t5 t7 h => runD (pickD t5 t7 (.bool false)) h fun t8 h =>
  K (.ret t8) h)
def node_Check_1.loops : Nat → LInfo
  | 1 => ⟨[], [], [], [(3, none), (3, some [5, 8])], [], []⟩
  | _ => ⟨[], [], [], [], [], []⟩
def node_Check_1.H (c : Ctx) (t0 : AV) (h : List AObj) (K : AOut → List AObj → Prop) : Prop :=
  runD (binD T_int .eql t0 (.int .i64 0)) h fun t4 h =>
  joinW (fun (J1 : AV → AV → List AObj → Prop) =>
  guardW t4 false
  (callW false c (.fn (.func 98) [] []) [t0] h (fun t7 h =>
    runD (unD .not t7) h fun t8 h =>
    J1 (.bool false) t8 h)
    (fun v h => K (.pan v) h))
  (J1 (.bool true) .und h))
  (fun t5 t8 h => runD (pickD t5 (.bool true) t8) h fun t9 h =>
  K (.ret t9) h)
theorem node_Read.eq (F : List (FuncId × Contract)) (S : List (FuncId × Con)) (t0 t1 : AV) (h : List AObj) (K : AOut → List AObj → Prop) : funW (ctx F S node_Read.loops) Try.f23 [t0, t1] h K = node_Read.H (ctx F S node_Read.loops) t0 t1 h K := by kernel_rfl
theorem node_Words.eq (F : List (FuncId × Contract)) (S : List (FuncId × Con)) (t0 : AV) (h : List AObj) (K : AOut → List AObj → Prop) : funW (ctx F S node_Words.loops) Try.f35 [t0] h K = node_Words.H (ctx F S node_Words.loops) t0 h K := by kernel_rfl
theorem node_Check.eq (F : List (FuncId × Contract)) (S : List (FuncId × Con)) (t0 : AV) (h : List AObj) (K : AOut → List AObj → Prop) : funW (ctx F S node_Check.loops) Try.f71 [t0] h K = node_Check.H (ctx F S node_Check.loops) t0 h K := by kernel_rfl
theorem node_first.eq (F : List (FuncId × Contract)) (S : List (FuncId × Con)) (t0 : AV) (h : List AObj) (K : AOut → List AObj → Prop) : funW (ctx F S node_first.loops) Try.f72 [t0] h K = node_first.H (ctx F S node_first.loops) t0 h K := by kernel_rfl
theorem node_block.eq (F : List (FuncId × Contract)) (S : List (FuncId × Con)) (t0 : AV) (h : List AObj) (K : AOut → List AObj → Prop) : funW (ctx F S node_block.loops) Try.f98 [t0] h K = node_block.H (ctx F S node_block.loops) t0 h K := by kernel_rfl
theorem node_Check_1.eq (F : List (FuncId × Contract)) (S : List (FuncId × Con)) (t0 : AV) (h : List AObj) (K : AOut → List AObj → Prop) : funW (ctx F S node_Check_1.loops) Try.f100 [t0] h K = node_Check_1.H (ctx F S node_Check_1.loops) t0 h K := by kernel_rfl
theorem node_Read.at : Try.prog.funcs[23]? = some Try.f23 := by kernel_rfl
theorem node_Read.nm : (Try.f23.name == "runtime.NumGoroutine") = false := by kernel_rfl
theorem node_Read.bd : Try.f23.body.isNone = false := by kernel_rfl
theorem node_Words.at : Try.prog.funcs[35]? = some Try.f35 := by kernel_rfl
theorem node_Words.nm : (Try.f35.name == "runtime.NumGoroutine") = false := by kernel_rfl
theorem node_Words.bd : Try.f35.body.isNone = false := by kernel_rfl
theorem node_Check.at : Try.prog.funcs[71]? = some Try.f71 := by kernel_rfl
theorem node_Check.nm : (Try.f71.name == "runtime.NumGoroutine") = false := by kernel_rfl
theorem node_Check.bd : Try.f71.body.isNone = false := by kernel_rfl
theorem node_first.at : Try.prog.funcs[72]? = some Try.f72 := by kernel_rfl
theorem node_first.nm : (Try.f72.name == "runtime.NumGoroutine") = false := by kernel_rfl
theorem node_first.bd : Try.f72.body.isNone = false := by kernel_rfl
theorem node_block.at : Try.prog.funcs[98]? = some Try.f98 := by kernel_rfl
theorem node_block.nm : (Try.f98.name == "runtime.NumGoroutine") = false := by kernel_rfl
theorem node_block.bd : Try.f98.body.isNone = false := by kernel_rfl
theorem node_Check_1.at : Try.prog.funcs[100]? = some Try.f100 := by kernel_rfl
theorem node_Check_1.nm : (Try.f100.name == "runtime.NumGoroutine") = false := by kernel_rfl
theorem node_Check_1.bd : Try.f100.body.isNone = false := by kernel_rfl
end Lam
namespace Lam
open Go Go.Proofs
set_option linter.unusedVariables false
end Lam
namespace Lam
open Go Go.Proofs
set_option linter.unusedVariables false
set_option linter.unnecessarySimpa false
set_option linter.unusedSimpArgs false
def slices_Clone_sl_int_int.C : Contract
  | [.sl _ (.ints .i64 l)] => some (true, some (roomy l.length, .sref false 0 0 0 l.length, [.row .own 0 (.ints .i64 l)]))
  | _ => none
set_option maxRecDepth 20000 in
theorem slices_Clone_sl_int_int.spec : FSpec Try.prog 64 slices_Clone_sl_int_int.C := by
  refine FSpec.of (ctx_ok (F := []) (S := []) (by simp) (by simp) slices_Clone_sl_int_int.loops) slices_Clone_sl_int_int.at slices_Clone_sl_int_int.nm slices_Clone_sl_int_int.bd ?_
  intro vs b S v news e hS
  unfold slices_Clone_sl_int_int.C at e
  split at e
  rotate_left
  · cases e
  cases e
  rw [slices_Clone_sl_int_int.eq]
  unfold slices_Clone_sl_int_int.H
  simp (maxSteps := 4000000) only [go_sem, Nat.reduceEqDiff, Nat.reduceLT, Nat.reduceAdd, Nat.reduceSub, Nat.reduceLeDiff, List.reduceReplicate, Int.reduceToNat]
  rename_i l
  intro b hb
  refine ⟨fun h => ?_, fun h => ⟨hS, post_row rfl (by simp)⟩⟩
  have : l = [] := List.eq_nil_of_length_eq_zero (hb h)
  subst this
  exact post_nil rfl
def slices_Equal_sl_int_int.C : Contract
  | [.sl _ (.ints .i64 a), .sl _ (.ints .i64 b)] => some (false, pD (roomy a.length) (.bool (decide (a = b))))
  | _ => none
set_option maxRecDepth 20000 in
theorem slices_Equal_sl_int_int.spec : FSpec Try.prog 59 slices_Equal_sl_int_int.C := by
  refine FSpec.of (ctx_ok (F := []) (S := []) (by simp) (by simp) slices_Equal_sl_int_int.loops) slices_Equal_sl_int_int.at slices_Equal_sl_int_int.nm slices_Equal_sl_int_int.bd ?_
  intro vs b S v news e hS
  unfold slices_Equal_sl_int_int.C at e
  split at e
  rotate_left
  · cases e
  cases e
  rw [slices_Equal_sl_int_int.eq]
  unfold slices_Equal_sl_int_int.H
  simp (maxSteps := 4000000) only [go_sem, Nat.reduceEqDiff, Nat.reduceLT, Nat.reduceAdd, Nat.reduceSub, Nat.reduceLeDiff, List.reduceReplicate, Int.reduceToNat]
  rename_i a _ b
  unfold roomy at hS
  refine ⟨fun hne => ?_, fun heq => ?_⟩
  · have : decide (a = b) = false := by rw [decide_eq_false_iff_not]; rintro rfl; exact hne rfl
    rw [this]; exact post_val rfl rfl
  rw [joinW_eq]
  unfold slices_Equal_sl_int_int.L1
  have hlen : a.length = b.length := by omega
  refine ⟨fun m lv h' => ∃ k : Nat, k + m = a.length ∧ lv = [.int .i64 k] ∧ h' = [] ∧ ∀ i, i < k → a.getD i 0 = b.getD i 0, ⟨a.length, 0, by omega, rfl, rfl, fun i hi => by omega⟩, ?_⟩
  rintro m h' t8 ⟨k, hk, hlv, rfl, hall⟩
  simp only [List.cons.injEq, and_true] at hlv
  subst hlv
  simp only [go_sem, Nat.reduceEqDiff, Nat.reduceLT, Nat.reduceAdd, Nat.reduceSub, Nat.reduceLeDiff, List.reduceReplicate, Int.reduceToNat]
  refine ⟨fun hlt => ⟨by omega, by omega, fun h0 => ?_, fun h0 => ?_⟩, fun hge => ?_⟩
  · have : decide (a = b) = false := by rw [decide_eq_false_iff_not]; rintro rfl; exact h0 rfl
    rw [this]; exact post_val rfl rfl
  · refine ⟨m - 1, by omega, k + 1, by omega, by rw [w64 (by omega) (by omega)]; rfl, ?_⟩
    intro i hi
    by_cases e : i = k
    · subst e; exact h0
    · exact hall i (by omega)
  · have : a = b := by
      apply List.ext_getElem hlen
      intro i h1 h2
      have := hall i (by omega)
      rw [List.getD_eq_getElem?_getD, List.getD_eq_getElem?_getD, List.getElem?_eq_getElem h1, List.getElem?_eq_getElem h2] at this
      exact this
    rw [decide_eq_true this]; exact post_val rfl rfl

end Lam
namespace Lam
open Go Go.Proofs
set_option linter.unusedVariables false
set_option linter.unnecessarySimpa false
set_option linter.unusedSimpArgs false
def fast_may_1.C : Contract
  | [.int .i64 n] => some (false, pD True (.bool (lt1 n)))
  | _ => none
set_option maxRecDepth 20000 in
theorem fast_may_1.spec : FSpec Try.prog 106 fast_may_1.C := by
  refine FSpec.of (ctx_ok (F := []) (S := []) (by simp) (by simp) fast_may_1.loops) fast_may_1.at fast_may_1.nm fast_may_1.bd ?_
  intro vs b S v news e hS
  unfold fast_may_1.C at e
  split at e
  rotate_left
  · cases e
  cases e
  rw [fast_may_1.eq]
  unfold fast_may_1.H
  simp (maxSteps := 4000000) only [go_sem, Nat.reduceEqDiff, Nat.reduceLT, Nat.reduceAdd, Nat.reduceSub, Nat.reduceLeDiff, List.reduceReplicate, Int.reduceToNat]
  exact post_val rfl rfl
def fast_Slots_1.C : Contract
  | [.int .i64 n] => some (false, pD True (.bool (lt1 n)))
  | _ => none
set_option maxRecDepth 20000 in
theorem fast_Slots_1.spec : FSpec Try.prog 90 fast_Slots_1.C := by
  refine FSpec.of (ctx_ok (F := []) (S := []) (by simp) (by simp) fast_Slots_1.loops) fast_Slots_1.at fast_Slots_1.nm fast_Slots_1.bd ?_
  intro vs b S v news e hS
  unfold fast_Slots_1.C at e
  split at e
  rotate_left
  · cases e
  cases e
  rw [fast_Slots_1.eq]
  unfold fast_Slots_1.H
  simp (maxSteps := 4000000) only [go_sem, Nat.reduceEqDiff, Nat.reduceLT, Nat.reduceAdd, Nat.reduceSub, Nat.reduceLeDiff, List.reduceReplicate, Int.reduceToNat]
  exact post_val rfl rfl
def node_block.C : Contract
  | [.int .i64 n] => some (false, pD True (.bool (blockB n)))
  | _ => none
set_option maxRecDepth 20000 in
theorem node_block.spec : FSpec Try.prog 98 node_block.C := by
  refine FSpec.of (ctx_ok (F := []) (S := []) (by simp) (by simp) node_block.loops) node_block.at node_block.nm node_block.bd ?_
  intro vs b S v news e hS
  unfold node_block.C at e
  split at e
  rotate_left
  · cases e
  cases e
  rw [node_block.eq]
  unfold node_block.H
  simp (maxSteps := 4000000) only [go_sem, Nat.reduceEqDiff, Nat.reduceLT, Nat.reduceAdd, Nat.reduceSub, Nat.reduceLeDiff, List.reduceReplicate, Int.reduceToNat]
  exact post_val rfl rfl
def node_Check_1.C : Contract
  | [.int .i64 n] => some (false, pD True (.bool (noBlock n)))
  | _ => none
set_option maxRecDepth 20000 in
theorem node_Check_1.spec : FSpec Try.prog 100 node_Check_1.C := by
  refine FSpec.of (ctx_ok (F := [(98, node_block.C)]) (S := []) (by simpa using node_block.spec) (by simp) node_Check_1.loops) node_Check_1.at node_Check_1.nm node_Check_1.bd ?_
  intro vs b S v news e hS
  unfold node_Check_1.C at e
  split at e
  rotate_left
  · cases e
  cases e
  rw [node_Check_1.eq]
  unfold node_Check_1.H
  simp (maxSteps := 4000000) only [go_sem, Nat.reduceEqDiff, Nat.reduceLT, Nat.reduceAdd, Nat.reduceSub, Nat.reduceLeDiff, List.reduceReplicate, Int.reduceToNat, node_block.C]
  exact post_val rfl rfl
theorem indexInts_vc (c : Ctx) (hd : c.drawn = false) (f : FuncId) (p : Int → Bool) (hf : ∀ n, c.envF f [.int .i64 n] = some (false, pD True (.bool (p n)))) (x : Bool) (l : List Int) (hr : roomy l.length) :
    slices_IndexFunc_sl_int_int.H c (.sl x (.ints .i64 l)) (.fn (.func f) [] []) [] (Post false (.int .i64 (idxI p l)) []) := by
  unfold roomy at hr
  unfold slices_IndexFunc_sl_int_int.H
  simp only [go_sem, Nat.reduceEqDiff, Nat.reduceLT, Nat.reduceAdd, Nat.reduceSub, Nat.reduceLeDiff, List.reduceReplicate, Int.reduceToNat]
  rw [joinW_eq]
  unfold slices_IndexFunc_sl_int_int.L1
  refine loop1 (σ := Nat) (fun k => .int .i64 k) (fun k => []) (fun k => l.length - k) (fun k => k ≤ l.length ∧ ∀ y ∈ l.take k, p y = false) 0 rfl rfl ⟨Nat.zero_le _, by simp⟩ ?_
  rintro I back k ⟨hk, hall⟩
  simp only [hf, hd, go_sem, Nat.reduceEqDiff, Nat.reduceLT, Nat.reduceAdd, Nat.reduceSub, Nat.reduceLeDiff, List.reduceReplicate, Int.reduceToNat]
  refine ⟨fun hlt => ⟨by omega, fun h => ?_, fun h => ?_⟩, fun hge => ?_⟩
  · have hkl : k < l.length := by omega
    have h1 : l.any p = true := List.any_eq_true.2 ⟨_, getD_mem l k 0 hkl, h⟩
    have h2 : l.findIdx p = k := by
      rw [List.findIdx_eq hkl]
      refine ⟨by rw [List.getD_eq_getElem?_getD, List.getElem?_eq_getElem hkl] at h; exact h, fun j hj => ?_⟩
      have := hall l[j] (List.mem_take_iff_getElem.2 ⟨j, by omega, rfl⟩)
      simpa using this
    unfold idxI; rw [if_pos h1, h2]
    exact post_val rfl rfl
  · refine back (k + 1) (by omega) (by rw [wnext (by omega)]) rfl ⟨by omega, fun y hy => ?_⟩
    rw [take_next l k 0 (by omega), List.mem_append, List.mem_singleton] at hy
    rcases hy with hy | rfl
    · exact hall y hy
    · exact h
  · obtain rfl : k = l.length := by omega
    rw [List.take_length] at hall
    have h1 : ¬ l.any p = true := by
      rw [List.any_eq_true]; rintro ⟨y, hy, hp⟩; rw [hall y hy] at hp; cases hp
    unfold idxI; rw [if_neg h1]
    exact post_val rfl rfl
def predI (f : Nat) : Option (Int → Bool) :=
  if f = 106 then some lt1 else
  if f = 90 then some lt1 else
  if f = 100 then some noBlock else
  none
@[go_sem] theorem predI_fm : predI 106 = some lt1 := rfl
@[go_sem] theorem predI_fs : predI 90 = some lt1 := rfl
@[go_sem] theorem predI_nc : predI 100 = some noBlock := rfl
def slices_IndexFunc_sl_int_int.C : Contract
  | [.sl _ (.ints .i64 l), .fn (.func f) [] []] => match predI f with
    | some p => some (false, pD (roomy l.length) (.int .i64 (idxI p l)))
    | none => none
  | _ => none
theorem slices_IndexFunc_sl_int_int.spec : FSpec Try.prog 89 slices_IndexFunc_sl_int_int.C := by
  refine FSpec.of (ctx_ok (F := [(106, fast_may_1.C), (90, fast_Slots_1.C), (100, node_Check_1.C)]) (S := []) (by simpa using ⟨fast_may_1.spec, fast_Slots_1.spec, node_Check_1.spec⟩) (by simp) slices_IndexFunc_sl_int_int.loops) slices_IndexFunc_sl_int_int.at slices_IndexFunc_sl_int_int.nm slices_IndexFunc_sl_int_int.bd ?_
  intro vs b S v news e hS
  unfold slices_IndexFunc_sl_int_int.C at e
  split at e
  rotate_left
  · cases e
  rw [slices_IndexFunc_sl_int_int.eq]
  rename_i x l f
  split at e
  rotate_left
  · cases e
  rename_i p hp
  cases e
  refine indexInts_vc _ rfl f p (fun n => ?_) x l hS
  unfold predI at hp
  simp only [ctx_envF]
  repeat' split at hp
  all_goals first | (rename_i h; subst h; cases hp; rfl) | cases hp
def slices_ContainsFunc_sl_int_int.C : Contract
  | [.sl _ (.ints .i64 l), .fn (.func f) [] []] => match predI f with
    | some p => some (false, pD (roomy l.length) (.bool (l.any p)))
    | none => none
  | _ => none
theorem slices_ContainsFunc_sl_int_int.spec : FSpec Try.prog 99 slices_ContainsFunc_sl_int_int.C := by
  refine FSpec.of (ctx_ok (F := [(89, slices_IndexFunc_sl_int_int.C)]) (S := []) (by simpa using slices_IndexFunc_sl_int_int.spec) (by simp) slices_ContainsFunc_sl_int_int.loops) slices_ContainsFunc_sl_int_int.at slices_ContainsFunc_sl_int_int.nm slices_ContainsFunc_sl_int_int.bd ?_
  intro vs b S v news e hS
  unfold slices_ContainsFunc_sl_int_int.C at e
  split at e
  rotate_left
  · cases e
  rw [slices_ContainsFunc_sl_int_int.eq]
  rename_i x l f
  split at e
  rotate_left
  · cases e
  rename_i p hp
  cases e
  unfold slices_ContainsFunc_sl_int_int.H
  simp only [slices_IndexFunc_sl_int_int.C, hp, go_sem, Nat.reduceEqDiff, Nat.reduceLT, Nat.reduceAdd, Nat.reduceSub, Nat.reduceLeDiff, List.reduceReplicate, Int.reduceToNat]
  refine ⟨hS, ?_⟩
  have : decide (0 ≤ idxI p l) = l.any p := by
    unfold idxI
    cases h : l.any p
    · rfl
    · rw [if_pos rfl]; exact decide_eq_true (by omega)
  rw [this]; exact post_val rfl rfl
end Lam
namespace Lam
open Go Go.Proofs
set_option linter.unusedVariables false
set_option linter.unnecessarySimpa false
set_option linter.unusedSimpArgs false
end Lam
namespace Lam
open Go Go.Proofs
set_option linter.unusedVariables false
end Lam
namespace Lam
open Go Go.Proofs
set_option linter.unusedVariables false
set_option linter.unnecessarySimpa false
set_option linter.unusedSimpArgs false
end Lam
namespace Lam
open Go Go.Proofs
set_option linter.unusedVariables false
set_option linter.unnecessarySimpa false
set_option linter.unusedSimpArgs false
def fast_node.C : Contract
  | [.int .i64 b] => some (false, pD True (.bool (nodeB b)))
  | _ => none
set_option maxRecDepth 20000 in
theorem fast_node.spec : FSpec Try.prog 88 fast_node.C := by
  refine FSpec.of (ctx_ok (F := []) (S := []) (by simp) (by simp) fast_node.loops) fast_node.at fast_node.nm fast_node.bd ?_
  intro vs b S v news e hS
  unfold fast_node.C at e
  split at e
  rotate_left
  · cases e
  cases e
  rw [fast_node.eq]
  unfold fast_node.H
  simp (maxSteps := 4000000) only [go_sem, Nat.reduceEqDiff, Nat.reduceLT, Nat.reduceAdd, Nat.reduceSub, Nat.reduceLeDiff, List.reduceReplicate, Int.reduceToNat]
  exact ⟨fun _ => by decide, post_val rfl rfl⟩
def fast_Place.C : Contract
  | [.int .i64 b, .int .i64 s] => some (false, pD True (.int .i64 (placeI b s)))
  | _ => none
set_option maxRecDepth 20000 in
theorem fast_Place.spec : FSpec Try.prog 63 fast_Place.C := by
  refine FSpec.of (ctx_ok (F := [(88, fast_node.C)]) (S := []) (by simpa using fast_node.spec) (by simp) fast_Place.loops) fast_Place.at fast_Place.nm fast_Place.bd ?_
  intro vs b S v news e hS
  unfold fast_Place.C at e
  split at e
  rotate_left
  · cases e
  cases e
  rw [fast_Place.eq]
  unfold fast_Place.H
  simp (maxSteps := 4000000) only [go_sem, Nat.reduceEqDiff, Nat.reduceLT, Nat.reduceAdd, Nat.reduceSub, Nat.reduceLeDiff, List.reduceReplicate, Int.reduceToNat, fast_node.C]
  rename_i b s
  have e : (!nodeB b || decide (s < 0) || decide (13 ≤ s)) = !(nodeB b && decide (0 ≤ s) && decide (s < 13)) := by
    cases nodeB b
    · rfl
    · rw [Bool.eq_iff_iff]; simp only [Bool.and_eq_true, Bool.or_eq_true, Bool.not_eq_true', Bool.not_eq_false', Bool.not_eq_true, decide_eq_true_eq, decide_eq_false_iff_not, Bool.or_eq_false_iff, Bool.and_eq_false_iff, beq_iff_eq]; simp <;> omega
  rw [e]
  unfold placeI
  refine ⟨fun h => ?_, fun h => ?_⟩
  · rw [Bool.not_eq_true'] at h
    rw [h]; exact post_val rfl rfl
  · rw [Bool.not_eq_false'] at h
    rw [h]; exact post_val rfl rfl
def fast_Slots.C : Contract
  | [.sl _ (.ints .i64 l), .int .i64 b] => some (false, pD (roomy l.length ∧ b ≤ 1099511627776) (.sl false (.ints .i64 (slotsOf l b))))
  | _ => none
set_option maxRecDepth 20000 in
theorem fast_Slots.spec : FSpec Try.prog 58 fast_Slots.C := by
  refine FSpec.of (ctx_ok (F := [(88, fast_node.C), (89, slices_IndexFunc_sl_int_int.C), (64, slices_Clone_sl_int_int.C)]) (S := []) (by simpa using ⟨fast_node.spec, slices_IndexFunc_sl_int_int.spec, slices_Clone_sl_int_int.spec⟩) (by simp) fast_Slots.loops) fast_Slots.at fast_Slots.nm fast_Slots.bd ?_
  intro vs b S v news e hS
  unfold fast_Slots.C at e
  split at e
  rotate_left
  · cases e
  cases e
  rw [fast_Slots.eq]
  unfold fast_Slots.H
  simp (maxSteps := 4000000) only [go_sem, Nat.reduceEqDiff, Nat.reduceLT, Nat.reduceAdd, Nat.reduceSub, Nat.reduceLeDiff, List.reduceReplicate, Int.reduceToNat, fast_node.C, slices_IndexFunc_sl_int_int.C, slices_Clone_sl_int_int.C]
  rename_i _ l b
  obtain ⟨hr, hb⟩ := hS
  unfold roomy at hr
  cases hn : nodeB b with
  | false =>
    refine ⟨fun h => ?_, fun h => by simp at h⟩
    unfold slotsOf; rw [hn]; exact post_val rfl rfl
  | true =>
    have hbb := (node_iff hb).1 hn
    have e1 : IntKind.i64.wrap (b + 16) = b + 16 := w64 (by omega) (by omega)
    have e2 : IntKind.i64.wrap (b + 3) = b + 3 := w64 (by omega) (by omega)
    rw [e1, e2]
    by_cases hlt : (l.length : Int) < b + 16
    · refine ⟨fun h => ?_, fun h => by simp at h; omega⟩
      unfold slotsOf; rw [hn, decide_eq_false (by omega)]; exact post_val rfl rfl
    · refine ⟨fun h => by simp at h; omega, fun h => ⟨by omega, ?_⟩⟩
      have e3 : (b + 16).toNat - (b + 3).toNat = 13 := by omega
      have e4 : (b + 3).toNat = b.toNat + 3 := by omega
      have hsl : slotsOf l b = upTo ((l.drop (b.toNat + 3)).take 13) := by
        unfold slotsOf; rw [hn, decide_eq_true (by omega)]; rfl
      rw [e3, e4, hsl]
      have hlen : ((l.drop (b.toNat + 3)).take 13).length = 13 := by simp; omega
      generalize (l.drop (b.toNat + 3)).take 13 = z at *
      have hu := upTo_idx z
      have hir := idxI_range lt1 z
      have hul : (upTo z).length ≤ z.length := by rw [← hu]; exact List.length_take_le' _ _
      refine ⟨by unfold roomy; omega, ?_⟩
      rw [joinW_eq]
      refine ⟨fun h => ?_, fun h => ?_⟩
      · rw [if_pos h] at hu
        rw [Int.toNat_natCast, List.take_length] at hu
        simp only [slices_Clone_sl_int_int.C, Int.toNat_natCast, List.take_length, go_sem, Nat.reduceEqDiff, Nat.reduceLT, Nat.reduceAdd, Nat.reduceSub, Nat.reduceLeDiff, List.reduceReplicate, Int.reduceToNat]
        refine ⟨by omega, by unfold roomy; omega, post_val ?_ rfl⟩
        simp only [go_sem, Nat.reduceEqDiff, Nat.reduceLT, Nat.reduceAdd, Nat.reduceSub, Nat.reduceLeDiff, List.reduceReplicate, Int.reduceToNat, List.take_length]
        rw [← hu]
      · rw [if_neg h] at hu
        simp only [slices_Clone_sl_int_int.C, hu, go_sem, Nat.reduceEqDiff, Nat.reduceLT, Nat.reduceAdd, Nat.reduceSub, Nat.reduceLeDiff, List.reduceReplicate, Int.reduceToNat]
        refine ⟨by omega, by unfold roomy; omega, post_val ?_ rfl⟩
        simp only [go_sem, Nat.reduceEqDiff, Nat.reduceLT, Nat.reduceAdd, Nat.reduceSub, Nat.reduceLeDiff, List.reduceReplicate, Int.reduceToNat, List.take_length]
end Lam
namespace Lam
open Go Go.Proofs
set_option linter.unusedVariables false
set_option linter.unnecessarySimpa false
set_option linter.unusedSimpArgs false
def node_Check.C : Contract
  | [.agg [.int .i64 a, .int .i64 b, .int .i64 c, .int .i64 d, .sl false (.ints .i64 l)]] => some (false, pD True (.bool (ndB ⟨a, b, c, d, l⟩)))
  | _ => none
set_option maxRecDepth 20000 in
theorem node_Check.spec : FSpec Try.prog 71 node_Check.C := by
  refine FSpec.of (ctx_ok (F := [(98, node_block.C), (99, slices_ContainsFunc_sl_int_int.C)]) (S := []) (by simpa using ⟨node_block.spec, slices_ContainsFunc_sl_int_int.spec⟩) (by simp) node_Check.loops) node_Check.at node_Check.nm node_Check.bd ?_
  intro vs b S v news e hS
  unfold node_Check.C at e
  split at e
  rotate_left
  · cases e
  cases e
  rw [node_Check.eq]
  unfold node_Check.H
  simp (maxSteps := 4000000) only [go_sem, Nat.reduceEqDiff, Nat.reduceLT, Nat.reduceAdd, Nat.reduceSub, Nat.reduceLeDiff, List.reduceReplicate, Int.reduceToNat, node_block.C, slices_ContainsFunc_sl_int_int.C]
  rename_i a b c d l
  have h1 : (a < 0 ∨ 9 < a ∨ b < 0 ∨ 1099511627776 < b ∨ blockB c = false ∨ blockB d = false ∨ 13 < (l.length : Int)) → ndB ⟨a, b, c, d, l⟩ = false := by
    intro h
    rw [Bool.eq_false_iff]
    intro hh
    obtain ⟨q1, q2, q3, q4, q5, q6, q7, q8⟩ := nd_iff.1 hh
    simp only at q1 q2 q3 q4 q5 q6 q7 q8
    unfold blockB at h
    simp only [Bool.and_eq_false_iff, decide_eq_false_iff_not] at h
    omega
  have h2 : ¬ (a < 0 ∨ 9 < a ∨ b < 0 ∨ 1099511627776 < b ∨ blockB c = false ∨ blockB d = false ∨ 13 < (l.length : Int)) → ndB ⟨a, b, c, d, l⟩ = !l.any noBlock := by
    intro h
    simp only [not_or, Bool.not_eq_false] at h
    obtain ⟨q1, q2, q3, q4, q5, q6, q7⟩ := h
    unfold ndB
    rw [decide_eq_true (show 0 ≤ a by omega), decide_eq_true (show a ≤ 9 by omega), decide_eq_true (show 0 ≤ b by omega), decide_eq_true (show b ≤ 1099511627776 by omega), q5, q6, decide_eq_true (show l.length ≤ 13 by omega)]
    rfl
  generalize ndB ⟨a, b, c, d, l⟩ = R at *
  simp only [node_block.C, slices_ContainsFunc_sl_int_int.C, joinW_eq, guard_tt, guard_tf, guard_ft, guard_ff, Int.reduceEq, Int.reduceLT, Int.reduceLE, decide_false, decide_true, Bool.not_false, Bool.not_true, Bool.not_not, not_true_eq_false, not_false_eq_true, true_implies, false_implies, implies_true, and_true, true_and, reduceCtorEq, Bool.and_self, Bool.or_self, Bool.and_true, Bool.true_and, Bool.false_eq_true, if_true, if_false, go_sem, Nat.reduceEqDiff, Nat.reduceLT, Nat.reduceAdd, Nat.reduceSub, Nat.reduceLeDiff, List.reduceReplicate, Int.reduceToNat]
  repeat' (first | (with_reducible apply And.intro) | (with_reducible intro _))
  all_goals first
    | omega
    | (unfold roomy; omega)
    | (exfalso; simp_all; done)
    | (rw [h1 (by grind)]; exact post_val rfl rfl)
    | (rw [h2 (by grind)]; exact post_val rfl rfl)
    | skip
  all_goals trace_state
def node_first.C : Contract
  | [.agg [.int .i64 a, .int .i64 b, .int .i64 c, .int .i64 d, .sl false (.ints .i64 l)]] => some (false, pD (0 ≤ a ∧ a ≤ 9 ∧ 0 ≤ b ∧ b ≤ 1099511627776) (.int .i64 (firstN ⟨a, b, c, d, l⟩)))
  | _ => none
set_option maxRecDepth 20000 in
theorem node_first.spec : FSpec Try.prog 72 node_first.C := by
  refine FSpec.of (ctx_ok (F := []) (S := []) (by simp) (by simp) node_first.loops) node_first.at node_first.nm node_first.bd ?_
  intro vs b S v news e hS
  unfold node_first.C at e
  split at e
  rotate_left
  · cases e
  cases e
  rw [node_first.eq]
  unfold node_first.H
  simp (maxSteps := 4000000) only [go_sem, Nat.reduceEqDiff, Nat.reduceLT, Nat.reduceAdd, Nat.reduceSub, Nat.reduceLeDiff, List.reduceReplicate, Int.reduceToNat]
  rename_i a b c d l
  rw [first_bits hS.1 (by omega) hS.2.2.1 hS.2.2.2]
  exact ⟨by decide, post_val rfl rfl⟩
def wordsV (n : Nd) : AV := if ndB n = true then .tup [.sl false (.ints .i64 (wordsNd n)), .int .i64 0] else .tup [.sl false (.ints .i64 []), .int .i64 90]
def node_Words.C : Contract
  | [.agg [.int .i64 a, .int .i64 b, .int .i64 c, .int .i64 d, .sl false (.ints .i64 l)]] => some (false, pD True (wordsV ⟨a, b, c, d, l⟩))
  | _ => none
set_option maxRecDepth 20000 in
theorem node_Words.spec : FSpec Try.prog 35 node_Words.C := by
  refine FSpec.of (ctx_ok (F := [(71, node_Check.C), (72, node_first.C)]) (S := []) (by simpa using ⟨node_Check.spec, node_first.spec⟩) (by simp) node_Words.loops) node_Words.at node_Words.nm node_Words.bd ?_
  intro vs b S v news e hS
  unfold node_Words.C at e
  split at e
  rotate_left
  · cases e
  cases e
  rw [node_Words.eq]
  unfold node_Words.H
  simp (maxSteps := 4000000) only [go_sem, Nat.reduceEqDiff, Nat.reduceLT, Nat.reduceAdd, Nat.reduceSub, Nat.reduceLeDiff, List.reduceReplicate, Int.reduceToNat, node_Check.C, node_first.C]
  rename_i a b c d l
  refine ⟨fun h => ?_, fun h => ?_⟩
  · unfold wordsV; rw [h]; exact post_val rfl rfl
  · have hok := nd_iff.1 h
    obtain ⟨q1, q2, q3, q4, _, _, q7, _⟩ := hok
    simp only at q1 q2 q3 q4 q7
    have hw : firstN ⟨a, b, c, d, l⟩ :: c :: d :: (l.take 13 ++ List.take (16 - (3 + min 13 l.length)) (List.drop (3 + min 13 l.length) [firstN ⟨a, b, c, d, l⟩, c, d, 0, 0, 0, 0, 0, 0, 0, 0, 0, 0, 0, 0, 0])) = wordsNd ⟨a, b, c, d, l⟩ := by
      unfold wordsNd
      simp only
      rw [take_len l q7, Nat.min_eq_right q7]
      congr 4
      have : ∀ k, k ≤ 13 → List.take (16 - (3 + k)) (List.drop (3 + k) [firstN ⟨a, b, c, d, l⟩, c, d, 0, 0, 0, 0, 0, 0, 0, 0, 0, 0, 0, 0, 0]) = List.replicate (13 - k) 0 := by
        intro k hk
        rcases k with _|_|_|_|_|_|_|_|_|_|_|_|_|_|k <;> first | rfl | omega
      exact this _ q7
    rw [hw]
    unfold wordsV; simp only [h, if_true]
    refine ⟨⟨by decide, by decide, by unfold roomy; omega⟩, ⟨q1, q2, q3, q4⟩, ⟨by decide, by decide⟩, ⟨by decide, by decide⟩, ⟨by decide, by decide⟩, rfl, rfl, rfl, ⟨by decide, by decide⟩, post_val ?_ rfl⟩
    simp only [go_sem, Nat.reduceEqDiff, Nat.reduceLT, Nat.reduceAdd, Nat.reduceSub, Nat.reduceLeDiff, List.reduceReplicate, Int.reduceToNat]
    rw [take_len _ (Nat.le_of_eq (words_len (nd_iff.1 h)))]
def readV (words : List Int) (at_ : Int) : AV := if (decide (at_ < 0) || decide (((words.length / 16 : Nat) : Int) ≤ at_)) = true then .tup [zeroNd.V, .int .i64 1] else match readN (blockAt words at_.toNat) with
  | some n => .tup [n.V, .int .i64 0]
  | none => .tup [zeroNd.V, .int .i64 90]
def node_Read.C : Contract
  | [.sl _ (.ints .i64 l), .int .i64 k] => some (false, pD (roomy l.length) (readV l k))
  | _ => none
set_option maxRecDepth 20000 in
theorem node_Read.spec : FSpec Try.prog 23 node_Read.C := by
  refine FSpec.of (ctx_ok (F := [(58, fast_Slots.C), (35, node_Words.C), (59, slices_Equal_sl_int_int.C)]) (S := []) (by simpa using ⟨fast_Slots.spec, node_Words.spec, slices_Equal_sl_int_int.spec⟩) (by simp) node_Read.loops) node_Read.at node_Read.nm node_Read.bd ?_
  intro vs b S v news e hS
  unfold node_Read.C at e
  split at e
  rotate_left
  · cases e
  cases e
  rw [node_Read.eq]
  unfold node_Read.H
  simp (maxSteps := 4000000) only [go_sem, Nat.reduceEqDiff, Nat.reduceLT, Nat.reduceAdd, Nat.reduceSub, Nat.reduceLeDiff, List.reduceReplicate, Int.reduceToNat, fast_Slots.C, node_Words.C, slices_Equal_sl_int_int.C]
  rename_i l k
  have hrl := hS
  unfold roomy at hS
  have e0 : IntKind.i64.wrap ((l.length : Int).tdiv 16) = ((l.length / 16 : Nat) : Int) := by
    rw [Int.tdiv_eq_ediv_of_nonneg (by omega)]; exact w64 (by omega) (by omega)
  rw [e0]
  unfold readV
  refine ⟨fun _ => by decide, fun h => ?_, fun h => ?_⟩
  · rw [if_pos h]
    refine post_val ?_ rfl
    simp only [zeroNd, go_sem, Nat.reduceEqDiff, Nat.reduceLT, Nat.reduceAdd, Nat.reduceSub, Nat.reduceLeDiff, List.reduceReplicate, Int.reduceToNat]
  · rw [h]
    simp only [Bool.or_eq_false_iff, decide_eq_false_iff_not] at h
    obtain ⟨k, rfl⟩ := Int.eq_ofNat_of_zero_le (show 0 ≤ k by omega)
    have hk : 16 * k + 16 ≤ l.length := by omega
    have e1 : IntKind.i64.wrap (16 * (k : Int)) = 16 * (k : Int) := w64 (by omega) (by omega)
    have e2 : IntKind.i64.wrap ((k : Int) + 1) = (k : Int) + 1 := w64 (by omega) (by omega)
    have e3 : IntKind.i64.wrap (16 * ((k : Int) + 1)) = 16 * ((k : Int) + 1) := w64 (by omega) (by omega)
    have e4 : (16 * ((k : Int) + 1)).toNat - (16 * (k : Int)).toNat = 16 := by omega
    have e5 : (16 * (k : Int)).toNat = 16 * k := by omega
    have eb : (l.drop (16 * k)).take 16 = blockAt l k := rfl
    have hbl : (blockAt l k).length = 16 := by unfold blockAt; simp; omega
    rw [e2, e1, e3, e4, e5, eb, Int.toNat_natCast]
    generalize blockAt l k = w at *
    have hdp : (⟨andI .i64 (w.getD 0 0) 15, (andNotI .i64 (w.getD 0 0) 1152921504606846976).fdiv (2 ^ min 4 64), w.getD 1 0, w.getD 2 0, slotsOf w 0⟩ : Nd) = decP w := rfl
    have hV : (decP w).V = .agg [.int .i64 (andI .i64 (w.getD 0 0) 15), .int .i64 ((andNotI .i64 (w.getD 0 0) 1152921504606846976).fdiv (2 ^ min 4 64)), .int .i64 (w.getD 1 0), .int .i64 (w.getD 2 0), .sl false (.ints .i64 (slotsOf w 0))] := rfl
    rw [hdp, hbl, ← readP_eq]
    have hsr := slotsOf_roomy w 0
    refine ⟨by omega, by omega, by omega, by decide, by omega, by omega, ⟨by unfold roomy; omega, by decide⟩, ?_⟩
    unfold readBy wordsV
    cases hd : ndB (decP w) with
    | false =>
      simp only [Bool.false_eq_true, if_false, Bool.false_and, joinW_eq, joinW_eq, guard_tt, guard_tf, guard_ft, guard_ff, Int.reduceEq, Int.reduceLT, Int.reduceLE, decide_false, decide_true, Bool.not_false, Bool.not_true, Bool.not_not, not_true_eq_false, not_false_eq_true, true_implies, false_implies, implies_true, and_true, true_and, reduceCtorEq, Bool.and_self, Bool.or_self, Bool.and_true, Bool.true_and, Bool.false_eq_true, if_true, if_false, go_sem, Nat.reduceEqDiff, Nat.reduceLT, Nat.reduceAdd, Nat.reduceSub, Nat.reduceLeDiff, List.reduceReplicate, Int.reduceToNat]
      refine post_val ?_ rfl
      simp only [zeroNd, go_sem, Nat.reduceEqDiff, Nat.reduceLT, Nat.reduceAdd, Nat.reduceSub, Nat.reduceLeDiff, List.reduceReplicate, Int.reduceToNat]
    | true =>
      have hok := nd_iff.1 hd
      have hwl := words_len hok
      simp only [if_true, Bool.true_and, slices_Equal_sl_int_int.C, hwl, hbl, joinW_eq, guard_tt, guard_tf, guard_ft, guard_ff, Int.reduceEq, Int.reduceLT, Int.reduceLE, decide_false, decide_true, Bool.not_false, Bool.not_true, Bool.not_not, not_true_eq_false, not_false_eq_true, true_implies, false_implies, implies_true, and_true, true_and, reduceCtorEq, Bool.and_self, Bool.or_self, Bool.and_true, Bool.true_and, Bool.false_eq_true, if_true, if_false, go_sem, Nat.reduceEqDiff, Nat.reduceLT, Nat.reduceAdd, Nat.reduceSub, Nat.reduceLeDiff, List.reduceReplicate, Int.reduceToNat]
      refine ⟨by unfold roomy; omega, fun h => ?_, fun h => ?_⟩
      · rw [if_neg h]
        refine post_val ?_ rfl
        simp only [zeroNd, go_sem, Nat.reduceEqDiff, Nat.reduceLT, Nat.reduceAdd, Nat.reduceSub, Nat.reduceLeDiff, List.reduceReplicate, Int.reduceToNat]
      · rw [if_pos h]
        exact post_val rfl rfl
end Lam
namespace Lam
open Go Go.Proofs
set_option linter.unusedVariables false
def key_Text.loops : Nat → LInfo
  | 1 => ⟨[], [], [], [(3, none), (9, some [14, 23])], [], []⟩
  | 5 => ⟨[6, 31], [true, false], [1, 29, 30], [], [], []⟩
  | 7 => ⟨[], [], [], [(3, none), (2, some [37, 39])], [], []⟩
  | 10 => ⟨[6, 41], [true, false], [1, 8, 29, 30, 31], [], [], []⟩
  | 16 => ⟨[59], [false], [1, 6, 57, 58], [], [], []⟩
  | _ => ⟨[], [], [], [], [], []⟩
def key_Text.L2 (c : Ctx) (J5 : AV → AV → AV → AV → AV → List AObj → Prop) (K : AOut → List AObj → Prop) (lv : List AV) (h0 : List AObj) (n0 : Nat) (c1 : AV) (c8 : AV) (c29 : AV) (c30 : AV) (c31 : AV) : Prop :=
  ∃ I : Nat → List AV → List AObj → Prop, (∃ n, I n lv h0) ∧ ∀ n h, ∀ t6, ∀ t41, I n [t6, t41] h →
    runD (binD T_int .lss t41 (.int .i64 7)) h fun t42 h =>
    condW t42
    (runD (binD T_int .sub (.int .i64 6) t41) h fun t47 h =>
    runD (binD T_int .mul (.int .i64 8) t47) h fun t48 h =>
    runD (binD T_int .shr c8 t48) h fun t49 h =>
    runD (convD h T_int T_uint8 t49) h fun t50 h =>
    runD (buildSliceD T_sl_uint8 1 [(0, t50)] h.length) h fun t51 h =>
    runDM (appendD T_sl_uint8 h t6 t51 h.length) (appendH T_sl_uint8 h t6 t51) h fun t52 h =>
    runD (binD T_int .add t41 (.int .i64 1)) h fun t53 h =>
    (∃ m, m < n ∧ I m (AV.norms n0 h [t52, t53]) (normH n0 h)) ∧ AV.norms n0 h [c1, c8, c29, c30, c31] = [c1, c8, c29, c30, c31])
    (J5 c1 t6 c29 c30 c31 h)
def key_Text.L1 (c : Ctx) (J2 : AV → AV → List AObj → Prop) (K : AOut → List AObj → Prop) (lv : List AV) (h0 : List AObj) (n0 : Nat) (c1 : AV) (c29 : AV) (c30 : AV) : Prop :=
  ∃ I : Nat → List AV → List AObj → Prop, (∃ n, I n lv h0) ∧ ∀ n h, ∀ t6, ∀ t31, I n [t6, t31] h →
    runD (binD T_int .lss t31 c30) h fun t32 h =>
    condW t32
    (joinW (fun (J3 : AV → AV → AV → AV → AV → List AObj → Prop) =>
    runD (indexAddrD T_sl_int h c29 t31) h fun t33 h =>
    runD (fitD T_int (loadD h t33)) h fun t34 h =>
    runD (binD T_int .lss t34 (.int .i64 0)) h fun t36 h =>
    joinW (fun (J4 : AV → AV → List AObj → Prop) =>
    guardW t36 false
    (runD (binD T_int .geq t34 (.int .i64 72057594037927936)) h fun t39 h =>
      J4 (.bool false) t39 h)
    (J4 (.bool true) .und h))
    (fun t37 t39 h => runD (pickD t37 (.bool true) t39) h fun t40 h =>
    condW t40
    (K (.ret (.tup [(.str []), (.int .i64 20)])) h)
    (joinW (fun (J5 : AV → AV → AV → AV → AV → List AObj → Prop) =>
    promV [true, false] [t6, (.int .i64 0)] h fun lv h => key_Text.L2 c J5 K (AV.norms h.length h lv) (normH h.length h) h.length (AV.norm h.length h c1) (AV.norm h.length h t34) (AV.norm h.length h c29) (AV.norm h.length h c30) (AV.norm h.length h t31))
    (fun t1 t6 t29 t30 t31 h => J3 t1 t6 t29 t30 t31 h))))
    (fun t1 t6 t29 t30 t31 h => runD (binD T_int .add t31 (.int .i64 1)) h fun t54 h =>
    (∃ m, m < n ∧ I m (AV.norms n0 h [t6, t54]) (normH n0 h)) ∧ AV.norms n0 h [t1, t29, t30] = [c1, c29, c30]))
    (J2 c1 t6 h)
def key_Text.L3 (c : Ctx) (J6 : AV → AV → List AObj → Prop) (K : AOut → List AObj → Prop) (lv : List AV) (h0 : List AObj) (n0 : Nat) (c1 : AV) (c6 : AV) (c57 : AV) (c58 : AV) : Prop :=
  ∃ I : Nat → List AV → List AObj → Prop, (∃ n, I n lv h0) ∧ ∀ n h, ∀ t59, I n [t59] h →
    runD (binD T_int .lss t59 c58) h fun t60 h =>
    condW t60
    (runD (indexAddrD T_sl_uint8 h c57 t59) h fun t61 h =>
    runD (fitD T_uint8 (loadD h t61)) h fun t62 h =>
    runD (binD T_uint8 .neq t62 (.int .u8 0)) h fun t64 h =>
    condW t64
    (K (.ret (.tup [(.str []), (.int .i64 20)])) h)
    (runD (binD T_int .add t59 (.int .i64 1)) h fun t65 h =>
    (∃ m, m < n ∧ I m (AV.norms n0 h [t65]) (normH n0 h)) ∧ AV.norms n0 h [c1, c6, c57, c58] = [c1, c6, c57, c58]))
    (J6 c1 c6 h)
def key_Text.H (c : Ctx) (t0 : AV) (t1 : AV) (h : List AObj) (K : AOut → List AObj → Prop) : Prop :=
  runD (binD T_int .lss t1 (.int .i64 0)) h fun t13 h =>
  joinW (fun (J1 : AV → AV → List AObj → Prop) =>
  guardW t13 false
  (runD (lenD T_sl_int h t0) h fun t16 h =>
    runD (binD T_int .quo t1 (.int .i64 7)) h fun t18 h =>
    runD (binD T_int .rem t1 (.int .i64 7)) h fun t20 h =>
    runD (minD (.int .i64 1) t20) h fun t21 h =>
    runD (binD T_int .add t18 t21) h fun t22 h =>
    runD (binD T_int .neq t16 t22) h fun t23 h =>
    J1 (.bool false) t23 h)
  (J1 (.bool true) .und h))
  (fun t14 t23 h => runD (pickD t14 (.bool true) t23) h fun t24 h =>
  condW t24
  (K (.ret (.tup [(.str []), (.int .i64 20)])) h)
  (runD (lenD T_sl_int h t0) h fun t26 h =>
  runD (binD T_int .mul (.int .i64 7) t26) h fun t27 h =>
  runD (makeSliceD T_sl_uint8 (.int .i64 0) t27 h.length) h fun t28 h =>
  runD (lenD T_sl_int h t0) h fun t30 h =>
  joinW (fun (J2 : AV → AV → List AObj → Prop) =>
  promV [true, false] [t28, (.int .i64 0)] h fun lv h => key_Text.L1 c J2 K (AV.norms h.length h lv) (normH h.length h) h.length (AV.norm h.length h t1) (AV.norm h.length h t0) (AV.norm h.length h t30))
  (fun t1 t6 h => runD (sliceD T_sl_uint8 h t6 (some t1) none none) h fun t57 h =>
  runD (lenD T_sl_uint8 h t57) h fun t58 h =>
  joinW (fun (J6 : AV → AV → List AObj → Prop) =>
  promV [false] [(.int .i64 0)] h fun lv h => key_Text.L3 c J6 K (AV.norms h.length h lv) (normH h.length h) h.length (AV.norm h.length h t1) (AV.norm h.length h t6) (AV.norm h.length h t57) (AV.norm h.length h t58))
  (fun t1 t6 h => runD (sliceD T_sl_uint8 h t6 none (some t1) none) h fun t68 h =>
  runD (convD h T_sl_uint8 T_string t68) h fun t69 h =>
  K (.ret (.tup [t69, (.int .i64 0)])) h))))
def key_Check.loops : Nat → LInfo
  | 1 => ⟨[], [], [], [(3, none), (3, some [5, 8])], [], []⟩
  | _ => ⟨[], [], [], [], [], []⟩
def key_Check.H (c : Ctx) (t0 : AV) (h : List AObj) (K : AOut → List AObj → Prop) : Prop :=
  runD (binD T_string .neq t0 (.str [])) h fun t4 h =>
  joinW (fun (J1 : AV → AV → List AObj → Prop) =>
  guardW t4 true
  (runD (lenD T_string h t0) h fun t7 h =>
    runD (binD T_int .leq t7 (.int .i64 21)) h fun t8 h =>
    J1 (.bool true) t8 h)
  (J1 (.bool false) .und h))
  (fun t5 t8 h => runD (pickD t5 t8 (.bool false)) h fun t9 h =>
  K (.ret t9) h)
def key_CheckVal.loops : Nat → LInfo
  | _ => ⟨[], [], [], [], [], []⟩
def key_CheckVal.H (c : Ctx) (t0 : AV) (h : List AObj) (K : AOut → List AObj → Prop) : Prop :=
  runD (lenD T_string h t0) h fun t4 h =>
  runD (binD T_int .leq t4 (.int .i64 21)) h fun t5 h =>
  K (.ret t5) h
def key_Words.loops : Nat → LInfo
  | 2 => ⟨[], [], [], [], [2], []⟩
  | 5 => ⟨[4, 11], [false, false], [2, 3, 10], [], [], []⟩
  | _ => ⟨[], [], [], [], [], []⟩
def key_Words.L1 (c : Ctx) (id : Nat) (r : Loop) (J3 : AV → AV → List AObj → Prop) (K : AOut → List AObj → Prop) (lv : List AV) (h0 : List AObj) (n0 : Nat) (c2 : AV) (c3 : AV) (c10 : AV) : Prop :=
  ∃ I : Nat → List AV → List AObj → Prop, (∃ n, I n lv h0) ∧ ∀ n h, ∀ t4, ∀ t11, I n [t4, t11] h →
    runD (binD T_int .lss t11 c10) h fun t12 h =>
    condW t12
    (runD (indexD T_string c3 t11) h fun t17 h =>
    runD (convD h T_uint8 T_int t17) h fun t18 h =>
    runD (binD T_int .sub (.int .i64 6) t11) h fun t20 h =>
    runD (binD T_int .mul (.int .i64 8) t20) h fun t21 h =>
    runD (binD T_int .shl t18 t21) h fun t22 h =>
    runD (binD T_int .or t4 t22) h fun t23 h =>
    runD (binD T_int .add t11 (.int .i64 1)) h fun t24 h =>
    (∃ m, m < n ∧ I m (AV.norms n0 h [t23, t24]) (normH n0 h)) ∧ AV.norms n0 h [c2, c3, c10] = [c2, c3, c10])
    (J3 c2 t4 h)
def key_Words.H (c : Ctx) (t0 : AV) (h : List AObj) (K : AOut → List AObj → Prop) : Prop :=
  allocW T_sl_int h fun t2 h =>
  callW false c (.fn (.func 128) [] []) [t0] h (fun t7 h =>
  joinW (fun (J1 : AV → List AObj → Prop) =>
  rangeX c.iterS t7 (boxH [t2] h)
  (fun id r args h K => lpIs h id .ready r ∧ argX1 args fun t8 =>
  lpIs h id .ready r ∧
  joinW (fun (J2 : List AObj → Prop) =>
  runD (lenD T_string (List.set h id (.lp .busy none r)) t8) (List.set h id (.lp .busy none r)) fun t10 h =>
  joinW (fun (J3 : AV → AV → List AObj → Prop) =>
  promV [false, false] [(.int .i64 0), (.int .i64 0)] h fun lv h => key_Words.L1 c id r J3 K (AV.norms h.length h lv) (normH h.length h) h.length (AV.norm h.length h t2) (AV.norm h.length h t8) (AV.norm h.length h t10))
  (fun t2 t4 h => runD (fitD T_sl_int (loadD h t2)) h fun t25 h =>
  runD (buildSliceD T_sl_int 1 [(0, t4)] h.length) h fun t27 h =>
  runDM (appendD T_sl_int h t25 t27 h.length) (appendH T_sl_int h t25 t27) h fun t28 h =>
  runH (storeH T_sl_int h t2 t28) h fun _ h =>
  J2 h))
  (fun h => lpIs h id .busy r ∧ K (.ret (.bool true)) (List.set h id (.lp .ready none r))))
  (fun id r ao h => endX id r ao h
  (fun h => J1 t2 h)
  (fun h => loadRes (fitD T_sl_int (loadD h t2)) fun r0 => K (.ret r0) h)
  (fun i h => exitW i 0 (J1 t2 h) (False))
  (fun l h => False)
  (fun v h => K (.pan v) h)))
  (fun t2 h => runD (fitD T_sl_int (loadD h t2)) h fun t29 h =>
  runH (storeH T_sl_int h t2 t29) h fun _ h =>
  loadRes (fitD T_sl_int (loadD h t2)) fun r0 => K (.ret r0) h))
  (fun v h => K (.pan v) h)
def key_pieces.loops : Nat → LInfo
  | _ => ⟨[], [], [], [], [], []⟩
def key_pieces.H (c : Ctx) (t0 : AV) (h : List AObj) (K : AOut → List AObj → Prop) : Prop :=
  boxW T_string t0 h fun t1 h =>
  K (.ret (.fn (.func 145) [] [t1])) h
def key_pieces_1.loops : Nat → LInfo
  | 0 => ⟨[], [], [0, 1], [], [], []⟩
  | _ => ⟨[], [], [], [], [], []⟩
def key_pieces_1.L1 (c : Ctx) (J1 : List AObj → Prop) (K : AOut → List AObj → Prop) (lv : List AV) (h0 : List AObj) (n0 : Nat) (c0 : AV) (c1 : AV) : Prop :=
  ∃ I : Nat → List AV → List AObj → Prop, (∃ n, I n lv h0) ∧ ∀ n h, I n [] h →
    runD (fitD T_string (loadD h c1)) h fun t4 h =>
    runD (lenD T_string h t4) h fun t5 h =>
    runD (binD T_int .gtr t5 (.int .i64 0)) h fun t6 h =>
    condW t6
    (runD (fitD T_string (loadD h c1)) h fun t7 h =>
    runD (lenD T_string h t7) h fun t8 h =>
    runD (minD (.int .i64 7) t8) h fun t9 h =>
    runD (fitD T_string (loadD h c1)) h fun t11 h =>
    runD (sliceD T_string h t11 none (some t9) none) h fun t13 h =>
    callW false c c0 [t13] h (fun t14 h =>
    runD (unD .not t14) h fun t15 h =>
    condW t15
    (K (.ret (.tup [])) h)
    (runD (fitD T_string (loadD h c1)) h fun t16 h =>
    runD (sliceD T_string h t16 (some t9) none none) h fun t18 h =>
    runH (storeH T_string h c1 t18) h fun _ h =>
    (∃ m, m < n ∧ I m (AV.norms n0 h []) (normH n0 h)) ∧ AV.norms n0 h [c0, c1] = [c0, c1]))
    (fun v h => K (.pan v) h))
    (J1 h)
def key_pieces_1.H (c : Ctx) (t0 : AV) (t1 : AV) (h : List AObj) (K : AOut → List AObj → Prop) : Prop :=
  joinW (fun (J1 : List AObj → Prop) =>
  promV [] [] h fun lv h => key_pieces_1.L1 c J1 K (AV.norms h.length h lv) (normH h.length h) h.length (AV.norm h.length h t0) (AV.norm h.length h t1))
  (fun h => K (.ret (.tup [])) h)
theorem key_Text.eq (F : List (FuncId × Contract)) (S : List (FuncId × Con)) (t0 t1 : AV) (h : List AObj) (K : AOut → List AObj → Prop) : funW (ctx F S key_Text.loops) Try.f101 [t0, t1] h K = key_Text.H (ctx F S key_Text.loops) t0 t1 h K := by kernel_rfl
theorem key_Check.eq (F : List (FuncId × Contract)) (S : List (FuncId × Con)) (t0 : AV) (h : List AObj) (K : AOut → List AObj → Prop) : funW (ctx F S key_Check.loops) Try.f102 [t0] h K = key_Check.H (ctx F S key_Check.loops) t0 h K := by kernel_rfl
theorem key_CheckVal.eq (F : List (FuncId × Contract)) (S : List (FuncId × Con)) (t0 : AV) (h : List AObj) (K : AOut → List AObj → Prop) : funW (ctx F S key_CheckVal.loops) Try.f103 [t0] h K = key_CheckVal.H (ctx F S key_CheckVal.loops) t0 h K := by kernel_rfl
theorem key_Words.eq (F : List (FuncId × Contract)) (S : List (FuncId × Con)) (Is : List (FuncId × (Con → Con))) (t0 : AV) (h : List AObj) (K : AOut → List AObj → Prop) : funW (ctxI F S Is key_Words.loops) Try.f104 [t0] h K = key_Words.H (ctxI F S Is key_Words.loops) t0 h K := by kernel_rfl
theorem key_pieces.eq (F : List (FuncId × Contract)) (S : List (FuncId × Con)) (t0 : AV) (h : List AObj) (K : AOut → List AObj → Prop) : funW (ctx F S key_pieces.loops) Try.f128 [t0] h K = key_pieces.H (ctx F S key_pieces.loops) t0 h K := by kernel_rfl
theorem key_pieces_1.eq (F : List (FuncId × Contract)) (S : List (FuncId × Con)) (l : Nat) (Y : Con) (t0 t1 : AV) (h : List AObj) (K : AOut → List AObj → Prop) : funW ((ctx F S key_pieces_1.loops).withY l Y) Try.f145 [t0, t1] h K = key_pieces_1.H ((ctx F S key_pieces_1.loops).withY l Y) t0 t1 h K := by kernel_rfl
theorem key_Text.at : Try.prog.funcs[101]? = some Try.f101 := by kernel_rfl
theorem key_Text.nm : (Try.f101.name == "runtime.NumGoroutine") = false := by kernel_rfl
theorem key_Text.bd : Try.f101.body.isNone = false := by kernel_rfl
theorem key_Check.at : Try.prog.funcs[102]? = some Try.f102 := by kernel_rfl
theorem key_Check.nm : (Try.f102.name == "runtime.NumGoroutine") = false := by kernel_rfl
theorem key_Check.bd : Try.f102.body.isNone = false := by kernel_rfl
theorem key_CheckVal.at : Try.prog.funcs[103]? = some Try.f103 := by kernel_rfl
theorem key_CheckVal.nm : (Try.f103.name == "runtime.NumGoroutine") = false := by kernel_rfl
theorem key_CheckVal.bd : Try.f103.body.isNone = false := by kernel_rfl
theorem key_Words.at : Try.prog.funcs[104]? = some Try.f104 := by kernel_rfl
theorem key_Words.nm : (Try.f104.name == "runtime.NumGoroutine") = false := by kernel_rfl
theorem key_Words.bd : Try.f104.body.isNone = false := by kernel_rfl
theorem key_pieces.at : Try.prog.funcs[128]? = some Try.f128 := by kernel_rfl
theorem key_pieces.nm : (Try.f128.name == "runtime.NumGoroutine") = false := by kernel_rfl
theorem key_pieces.bd : Try.f128.body.isNone = false := by kernel_rfl
theorem key_pieces_1.at : Try.prog.funcs[145]? = some Try.f145 := by kernel_rfl
theorem key_pieces_1.nm : (Try.f145.name == "runtime.NumGoroutine") = false := by kernel_rfl
theorem key_pieces_1.bd : Try.f145.body.isNone = false := by kernel_rfl
end Lam
