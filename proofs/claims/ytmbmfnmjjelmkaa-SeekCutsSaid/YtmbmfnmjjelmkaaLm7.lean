/- What functions of the program come to, each proved from its code. -/
import Derived.Test.YtmbmfnmjjelmkaaLm6
namespace Lam
open Go Go.Proofs
set_option linter.unusedVariables false
set_option linter.unnecessarySimpa false
set_option linter.unusedSimpArgs false
/-- slots that are blocks, unlike one another and another one -/
def u13 (l : List Int) (ref : Int) : Bool := l.all (fun x => decide (1 ≤ x) && decide (x ≤ 255) && !decide (x = ref)) && decide l.Nodup
theorem u13_iff {l : List Int} {ref : Int} : u13 l ref = true ↔ (∀ x ∈ l, 1 ≤ x ∧ x ≤ 255 ∧ x ≠ ref) ∧ l.Nodup := by
  unfold u13
  simp only [Bool.and_eq_true, List.all_eq_true, decide_eq_true_eq, Bool.not_eq_true', decide_eq_false_iff_not, and_assoc]
theorem u13_no {l : List Int} {ref : Int} {k : Nat} (hk : k < l.length) (h : l.getD k 0 < 1 ∨ 255 < l.getD k 0 ∨ l.getD k 0 = ref ∨ l.getD k 0 ∈ l.take k) : u13 l ref = false := by
  rw [Bool.eq_false_iff]
  intro hu
  obtain ⟨h1, h2⟩ := u13_iff.1 hu
  have := h1 _ (getD_mem l k 0 hk)
  rcases h with h | h | h | h
  · omega
  · omega
  · exact this.2.2 h
  · obtain ⟨j, hj, e⟩ := List.getElem_of_mem h
    rw [List.length_take] at hj
    rw [List.getElem_take] at e
    have hp := List.pairwise_iff_getElem.1 h2 j k (by omega) hk (by omega)
    apply hp
    rw [e, List.getD_eq_getElem?_getD, List.getElem?_eq_getElem hk]; rfl
def lamplighterlaw13_unlike.C : Contract
  | [.sl _ (.ints .i64 l), .int .i64 ref] => some (false, pD (roomy l.length) (.bool (u13 l ref)))
  | _ => none
set_option maxRecDepth 20000 in
theorem lamplighterlaw13_unlike.spec : FSpec Try.prog 38 lamplighterlaw13_unlike.C := by
  refine FSpec.of (ctx_ok (F := [(21, lamplighterref10_In.C)]) (S := []) (by simpa using lamplighterref10_In.spec) (by simp) lamplighterlaw13_unlike.loops) lamplighterlaw13_unlike.at lamplighterlaw13_unlike.nm lamplighterlaw13_unlike.bd ?_
  intro vs b S v news e hS
  unfold lamplighterlaw13_unlike.C at e
  split at e
  rotate_left
  · cases e
  cases e
  rw [lamplighterlaw13_unlike.eq]
  unfold lamplighterlaw13_unlike.H
  simp (maxSteps := 4000000) only [go_sem, Nat.reduceEqDiff, Nat.reduceLT, Nat.reduceAdd, Nat.reduceSub, Nat.reduceLeDiff, List.reduceReplicate, Int.reduceToNat, lamplighterref10_In.C]
  rename_i _ l ref
  have hr := hS
  unfold roomy at hr
  rw [joinW_eq]
  unfold lamplighterlaw13_unlike.L1
  refine loop1 (σ := Nat) (fun k => .int .i64 k) (fun k => []) (fun k => l.length - k) (fun k => k ≤ l.length ∧ u13 (l.take k) ref = true) 0 rfl rfl ⟨Nat.zero_le _, by simp [u13]⟩ ?_
  rintro I back k ⟨hk, hu⟩
  by_cases hkl : k < l.length
  · have d0 : decide ((k : Int) < (l.length : Int)) = true := decide_eq_true (by omega)
    have hrk : roomy (l.take k).length := by unfold roomy; rw [List.length_take]; omega
    by_cases h1 : l.getD k 0 < 1
    · have hf := u13_no (ref := ref) hkl (.inl h1)
      simp only [joinW_eq, h1, hf, lamplighterref10_In.C, decide_true, joinW_eq, guard_tt, guard_tf, guard_ft, guard_ff, Int.reduceEq, Int.reduceLT, Int.reduceLE, decide_false, decide_true, Bool.not_false, Bool.not_true, Bool.not_not, not_true_eq_false, not_false_eq_true, true_implies, false_implies, implies_true, and_true, true_and, reduceCtorEq, Bool.and_self, Bool.or_self, Bool.and_true, Bool.true_and, Bool.false_eq_true, if_true, if_false, go_sem, Nat.reduceEqDiff, Nat.reduceLT, Nat.reduceAdd, Nat.reduceSub, Nat.reduceLeDiff, List.reduceReplicate, Int.reduceToNat]
      exact ⟨fun _ => ⟨⟨by omega, by omega⟩, post_val rfl rfl⟩, fun h => absurd h (by omega)⟩
    · by_cases h2 : 255 < l.getD k 0
      · have hf := u13_no (ref := ref) hkl (.inr (.inl h2))
        simp only [joinW_eq, h1, h2, hf, lamplighterref10_In.C, decide_true, decide_false, joinW_eq, guard_tt, guard_tf, guard_ft, guard_ff, Int.reduceEq, Int.reduceLT, Int.reduceLE, decide_false, decide_true, Bool.not_false, Bool.not_true, Bool.not_not, not_true_eq_false, not_false_eq_true, true_implies, false_implies, implies_true, and_true, true_and, reduceCtorEq, Bool.and_self, Bool.or_self, Bool.and_true, Bool.true_and, Bool.false_eq_true, if_true, if_false, go_sem, Nat.reduceEqDiff, Nat.reduceLT, Nat.reduceAdd, Nat.reduceSub, Nat.reduceLeDiff, List.reduceReplicate, Int.reduceToNat]
        exact ⟨fun _ => ⟨⟨by omega, by omega⟩, ⟨by omega, by omega⟩, post_val rfl rfl⟩, fun h => absurd h (by omega)⟩
      · by_cases h3 : l.getD k 0 = ref
        · have hf := u13_no (ref := ref) hkl (.inr (.inr (.inl h3)))
          have e1 : decide (ref < 1) = false := decide_eq_false (by omega)
          have e2 : decide (255 < ref) = false := decide_eq_false (by omega)
          simp only [joinW_eq, h3, e1, e2, hf, lamplighterref10_In.C, decide_true, decide_false, joinW_eq, guard_tt, guard_tf, guard_ft, guard_ff, Int.reduceEq, Int.reduceLT, Int.reduceLE, decide_false, decide_true, Bool.not_false, Bool.not_true, Bool.not_not, not_true_eq_false, not_false_eq_true, true_implies, false_implies, implies_true, and_true, true_and, reduceCtorEq, Bool.and_self, Bool.or_self, Bool.and_true, Bool.true_and, Bool.false_eq_true, if_true, if_false, go_sem, Nat.reduceEqDiff, Nat.reduceLT, Nat.reduceAdd, Nat.reduceSub, Nat.reduceLeDiff, List.reduceReplicate, Int.reduceToNat]
          exact ⟨fun _ => ⟨⟨by omega, by omega⟩, ⟨by omega, by omega⟩, ⟨by omega, by omega⟩, post_val rfl rfl⟩, fun h => absurd h (by omega)⟩
        · by_cases h4 : l.getD k 0 ∈ l.take k
          · have hf := u13_no (ref := ref) hkl (.inr (.inr (.inr h4)))
            simp only [joinW_eq, h1, h2, h3, h4, hf, lamplighterref10_In.C, decide_true, decide_false, joinW_eq, guard_tt, guard_tf, guard_ft, guard_ff, Int.reduceEq, Int.reduceLT, Int.reduceLE, decide_false, decide_true, Bool.not_false, Bool.not_true, Bool.not_not, not_true_eq_false, not_false_eq_true, true_implies, false_implies, implies_true, and_true, true_and, reduceCtorEq, Bool.and_self, Bool.or_self, Bool.and_true, Bool.true_and, Bool.false_eq_true, if_true, if_false, go_sem, Nat.reduceEqDiff, Nat.reduceLT, Nat.reduceAdd, Nat.reduceSub, Nat.reduceLeDiff, List.reduceReplicate, Int.reduceToNat]
            exact ⟨fun _ => ⟨⟨by omega, by omega⟩, ⟨by omega, by omega⟩, ⟨by omega, by omega⟩, ⟨by omega, by omega⟩, ⟨by omega, by omega⟩, hrk, post_val rfl rfl⟩, fun h => absurd h (by omega)⟩
          · have hn : u13 (l.take (k + 1)) ref = true := by
              obtain ⟨a, b⟩ := u13_iff.1 hu
              rw [take_next l k 0 hkl, u13_iff]
              refine ⟨fun x hx => ?_, ?_⟩
              · rcases List.mem_append.1 hx with hx | hx
                · exact a x hx
                · rw [List.mem_singleton] at hx; subst hx; exact ⟨by omega, by omega, h3⟩
              · rw [List.nodup_append]
                refine ⟨b, by simp, fun x hx y hy => ?_⟩
                rw [List.mem_singleton] at hy; subst hy
                rintro rfl
                exact h4 hx
            simp only [joinW_eq, h1, h2, h3, h4, lamplighterref10_In.C, decide_true, decide_false, joinW_eq, guard_tt, guard_tf, guard_ft, guard_ff, Int.reduceEq, Int.reduceLT, Int.reduceLE, decide_false, decide_true, Bool.not_false, Bool.not_true, Bool.not_not, not_true_eq_false, not_false_eq_true, true_implies, false_implies, implies_true, and_true, true_and, reduceCtorEq, Bool.and_self, Bool.or_self, Bool.and_true, Bool.true_and, Bool.false_eq_true, if_true, if_false, go_sem, Nat.reduceEqDiff, Nat.reduceLT, Nat.reduceAdd, Nat.reduceSub, Nat.reduceLeDiff, List.reduceReplicate, Int.reduceToNat]
            exact ⟨fun _ => ⟨⟨by omega, by omega⟩, ⟨by omega, by omega⟩, ⟨by omega, by omega⟩, ⟨by omega, by omega⟩, ⟨by omega, by omega⟩, hrk, back (k + 1) (by omega) (by rw [wnext (by omega)]) rfl ⟨by omega, hn⟩⟩, fun h => absurd h (by omega)⟩
  · obtain rfl : k = l.length := by omega
    rw [List.take_length] at hu
    simp only [hu, joinW_eq, guard_tt, guard_tf, guard_ft, guard_ff, Int.reduceEq, Int.reduceLT, Int.reduceLE, decide_false, decide_true, Bool.not_false, Bool.not_true, Bool.not_not, not_true_eq_false, not_false_eq_true, true_implies, false_implies, implies_true, and_true, true_and, reduceCtorEq, Bool.and_self, Bool.or_self, Bool.and_true, Bool.true_and, Bool.false_eq_true, if_true, if_false, go_sem, Nat.reduceEqDiff, Nat.reduceLT, Nat.reduceAdd, Nat.reduceSub, Nat.reduceLeDiff, List.reduceReplicate, Int.reduceToNat]
    exact ⟨fun h => absurd h (by omega), fun _ => post_val rfl rfl⟩
end Lam
namespace Lam
open Go Go.Proofs
set_option linter.unusedVariables false
def lamplighterlaw13_SeekCuts.loops : Nat → LInfo
  | 2 => ⟨[], [], [], [(4, none), (3, some [33, 36]), (2, none), (2, some [38, 40]), (2, none), (5, some [42, 47])], [], []⟩
  | 7 => ⟨[], [], [], [(3, none), (2, some [74, 76])], [], []⟩
  | 13 => ⟨[22, 23], [false, false], [0, 1, 2, 4, 11, 16, 17, 18, 20], [], [], []⟩
  | 17 => ⟨[22, 24], [false, false], [0, 1, 2, 4, 11, 16, 17, 18, 20], [], [], []⟩
  | 19 => ⟨[], [], [], [(2, none), (7, some [123, 130])], [], []⟩
  | 21 => ⟨[], [], [], [(2, none), (1, some [135, 136])], [], []⟩
  | 25 => ⟨[27, 28], [false, false], [0, 1, 11, 22, 25], [], [], []⟩
  | 28 => ⟨[], [], [], [(2, none), (1, some [184, 185]), (2, none), (1, some [187, 188]), (2, none), (7, some [190, 197])], [], []⟩
  | _ => ⟨[], [], [], [], [], []⟩
def lamplighterlaw13_SeekCuts.L1 (c : Ctx) (J5 : AV → AV → AV → AV → AV → AV → AV → AV → AV → AV → List AObj → Prop) (K : AOut → List AObj → Prop) (lv : List AV) (h0 : List AObj) (n0 : Nat) (c0 : AV) (c1 : AV) (c2 : AV) (c4 : AV) (c11 : AV) (c16 : AV) (c17 : AV) (c18 : AV) (c20 : AV) : Prop :=
  ∃ I : Nat → List AV → List AObj → Prop, (∃ n, I n lv h0) ∧ ∀ n h, ∀ t22, ∀ t23, I n [t22, t23] h →
    runD (lenD T_sl_int h c0) h fun t96 h =>
    runD (binD T_int .lss t23 t96) h fun t97 h =>
    condW t97
    (joinW (fun (J6 : AV → AV → List AObj → Prop) =>
    guardW t22 true
    (runD (binD T_int .geq t23 c1) h fun t104 h =>
      joinW (fun (J7 : AV → AV → List AObj → Prop) =>
      guardW t104 false
      (runD (fieldAddrD T_api_Seek c20 3) h fun t106 h =>
        runD (fitD T_sl_int (loadD h t106)) h fun t107 h =>
        runD (indexAddrD T_sl_int h c0 t23) h fun t110 h =>
        runD (fitD T_int (loadD h t110)) h fun t111 h =>
        callW false c.noS (.fn (.func 21) [] []) [t107, t111] h (fun t112 h =>
        J7 (.bool false) t112 h)
        (fun _ _ => False))
      (J7 (.bool true) .und h))
      (fun t105 t112 h => runD (pickD t105 (.bool true) t112) h fun t113 h =>
      J6 (.bool true) t113 h))
    (J6 (.bool false) .und h))
    (fun t101 t113 h => runD (pickD t101 t113 (.bool false)) h fun t114 h =>
    runD (binD T_int .add t23 (.int .i64 1)) h fun t99 h =>
    (∃ m, m < n ∧ I m (AV.norms n0 h [t114, t99]) (normH n0 h)) ∧ AV.norms n0 h [c0, c1, c2, c4, c11, c16, c17, c18, c20] = [c0, c1, c2, c4, c11, c16, c17, c18, c20]))
    (J5 c0 c1 c2 c4 c11 c16 c17 c18 c20 t22 h)
def lamplighterlaw13_SeekCuts.L2 (c : Ctx) (J8 : AV → AV → AV → AV → AV → AV → AV → AV → AV → List AObj → Prop) (K : AOut → List AObj → Prop) (lv : List AV) (h0 : List AObj) (n0 : Nat) (c0 : AV) (c1 : AV) (c2 : AV) (c4 : AV) (c11 : AV) (c16 : AV) (c17 : AV) (c18 : AV) (c20 : AV) : Prop :=
  ∃ I : Nat → List AV → List AObj → Prop, (∃ n, I n lv h0) ∧ ∀ n h, ∀ t22, ∀ t24, I n [t22, t24] h →
    runD (fieldAddrD T_api_Seek c20 3) h fun t116 h =>
    runD (fitD T_sl_int (loadD h t116)) h fun t117 h =>
    runD (lenD T_sl_int h t117) h fun t118 h =>
    runD (binD T_int .lss t24 t118) h fun t119 h =>
    condW t119
    (joinW (fun (J9 : AV → AV → List AObj → Prop) =>
    guardW t22 true
    (runD (fieldAddrD T_api_Seek c20 3) h fun t125 h =>
      runD (fitD T_sl_int (loadD h t125)) h fun t126 h =>
      runD (indexAddrD T_sl_int h t126 t24) h fun t128 h =>
      runD (fitD T_int (loadD h t128)) h fun t129 h =>
      callW false c (.fn (.func 21) [] []) [c0, t129] h (fun t130 h =>
      J9 (.bool true) t130 h)
      (fun v h => K (.pan v) h))
    (J9 (.bool false) .und h))
    (fun t123 t130 h => runD (pickD t123 t130 (.bool false)) h fun t131 h =>
    runD (binD T_int .add t24 (.int .i64 1)) h fun t121 h =>
    (∃ m, m < n ∧ I m (AV.norms n0 h [t131, t121]) (normH n0 h)) ∧ AV.norms n0 h [c0, c1, c2, c4, c11, c16, c17, c18, c20] = [c0, c1, c2, c4, c11, c16, c17, c18, c20]))
    (J8 c0 c1 c2 c4 c11 c16 c17 c18 t22 h)
def lamplighterlaw13_SeekCuts.L3 (c : Ctx) (J13 : AV → AV → AV → AV → AV → List AObj → Prop) (K : AOut → List AObj → Prop) (lv : List AV) (h0 : List AObj) (n0 : Nat) (c0 : AV) (c1 : AV) (c11 : AV) (c22 : AV) (c25 : AV) : Prop :=
  ∃ I : Nat → List AV → List AObj → Prop, (∃ n, I n lv h0) ∧ ∀ n h, ∀ t27, ∀ t28, I n [t27, t28] h →
    runD (lenD T_sl_int h c0) h fun t164 h =>
    runD (binD T_int .lss t28 t164) h fun t165 h =>
    condW t165
    (joinW (fun (J14 : AV → AV → List AObj → Prop) =>
    guardW t27 true
    (runD (binD T_int .eql t28 c1) h fun t172 h =>
      joinW (fun (J15 : AV → AV → List AObj → Prop) =>
      guardW t172 false
      (runD (fieldAddrD T_api_Seek c25 3) h fun t174 h =>
        runD (fitD T_sl_int (loadD h t174)) h fun t175 h =>
        runD (indexAddrD T_sl_int h c0 t28) h fun t178 h =>
        runD (fitD T_int (loadD h t178)) h fun t179 h =>
        callW false c.noS (.fn (.func 21) [] []) [t175, t179] h (fun t180 h =>
        J15 (.bool false) t180 h)
        (fun _ _ => False))
      (J15 (.bool true) .und h))
      (fun t173 t180 h => runD (pickD t173 (.bool true) t180) h fun t181 h =>
      J14 (.bool true) t181 h))
    (J14 (.bool false) .und h))
    (fun t169 t181 h => runD (pickD t169 t181 (.bool false)) h fun t182 h =>
    runD (binD T_int .add t28 (.int .i64 1)) h fun t167 h =>
    (∃ m, m < n ∧ I m (AV.norms n0 h [t182, t167]) (normH n0 h)) ∧ AV.norms n0 h [c0, c1, c11, c22, c25] = [c0, c1, c11, c22, c25]))
    (J13 c0 c11 c22 c25 t27 h)
def lamplighterlaw13_SeekCuts.H (c : Ctx) (t0 : AV) (t1 : AV) (t2 : AV) (t3 : AV) (t4 : AV) (h : List AObj) (K : AOut → List AObj → Prop) : Prop :=
  callW false c (.fn (.func 24) [] []) [] h (fun t29 h =>
  runD (lenD T_sl_int h t0) h fun t31 h =>
  runD (binD T_int .gtr t31 (.int .i64 20)) h fun t32 h =>
  joinW (fun (J1 : AV → AV → List AObj → Prop) =>
  guardW t32 false
  (runD (lenD T_sl_bool h t4) h fun t35 h =>
    runD (binD T_int .gtr t35 (.int .i64 60)) h fun t36 h =>
    J1 (.bool false) t36 h)
  (J1 (.bool true) .und h))
  (fun t33 t36 h => runD (pickD t33 (.bool true) t36) h fun t37 h =>
  joinW (fun (J2 : AV → AV → List AObj → Prop) =>
  guardW t37 false
  (runD (binD T_uint8 .eql t2 (.int .u8 0)) h fun t40 h =>
    J2 (.bool false) t40 h)
  (J2 (.bool true) .und h))
  (fun t38 t40 h => runD (pickD t38 (.bool true) t40) h fun t41 h =>
  joinW (fun (J3 : AV → AV → List AObj → Prop) =>
  guardW t41 false
  (runD (convD h T_uint8 T_int t2) h fun t45 h =>
    callW false c (.fn (.func 38) [] []) [t0, t45] h (fun t46 h =>
    runD (unD .not t46) h fun t47 h =>
    J3 (.bool false) t47 h)
    (fun v h => K (.pan v) h))
  (J3 (.bool true) .und h))
  (fun t42 t47 h => runD (pickD t42 (.bool true) t47) h fun t48 h =>
  condW t48
  (K (.ret t29) h)
  (runD (convD h T_uint8 T_int t3) h fun t52 h =>
  runD (buildD T_api_Node [(1, t52), (4, t0)]) h fun t54 h =>
  callW false c (.fn (.func 35) [] []) [t54] h (fun t55 h =>
  runD (extractD t55 0) h fun t56 h =>
  runD (extractD t55 1) h fun t57 h =>
  callW false c (.fn (.func 46) [] []) [(.int .i64 16), t0, t1] h (fun t61 h =>
  runD (extractD t61 0) h fun t62 h =>
  runD (extractD t61 1) h fun t63 h =>
  runD (convD h T_uint8 T_int t2) h fun t68 h =>
  callW false c (.fn (.func 47) [] []) [(.int .i64 16), t0, t1, t68] h (fun t69 h =>
  runD (extractD t69 0) h fun t70 h =>
  runD (extractD t69 1) h fun t71 h =>
  runD (binD T_api_Errno .neq t57 (.int .i64 0)) h fun t73 h =>
  joinW (fun (J4 : AV → AV → List AObj → Prop) =>
  guardW t73 false
  (runD (binD T_api_Errno .neq t63 (.int .i64 0)) h fun t76 h =>
    J4 (.bool false) t76 h)
  (J4 (.bool true) .und h))
  (fun t74 t76 h => runD (pickD t74 (.bool true) t76) h fun t77 h =>
  condW t77
  (K (.ret t29) h)
  (runD (makeSliceD T_sl_int (.int .i64 16) (.int .i64 16) h.length) h fun t80 h =>
  runDM (appendD T_sl_int h t80 t56 h.length) (appendH T_sl_int h t80 t56) h fun t82 h =>
  callW false c (.fn (.func 40) [] []) [t82] h (fun t83 h =>
  runD (extractD t83 0) h fun t84 h =>
  runD (extractD t83 1) h fun t85 h =>
  allocW T_api_Mem h fun t18 h =>
  runH (storeH T_api_Mem h t18 t84) h fun _ h =>
  runD (fitD T_api_Mem (loadD h t18)) h fun t87 h =>
  callW false c (.fn (.func 41) [] []) [t87, t62, t4] h (fun t90 h =>
  runD (extractD t90 0) h fun t91 h =>
  runD (extractD t90 1) h fun t92 h =>
  allocW T_api_Seek h fun t20 h =>
  runH (storeH T_api_Seek h t20 t91) h fun _ h =>
  joinW (fun (J5 : AV → AV → AV → AV → AV → AV → AV → AV → AV → AV → List AObj → Prop) =>
  promV [false, false] [t92, (.int .i64 0)] h fun lv h => lamplighterlaw13_SeekCuts.L1 c J5 K (AV.norms h.length h lv) (normH h.length h) h.length (AV.norm h.length h t0) (AV.norm h.length h t1) (AV.norm h.length h t2) (AV.norm h.length h t4) (AV.norm h.length h t29) (AV.norm h.length h t70) (AV.norm h.length h t71) (AV.norm h.length h t18) (AV.norm h.length h t20))
  (fun t0 t1 t2 t4 t11 t16 t17 t18 t20 t22 h => joinW (fun (J8 : AV → AV → AV → AV → AV → AV → AV → AV → AV → List AObj → Prop) =>
  promV [false, false] [t22, (.int .i64 0)] h fun lv h => lamplighterlaw13_SeekCuts.L2 c J8 K (AV.norms h.length h lv) (normH h.length h) h.length (AV.norm h.length h t0) (AV.norm h.length h t1) (AV.norm h.length h t2) (AV.norm h.length h t4) (AV.norm h.length h t11) (AV.norm h.length h t16) (AV.norm h.length h t17) (AV.norm h.length h t18) (AV.norm h.length h t20))
  (fun t0 t1 t2 t4 t11 t16 t17 t18 t22 h => runD (binD T_api_Errno .neq t17 (.int .i64 0)) h fun t133 h =>
  condW t133
  (joinW (fun (J10 : AV → AV → List AObj → Prop) =>
    guardW t11 true
    (J10 (.bool true) t22 h)
    (J10 (.bool false) .und h))
    (fun t135 t136 h => runD (pickD t135 t136 (.bool false)) h fun t137 h =>
    K (.ret t137) h))
  (runD (fitD T_api_Mem (loadD h t18)) h fun t139 h =>
  callW false c (.fn (.func 41) [] []) [t139, t16, t4] h (fun t142 h =>
  runD (extractD t142 0) h fun t143 h =>
  runD (extractD t142 1) h fun t144 h =>
  allocW T_api_Seek h fun t25 h =>
  runH (storeH T_api_Seek h t25 t143) h fun _ h =>
  joinW (fun (J11 : AV → AV → List AObj → Prop) =>
  guardW t144 true
  (runD (fieldAddrD T_api_Seek t25 3) h fun t147 h =>
    runD (fitD T_sl_int (loadD h t147)) h fun t148 h =>
    runD (indexAddrD T_sl_int h t0 t1) h fun t151 h =>
    runD (fitD T_int (loadD h t151)) h fun t152 h =>
    callW false c.noS (.fn (.func 21) [] []) [t148, t152] h (fun t153 h =>
    joinW (fun (J12 : AV → AV → List AObj → Prop) =>
    guardW t153 false
    (runD (fieldAddrD T_api_Seek t25 3) h fun t155 h =>
      runD (fitD T_sl_int (loadD h t155)) h fun t156 h =>
      runD (convD h T_uint8 T_int t2) h fun t158 h =>
      callW false c.noS (.fn (.func 21) [] []) [t156, t158] h (fun t159 h =>
      J12 (.bool false) t159 h)
      (fun _ _ => False))
    (J12 (.bool true) .und h))
    (fun t154 t159 h => runD (pickD t154 (.bool true) t159) h fun t160 h =>
    J11 (.bool true) t160 h))
    (fun _ _ => False))
  (J11 (.bool false) .und h))
  (fun t146 t160 h => runD (pickD t146 t160 (.bool false)) h fun t161 h =>
  joinW (fun (J13 : AV → AV → AV → AV → AV → List AObj → Prop) =>
  promV [false, false] [t161, (.int .i64 0)] h fun lv h => lamplighterlaw13_SeekCuts.L3 c J13 K (AV.norms h.length h lv) (normH h.length h) h.length (AV.norm h.length h t0) (AV.norm h.length h t1) (AV.norm h.length h t11) (AV.norm h.length h t22) (AV.norm h.length h t25))
  (fun t0 t11 t22 t25 t27 h => joinW (fun (J16 : AV → AV → List AObj → Prop) =>
  guardW t11 true
  (J16 (.bool true) t22 h)
  (J16 (.bool false) .und h))
  (fun t184 t185 h => runD (pickD t184 t185 (.bool false)) h fun t186 h =>
  joinW (fun (J17 : AV → AV → List AObj → Prop) =>
  guardW t186 true
  (J17 (.bool true) t27 h)
  (J17 (.bool false) .und h))
  (fun t187 t188 h => runD (pickD t187 t188 (.bool false)) h fun t189 h =>
  joinW (fun (J18 : AV → AV → List AObj → Prop) =>
  guardW t189 true
  (runD (fieldAddrD T_api_Seek t25 3) h fun t191 h =>
    runD (fitD T_sl_int (loadD h t191)) h fun t192 h =>
    runD (lenD T_sl_int h t192) h fun t193 h =>
    runD (lenD T_sl_int h t0) h fun t195 h =>
    runD (binD T_int .add t195 (.int .i64 1)) h fun t196 h =>
    runD (binD T_int .leq t193 t196) h fun t197 h =>
    J18 (.bool true) t197 h)
  (J18 (.bool false) .und h))
  (fun t190 t197 h => runD (pickD t190 t197 (.bool false)) h fun t198 h =>
  K (.ret t198) h))))))
  (fun v h => K (.pan v) h)))))
  (fun v h => K (.pan v) h))
  (fun v h => K (.pan v) h))))
  (fun v h => K (.pan v) h))
  (fun v h => K (.pan v) h))
  (fun v h => K (.pan v) h))))))
  (fun v h => K (.pan v) h)
theorem lamplighterlaw13_SeekCuts.eq (F : List (FuncId × Contract)) (S : List (FuncId × Con)) (t0 t1 t2 t3 t4 : AV) (h : List AObj) (K : AOut → List AObj → Prop) : funW (ctx F S lamplighterlaw13_SeekCuts.loops) Try.f14 [t0, t1, t2, t3, t4] h K = lamplighterlaw13_SeekCuts.H (ctx F S lamplighterlaw13_SeekCuts.loops) t0 t1 t2 t3 t4 h K := by kernel_rfl
end Lam
namespace Lam
open Go Go.Proofs
set_option linter.unusedVariables false
set_option linter.unnecessarySimpa false
set_option linter.unusedSimpArgs false
abbrev SeekCuts_ctx : Ctx := ctx [(24, lamplighterlaw13_awake.C), (38, lamplighterlaw13_unlike.C), (41, lamplighterlaw13_mixed.C), (21, lamplighterref10_In.C), (35, node_Words.C), (46, fast_Cut.C), (47, fast_Swap.C), (40, pmem_New.C)] [] lamplighterlaw13_SeekCuts.loops
set_option maxRecDepth 20000 in
set_option maxHeartbeats 1000000 in
theorem SeekCuts_vc (l : List Int) (n : Int) (ref : Int) (turn : Int) (picks : List Bool) (w_l : wfL (.ints .i64 l)) (n_l : l.length ≤ maxLen) (w_n : (Lit.int .i64 n).wf = true) (w_ref : (Lit.int .u8 ref).wf = true) (w_turn : (Lit.int .u8 turn).wf = true) (w_picks : wfL (.bools picks)) (n_picks : picks.length ≤ maxLen) : lamplighterlaw13_SeekCuts.H SeekCuts_ctx (.sl false (.ints .i64 l)) (.int .i64 n) (.int .u8 ref) (.int .u8 turn) (.sl false (.bools picks)) [] Told := by
  unfold lamplighterlaw13_SeekCuts.H
  simp (maxSteps := 4000000) only [go_sem, Nat.reduceEqDiff, Nat.reduceLT, Nat.reduceAdd, Nat.reduceSub, Nat.reduceLeDiff, List.reduceReplicate, Int.reduceToNat, lamplighterlaw13_awake.C, lamplighterlaw13_unlike.C, lamplighterlaw13_mixed.C, lamplighterref10_In.C, node_Words.C, fast_Cut.C, fast_Swap.C, pmem_New.C]
  have htn := wf_u8 w_turn
  have hrf := wf_u8 w_ref
  have et : IntKind.i64.wrap turn = turn := w64 (by omega) (by omega)
  have er : IntKind.i64.wrap ref = ref := w64 (by omega) (by omega)
  refine ⟨fun h => ?_, fun _ => rfl, fun hg => ?_⟩
  · simp only [Bool.or_eq_false_iff, decide_eq_false_iff_not] at h
    unfold roomy; omega
  simp only [Bool.or_eq_false_iff, decide_eq_false_iff_not, Bool.not_eq_false'] at hg
  obtain ⟨⟨⟨g1, g2⟩, g3⟩, g4⟩ := hg
  rw [et, er]
  rw [er] at g4
  obtain ⟨hu1, hu2⟩ := u13_iff.1 g4
  have hrl : roomy l.length := by unfold roomy; omega
  generalize hn : (⟨0, turn, 0, 0, l⟩ : Nd) = nd
  obtain ⟨Ls, es, hsv⟩ : ∃ (L : List Mic) (e : Int), swapV 16 l n ref = .tup [.sl false (.mics L), .int .i64 e] := by
    unfold swapV; split
    · exact ⟨_, _, rfl⟩
    · exact ⟨_, _, rfl⟩
  cases h1 : ndB nd with
  | false =>
    have hwv : wordsV nd = .tup [.sl false (.ints .i64 []), .int .i64 90] := by unfold wordsV; rw [if_neg (by rw [h1]; decide)]
    obtain ⟨L, e, hiv⟩ : ∃ (L : List Mic) (e : Int), cutV 16 l n = .tup [.sl false (.mics L), .int .i64 e] := by
      unfold cutV; split
      · exact ⟨_, _, rfl⟩
      · exact ⟨_, _, rfl⟩
    simp only [hwv, hiv, hsv, joinW_eq, decide_true, joinW_eq, guard_tt, guard_tf, guard_ft, guard_ff, Int.reduceEq, Int.reduceLT, Int.reduceLE, decide_false, decide_true, Bool.not_false, Bool.not_true, Bool.not_not, not_true_eq_false, not_false_eq_true, true_implies, false_implies, implies_true, and_true, true_and, reduceCtorEq, Bool.and_self, Bool.or_self, Bool.and_true, Bool.true_and, Bool.false_eq_true, if_true, if_false, go_sem, Nat.reduceEqDiff, Nat.reduceLT, Nat.reduceAdd, Nat.reduceSub, Nat.reduceLeDiff, List.reduceReplicate, Int.reduceToNat]
    exact ⟨hrl, hrl, rfl⟩
  | true =>
    have hok := nd_iff.1 h1
    have h13 : l.length ≤ 13 := by have := hok.2.2.2.2.2.2.1; rw [← hn] at this; exact this
    have hwv : wordsV nd = .tup [.sl false (.ints .i64 (wordsNd nd)), .int .i64 0] := by unfold wordsV; rw [if_pos h1]
    by_cases hc : (fmayB 16 l && decide (0 ≤ n) && decide (n ≤ (l.length : Int))) = true
    rotate_left
    · obtain ⟨L, e, he, hiv⟩ : ∃ (L : List Mic) (e : Int), e ≠ 0 ∧ cutV 16 l n = .tup [.sl false (.mics L), .int .i64 e] := by
        unfold cutV
        rw [if_neg hc]; exact ⟨_, _, by decide, rfl⟩
      simp only [hwv, hiv, hsv, he, joinW_eq, decide_true, decide_false, joinW_eq, guard_tt, guard_tf, guard_ft, guard_ff, Int.reduceEq, Int.reduceLT, Int.reduceLE, decide_false, decide_true, Bool.not_false, Bool.not_true, Bool.not_not, not_true_eq_false, not_false_eq_true, true_implies, false_implies, implies_true, and_true, true_and, reduceCtorEq, Bool.and_self, Bool.or_self, Bool.and_true, Bool.true_and, Bool.false_eq_true, if_true, if_false, go_sem, Nat.reduceEqDiff, Nat.reduceLT, Nat.reduceAdd, Nat.reduceSub, Nat.reduceLeDiff, List.reduceReplicate, Int.reduceToNat]
      exact ⟨hrl, hrl, rfl⟩
    · have hiv : cutV 16 l n = .tup [.sl false (.mics (storedV 16 (cutK l (l.length - n.toNat)))), .int .i64 0] := by unfold cutV; rw [if_pos hc]
      have hfm : fmayB 16 l = true := by
        simp only [Bool.and_eq_true] at hc; exact hc.1.1
      simp only [Bool.and_eq_true, decide_eq_true_eq] at hc
      obtain ⟨⟨_, c2⟩, c3⟩ := hc
      have hwl := words_len hok
      have htu : nd.turn = turn := by rw [← hn]
      have hsl : nd.slots = l := by rw [← hn]
      have hpos : ∀ x ∈ l, 0 < x := fun x hx => by have := hu1 x hx; omega
      simp only [hwv, hiv, hsv, joinW_eq, decide_true, decide_false, joinW_eq, guard_tt, guard_tf, guard_ft, guard_ff, Int.reduceEq, Int.reduceLT, Int.reduceLE, decide_false, decide_true, Bool.not_false, Bool.not_true, Bool.not_not, not_true_eq_false, not_false_eq_true, true_implies, false_implies, implies_true, and_true, true_and, reduceCtorEq, Bool.and_self, Bool.or_self, Bool.and_true, Bool.true_and, Bool.false_eq_true, if_true, if_false, go_sem, Nat.reduceEqDiff, Nat.reduceLT, Nat.reduceAdd, Nat.reduceSub, Nat.reduceLeDiff, List.reduceReplicate, Int.reduceToNat]
      have hWl := memW_len hok
      have hWe : memW nd = 0 :: 0 :: 0 :: 0 :: 0 :: 0 :: 0 :: 0 :: 0 :: 0 :: 0 :: 0 :: 0 :: 0 :: 0 :: 0 :: wordsNd nd := rfl
      have hWl16 : (wordsNd nd).length = 16 := hwl
      rw [hwl, ← hWe]
      have hkl := cutK_len l (l.length - n.toNat)
      obtain ⟨eb, et2, ea, eR, hmx, z1, z2, z3, hMl, hMay⟩ := memW_mix hok (cut_chain h13 (k := l.length - n.toNat) (by omega)) (by rw [hkl]; exact cut_held h13 hpos (n := n.toNat) (by omega)) (by rw [hsl]; unfold cutZs; rw [Nat.sub_zero, List.take_length]) (by rw [hkl]; omega) picks
      have hbeg := memW_begin hok
      generalize hS0 : (⟨1, nd.turn, if downB nd.turn = true then 12 else 0, [], false⟩ : Sk) = s0 at *
      rw [hbeg, Option.getD_some] at hmx
      have hWd : ∃ W, W = memW nd := ⟨_, rfl⟩
      have hnew : newM (memW nd) = .tup [memV (memW nd) (memW nd) [], .int .i64 0] := by unfold newM; rw [show szB (memW nd).length = true from by rw [hWl]; decide]; rfl
      have hokM : OkM (memW nd) (memW nd) [] := (begun_new (w := memW nd) (by omega) (by omega)).ok
      have hsw : n < (l.length : Int) → swapV 16 l n ref = .tup [.sl false (.mics (storedV 16 [⟨(n.toNat : Int), ref⟩])), .int .i64 0] := fun h => by
        unfold swapV
        rw [show ((n.toNat : Nat) : Int) = n by omega, if_pos]
        simp only [Bool.and_eq_true, decide_eq_true_eq]
        exact ⟨⟨⟨hfm, by omega⟩, c2⟩, h⟩
      have hsn : ¬ n < (l.length : Int) → es ≠ 0 := fun h => by
        unfold swapV at hsv
        rw [if_neg (by simp only [Bool.and_eq_true, decide_eq_true_eq]; rintro ⟨_, hh⟩; exact h hh)] at hsv
        simp only [AV.tup.injEq, List.cons.injEq, AV.int.injEq] at hsv
        rw [← hsv.2.1.2]; decide
      have hsmix : n < (l.length : Int) → _ := fun h => memW_mix hok (swap_chain h13 (n := n.toNat) (by omega) ref) (by exact swap_held h13 hpos (n := n.toNat) (by omega) (by omega)) (by rw [hsl]; rfl) (by simp) picks
      rw [hbeg, Option.getD_some] at hsmix
      generalize memW nd = W at *
      simp only [pmem_New.C, hnew, memV, lamplighterlaw13_mixed.C, hbeg, Option.getD_some, hmx, Sk.V, joinW_eq, guard_tt, guard_tf, guard_ft, guard_ff, Int.reduceEq, Int.reduceLT, Int.reduceLE, decide_false, decide_true, Bool.not_false, Bool.not_true, Bool.not_not, not_true_eq_false, not_false_eq_true, true_implies, false_implies, implies_true, and_true, true_and, reduceCtorEq, Bool.and_self, Bool.or_self, Bool.and_true, Bool.true_and, Bool.false_eq_true, if_true, if_false, go_sem, Nat.reduceEqDiff, Nat.reduceLT, Nat.reduceAdd, Nat.reduceSub, Nat.reduceLeDiff, List.reduceReplicate, Int.reduceToNat]
      refine ⟨hrl, hrl, by unfold roomy; omega, by unfold roomy; omega, by unfold roomy; omega, ⟨hokM, by omega, hMl, by omega, hMay, ⟨_, rfl, hokM.small (by decide)⟩⟩, ?_⟩
      have hRl : roomy eR.length := by unfold roomy; omega
      unfold lamplighterlaw13_SeekCuts.L1
      refine loop2 (σ := Nat) (fun j => .bool true) (fun j => .int .i64 j) (fun j => [.row .fro 1 (.ints .i64 W), .box (.agg [.sl false (.ints .i64 W), .sl false (.ints .i64 W), .sl false (.pends [])]), .box (.agg [.int .i64 eb, .int .i64 et2, .int .i64 ea, .sl false (.ints .i64 eR), .bool true])]) (fun j => l.length - j) (fun j => j ≤ l.length) 0 rfl rfl (Nat.zero_le _) ?_
      intro I back j hj
      by_cases hjl : j < l.length
      · have hb := back (j + 1) (n := l.length - j) (by omega) rfl rfl (by omega)
        have d1 : decide ((j : Int) < (l.length : Int)) = true := decide_eq_true (by omega)
        by_cases hjn : n ≤ (j : Int)
        · have d2 : decide (n ≤ (j : Int)) = true := decide_eq_true hjn
          simp only [joinW_eq, d1, d2, wnext (show j < 4611686018427387904 by omega), joinW_eq, guard_tt, guard_tf, guard_ft, guard_ff, Int.reduceEq, Int.reduceLT, Int.reduceLE, decide_false, decide_true, Bool.not_false, Bool.not_true, Bool.not_not, not_true_eq_false, not_false_eq_true, true_implies, false_implies, implies_true, and_true, true_and, reduceCtorEq, Bool.and_self, Bool.or_self, Bool.and_true, Bool.true_and, Bool.false_eq_true, if_true, if_false, go_sem, Nat.reduceEqDiff, Nat.reduceLT, Nat.reduceAdd, Nat.reduceSub, Nat.reduceLeDiff, List.reduceReplicate, Int.reduceToNat] at hb ⊢
          exact hb
        · have d2 : decide (n ≤ (j : Int)) = false := decide_eq_false hjn
          have hm : l.getD j 0 ∈ eR := by
            obtain ⟨v, hv, rfl⟩ := z3 j (by omega)
            exact hv
          simp only [joinW_eq, d1, d2, hm, decide_true, lamplighterref10_In.C, wnext (show j < 4611686018427387904 by omega), joinW_eq, guard_tt, guard_tf, guard_ft, guard_ff, Int.reduceEq, Int.reduceLT, Int.reduceLE, decide_false, decide_true, Bool.not_false, Bool.not_true, Bool.not_not, not_true_eq_false, not_false_eq_true, true_implies, false_implies, implies_true, and_true, true_and, reduceCtorEq, Bool.and_self, Bool.or_self, Bool.and_true, Bool.true_and, Bool.false_eq_true, if_true, if_false, go_sem, Nat.reduceEqDiff, Nat.reduceLT, Nat.reduceAdd, Nat.reduceSub, Nat.reduceLeDiff, List.reduceReplicate, Int.reduceToNat] at hb ⊢
          exact ⟨⟨by omega, by omega⟩, hRl, hb⟩
      · obtain rfl : j = l.length := by omega
        have d1 : decide ((l.length : Int) < (l.length : Int)) = false := decide_eq_false (by omega)
        clear back
        simp only [d1, joinW_eq, guard_tt, guard_tf, guard_ft, guard_ff, Int.reduceEq, Int.reduceLT, Int.reduceLE, decide_false, decide_true, Bool.not_false, Bool.not_true, Bool.not_not, not_true_eq_false, not_false_eq_true, true_implies, false_implies, implies_true, and_true, true_and, reduceCtorEq, Bool.and_self, Bool.or_self, Bool.and_true, Bool.true_and, Bool.false_eq_true, if_true, if_false, go_sem, Nat.reduceEqDiff, Nat.reduceLT, Nat.reduceAdd, Nat.reduceSub, Nat.reduceLeDiff, List.reduceReplicate, Int.reduceToNat]
        unfold lamplighterlaw13_SeekCuts.L2
        refine loop2 (σ := Nat) (fun j => .bool true) (fun j => .int .i64 j) (fun j => [.row .fro 1 (.ints .i64 W), .box (.agg [.sl false (.ints .i64 W), .sl false (.ints .i64 W), .sl false (.pends [])]), .box (.agg [.int .i64 eb, .int .i64 et2, .int .i64 ea, .sl false (.ints .i64 eR), .bool true])]) (fun j => eR.length - j) (fun j => j ≤ eR.length) 0 rfl rfl (Nat.zero_le _) ?_
        intro I2 back2 j hj2
        by_cases hjl2 : j < eR.length
        · have hb := back2 (j + 1) (n := eR.length - j) (by omega) rfl rfl (by omega)
          have d1 : decide ((j : Int) < (eR.length : Int)) = true := decide_eq_true (by omega)
          have hm : eR.getD j 0 ∈ l := z1 _ (getD_mem eR j 0 hjl2)
          simp only [joinW_eq, d1, hm, decide_true, lamplighterref10_In.C, wnext (show j < 4611686018427387904 by omega), joinW_eq, guard_tt, guard_tf, guard_ft, guard_ff, Int.reduceEq, Int.reduceLT, Int.reduceLE, decide_false, decide_true, Bool.not_false, Bool.not_true, Bool.not_not, not_true_eq_false, not_false_eq_true, true_implies, false_implies, implies_true, and_true, true_and, reduceCtorEq, Bool.and_self, Bool.or_self, Bool.and_true, Bool.true_and, Bool.false_eq_true, if_true, if_false, go_sem, Nat.reduceEqDiff, Nat.reduceLT, Nat.reduceAdd, Nat.reduceSub, Nat.reduceLeDiff, List.reduceReplicate, Int.reduceToNat] at hb ⊢
          exact ⟨⟨by omega, by omega⟩, hrl, hb⟩
        · obtain rfl : j = eR.length := by omega
          have d1 : decide ((eR.length : Int) < (eR.length : Int)) = false := decide_eq_false (by omega)
          clear back2
          simp only [d1, joinW_eq, guard_tt, guard_tf, guard_ft, guard_ff, Int.reduceEq, Int.reduceLT, Int.reduceLE, decide_false, decide_true, Bool.not_false, Bool.not_true, Bool.not_not, not_true_eq_false, not_false_eq_true, true_implies, false_implies, implies_true, and_true, true_and, reduceCtorEq, Bool.and_self, Bool.or_self, Bool.and_true, Bool.true_and, Bool.false_eq_true, if_true, if_false, go_sem, Nat.reduceEqDiff, Nat.reduceLT, Nat.reduceAdd, Nat.reduceSub, Nat.reduceLeDiff, List.reduceReplicate, Int.reduceToNat]
          by_cases hnl : n < (l.length : Int)
          rotate_left
          · have hes := hsn hnl
            simp only [hes, decide_false, joinW_eq, joinW_eq, guard_tt, guard_tf, guard_ft, guard_ff, Int.reduceEq, Int.reduceLT, Int.reduceLE, decide_false, decide_true, Bool.not_false, Bool.not_true, Bool.not_not, not_true_eq_false, not_false_eq_true, true_implies, false_implies, implies_true, and_true, true_and, reduceCtorEq, Bool.and_self, Bool.or_self, Bool.and_true, Bool.true_and, Bool.false_eq_true, if_true, if_false, go_sem, Nat.reduceEqDiff, Nat.reduceLT, Nat.reduceAdd, Nat.reduceSub, Nat.reduceLeDiff, List.reduceReplicate, Int.reduceToNat]
            exact rfl
          have hsv2 := hsw hnl
          rw [hsv] at hsv2
          obtain ⟨rfl, rfl⟩ : Ls = storedV 16 [⟨(n.toNat : Int), ref⟩] ∧ es = 0 := by
            simpa using hsv2
          obtain ⟨fb, ft, fa, fR, hmy, y1, y2, y3, hNl, hNay⟩ := hsmix hnl
          have hFl : roomy fR.length := by unfold roomy; omega
          have hq : decide (l.getD n.toNat 0 ∈ fR) = true ∨ (decide (l.getD n.toNat 0 ∈ fR) = false ∧ decide (ref ∈ fR) = true) := by
            by_cases hin : l.getD n.toNat 0 ∈ fR
            · exact .inl (decide_eq_true hin)
            · refine .inr ⟨decide_eq_false hin, decide_eq_true ?_⟩
              obtain ⟨v, hv, hw⟩ := y3 n.toNat (by omega)
              rcases hw with rfl | ⟨_, rfl⟩
              · exact absurd hv hin
              · exact hv
          have hpre : OkM W W [] ∧ W.length ≤ 4096 ∧ (storedV 16 [⟨(n.toNat : Int), ref⟩]).length ≤ 1000 ∧ picks.length ≤ 1000 ∧ (∀ x ∈ storedV 16 [⟨(n.toNat : Int), ref⟩], MayN x W.length) ∧ ∃ s, some s0 = some s ∧ smallM W W [] := ⟨hokM, by omega, hNl, by omega, hNay, ⟨_, rfl, hokM.small (by decide)⟩⟩
          have e3 : IntKind.i64.wrap ((l.length : Int) + 1) = ((l.length + 1 : Nat) : Int) := wnext (by omega)
          have e4 : decide ((fR.length : Int) ≤ ((l.length + 1 : Nat) : Int)) = true := decide_eq_true (by omega)
          rcases hq with e1 | ⟨e1, e2⟩
          · simp only [lamplighterlaw13_mixed.C, hbeg, Option.getD_some, hmy, joinW_eq, decide_true, Sk.V, er, e1, lamplighterref10_In.C, joinW_eq, guard_tt, guard_tf, guard_ft, guard_ff, Int.reduceEq, Int.reduceLT, Int.reduceLE, decide_false, decide_true, Bool.not_false, Bool.not_true, Bool.not_not, not_true_eq_false, not_false_eq_true, true_implies, false_implies, implies_true, and_true, true_and, reduceCtorEq, Bool.and_self, Bool.or_self, Bool.and_true, Bool.true_and, Bool.false_eq_true, if_true, if_false, go_sem, Nat.reduceEqDiff, Nat.reduceLT, Nat.reduceAdd, Nat.reduceSub, Nat.reduceLeDiff, List.reduceReplicate, Int.reduceToNat]
            refine ⟨hpre, ⟨c2, hnl⟩, hFl, ?_⟩
            unfold lamplighterlaw13_SeekCuts.L3
            refine loop2 (σ := Nat) (fun j => .bool true) (fun j => .int .i64 j) (fun j => [.row .fro 1 (.ints .i64 W), .box (.agg [.sl false (.ints .i64 W), .sl false (.ints .i64 W), .sl false (.pends [])]), .box (.agg [.int .i64 eb, .int .i64 et2, .int .i64 ea, .sl false (.ints .i64 eR), .bool true]), .box (.agg [.int .i64 fb, .int .i64 ft, .int .i64 fa, .sl false (.ints .i64 fR), .bool true])]) (fun j => l.length - j) (fun j => j ≤ l.length) 0 rfl rfl (Nat.zero_le _) ?_
            intro I3 back3 j hj3
            by_cases hjl3 : j < l.length
            · have hb := back3 (j + 1) (n := l.length - j) (by omega) rfl rfl (by omega)
              have d1 : decide ((j : Int) < (l.length : Int)) = true := decide_eq_true (by omega)
              by_cases hjn : (j : Int) = n
              · have d2 : decide ((j : Int) = n) = true := decide_eq_true hjn
                simp only [joinW_eq, d1, d2, wnext (show j < 4611686018427387904 by omega), joinW_eq, guard_tt, guard_tf, guard_ft, guard_ff, Int.reduceEq, Int.reduceLT, Int.reduceLE, decide_false, decide_true, Bool.not_false, Bool.not_true, Bool.not_not, not_true_eq_false, not_false_eq_true, true_implies, false_implies, implies_true, and_true, true_and, reduceCtorEq, Bool.and_self, Bool.or_self, Bool.and_true, Bool.true_and, Bool.false_eq_true, if_true, if_false, go_sem, Nat.reduceEqDiff, Nat.reduceLT, Nat.reduceAdd, Nat.reduceSub, Nat.reduceLeDiff, List.reduceReplicate, Int.reduceToNat] at hb ⊢
                exact hb
              · have d2 : decide ((j : Int) = n) = false := decide_eq_false hjn
                have hm : l.getD j 0 ∈ fR := by
                  obtain ⟨v, hv, hw⟩ := y3 j hjl3
                  rcases hw with rfl | ⟨hw, _⟩
                  · exact hv
                  · omega
                simp only [joinW_eq, d1, d2, hm, decide_true, lamplighterref10_In.C, wnext (show j < 4611686018427387904 by omega), joinW_eq, guard_tt, guard_tf, guard_ft, guard_ff, Int.reduceEq, Int.reduceLT, Int.reduceLE, decide_false, decide_true, Bool.not_false, Bool.not_true, Bool.not_not, not_true_eq_false, not_false_eq_true, true_implies, false_implies, implies_true, and_true, true_and, reduceCtorEq, Bool.and_self, Bool.or_self, Bool.and_true, Bool.true_and, Bool.false_eq_true, if_true, if_false, go_sem, Nat.reduceEqDiff, Nat.reduceLT, Nat.reduceAdd, Nat.reduceSub, Nat.reduceLeDiff, List.reduceReplicate, Int.reduceToNat] at hb ⊢
                exact ⟨⟨by omega, by omega⟩, hFl, hb⟩
            · obtain rfl : j = l.length := by omega
              have d1 : decide ((l.length : Int) < (l.length : Int)) = false := decide_eq_false (by omega)
              clear back3
              simp only [d1, e3, e4, joinW_eq, guard_tt, guard_tf, guard_ft, guard_ff, Int.reduceEq, Int.reduceLT, Int.reduceLE, decide_false, decide_true, Bool.not_false, Bool.not_true, Bool.not_not, not_true_eq_false, not_false_eq_true, true_implies, false_implies, implies_true, and_true, true_and, reduceCtorEq, Bool.and_self, Bool.or_self, Bool.and_true, Bool.true_and, Bool.false_eq_true, if_true, if_false, go_sem, Nat.reduceEqDiff, Nat.reduceLT, Nat.reduceAdd, Nat.reduceSub, Nat.reduceLeDiff, List.reduceReplicate, Int.reduceToNat]
              exact rfl
          · simp only [lamplighterlaw13_mixed.C, hbeg, Option.getD_some, hmy, joinW_eq, decide_true, Sk.V, er, e1, e2, lamplighterref10_In.C, joinW_eq, guard_tt, guard_tf, guard_ft, guard_ff, Int.reduceEq, Int.reduceLT, Int.reduceLE, decide_false, decide_true, Bool.not_false, Bool.not_true, Bool.not_not, not_true_eq_false, not_false_eq_true, true_implies, false_implies, implies_true, and_true, true_and, reduceCtorEq, Bool.and_self, Bool.or_self, Bool.and_true, Bool.true_and, Bool.false_eq_true, if_true, if_false, go_sem, Nat.reduceEqDiff, Nat.reduceLT, Nat.reduceAdd, Nat.reduceSub, Nat.reduceLeDiff, List.reduceReplicate, Int.reduceToNat]
            refine ⟨hpre, ⟨c2, hnl⟩, hFl, hFl, ?_⟩
            unfold lamplighterlaw13_SeekCuts.L3
            refine loop2 (σ := Nat) (fun j => .bool true) (fun j => .int .i64 j) (fun j => [.row .fro 1 (.ints .i64 W), .box (.agg [.sl false (.ints .i64 W), .sl false (.ints .i64 W), .sl false (.pends [])]), .box (.agg [.int .i64 eb, .int .i64 et2, .int .i64 ea, .sl false (.ints .i64 eR), .bool true]), .box (.agg [.int .i64 fb, .int .i64 ft, .int .i64 fa, .sl false (.ints .i64 fR), .bool true])]) (fun j => l.length - j) (fun j => j ≤ l.length) 0 rfl rfl (Nat.zero_le _) ?_
            intro I3 back3 j hj3
            by_cases hjl3 : j < l.length
            · have hb := back3 (j + 1) (n := l.length - j) (by omega) rfl rfl (by omega)
              have d1 : decide ((j : Int) < (l.length : Int)) = true := decide_eq_true (by omega)
              by_cases hjn : (j : Int) = n
              · have d2 : decide ((j : Int) = n) = true := decide_eq_true hjn
                simp only [joinW_eq, d1, d2, wnext (show j < 4611686018427387904 by omega), joinW_eq, guard_tt, guard_tf, guard_ft, guard_ff, Int.reduceEq, Int.reduceLT, Int.reduceLE, decide_false, decide_true, Bool.not_false, Bool.not_true, Bool.not_not, not_true_eq_false, not_false_eq_true, true_implies, false_implies, implies_true, and_true, true_and, reduceCtorEq, Bool.and_self, Bool.or_self, Bool.and_true, Bool.true_and, Bool.false_eq_true, if_true, if_false, go_sem, Nat.reduceEqDiff, Nat.reduceLT, Nat.reduceAdd, Nat.reduceSub, Nat.reduceLeDiff, List.reduceReplicate, Int.reduceToNat] at hb ⊢
                exact hb
              · have d2 : decide ((j : Int) = n) = false := decide_eq_false hjn
                have hm : l.getD j 0 ∈ fR := by
                  obtain ⟨v, hv, hw⟩ := y3 j hjl3
                  rcases hw with rfl | ⟨hw, _⟩
                  · exact hv
                  · omega
                simp only [joinW_eq, d1, d2, hm, decide_true, lamplighterref10_In.C, wnext (show j < 4611686018427387904 by omega), joinW_eq, guard_tt, guard_tf, guard_ft, guard_ff, Int.reduceEq, Int.reduceLT, Int.reduceLE, decide_false, decide_true, Bool.not_false, Bool.not_true, Bool.not_not, not_true_eq_false, not_false_eq_true, true_implies, false_implies, implies_true, and_true, true_and, reduceCtorEq, Bool.and_self, Bool.or_self, Bool.and_true, Bool.true_and, Bool.false_eq_true, if_true, if_false, go_sem, Nat.reduceEqDiff, Nat.reduceLT, Nat.reduceAdd, Nat.reduceSub, Nat.reduceLeDiff, List.reduceReplicate, Int.reduceToNat] at hb ⊢
                exact ⟨⟨by omega, by omega⟩, hFl, hb⟩
            · obtain rfl : j = l.length := by omega
              have d1 : decide ((l.length : Int) < (l.length : Int)) = false := decide_eq_false (by omega)
              clear back3
              simp only [d1, e3, e4, joinW_eq, guard_tt, guard_tf, guard_ft, guard_ff, Int.reduceEq, Int.reduceLT, Int.reduceLE, decide_false, decide_true, Bool.not_false, Bool.not_true, Bool.not_not, not_true_eq_false, not_false_eq_true, true_implies, false_implies, implies_true, and_true, true_and, reduceCtorEq, Bool.and_self, Bool.or_self, Bool.and_true, Bool.true_and, Bool.false_eq_true, if_true, if_false, go_sem, Nat.reduceEqDiff, Nat.reduceLT, Nat.reduceAdd, Nat.reduceSub, Nat.reduceLeDiff, List.reduceReplicate, Int.reduceToNat]
              exact rfl
theorem SeekCuts_ok : Ok Try.prog SeekCuts_ctx := ctx_ok (by simpa using ⟨lamplighterlaw13_awake.spec, lamplighterlaw13_unlike.spec, lamplighterlaw13_mixed.spec, lamplighterref10_In.spec, node_Words.spec, fast_Cut.spec, fast_Swap.spec, pmem_New.spec⟩) (by simp) _
theorem SeekCuts_law (l : Lst) (n : Int) (ref : Int) (turn : Int) (picks : Lst) (k_l : l.kind = (.int .i64)) (w_l : wfL l) (n_l : l.len ≤ maxLen) (w_n : (Lit.int .i64 n).wf = true) (w_ref : (Lit.int .u8 ref).wf = true) (w_turn : (Lit.int .u8 turn).wf = true) (k_picks : picks.kind = .bool) (w_picks : wfL picks) (n_picks : picks.len ≤ maxLen) : funW SeekCuts_ctx Try.f14 [(.sl false l), (.int .i64 n), (.int .u8 ref), (.int .u8 turn), (.sl false picks)] [] Told := by
  obtain ⟨l, rfl⟩ := gkind_ints k_l
  obtain ⟨picks, rfl⟩ := gkind_bools k_picks
  rw [SeekCuts_ctx, lamplighterlaw13_SeekCuts.eq]
  exact SeekCuts_vc l n ref turn picks w_l n_l w_n w_ref w_turn w_picks n_picks
end Lam
