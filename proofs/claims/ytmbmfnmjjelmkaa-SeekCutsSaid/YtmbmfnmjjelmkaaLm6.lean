/- What functions of the program come to, each proved from its code. -/
import Derived.Test.YtmbmfnmjjelmkaaLm5
namespace Lam
open Go Go.Proofs
set_option linter.unusedVariables false
set_option linter.unnecessarySimpa false
set_option linter.unusedSimpArgs false
def fast_node.C : Contract
  | [.int .i64 b] => some (false, pD True (.bool (nodeB b)))
  | _ => none
set_option maxRecDepth 20000 in
theorem fast_node.spec : FSpec Try.prog 88 fast_node.C := by
  refine FSpec.of (ctx_ok (F := []) (S := []) (by simp) (by simp) fast_node.loops) fast_node.at fast_node.nm fast_node.bd ?_
  intro vs b S v news e hS
  unfold fast_node.C at e
  split at e
  rotate_left
  · cases e
  cases e
  rw [fast_node.eq]
  unfold fast_node.H
  simp (maxSteps := 4000000) only [go_sem, Nat.reduceEqDiff, Nat.reduceLT, Nat.reduceAdd, Nat.reduceSub, Nat.reduceLeDiff, List.reduceReplicate, Int.reduceToNat]
  exact ⟨fun _ => by decide, post_val rfl rfl⟩
def fast_Place.C : Contract
  | [.int .i64 b, .int .i64 s] => some (false, pD True (.int .i64 (placeI b s)))
  | _ => none
set_option maxRecDepth 20000 in
theorem fast_Place.spec : FSpec Try.prog 63 fast_Place.C := by
  refine FSpec.of (ctx_ok (F := [(88, fast_node.C)]) (S := []) (by simpa using fast_node.spec) (by simp) fast_Place.loops) fast_Place.at fast_Place.nm fast_Place.bd ?_
  intro vs b S v news e hS
  unfold fast_Place.C at e
  split at e
  rotate_left
  · cases e
  cases e
  rw [fast_Place.eq]
  unfold fast_Place.H
  simp (maxSteps := 4000000) only [go_sem, Nat.reduceEqDiff, Nat.reduceLT, Nat.reduceAdd, Nat.reduceSub, Nat.reduceLeDiff, List.reduceReplicate, Int.reduceToNat, fast_node.C]
  rename_i b s
  have e : (!nodeB b || decide (s < 0) || decide (13 ≤ s)) = !(nodeB b && decide (0 ≤ s) && decide (s < 13)) := by
    cases nodeB b
    · rfl
    · rw [Bool.eq_iff_iff]; simp only [Bool.and_eq_true, Bool.or_eq_true, Bool.not_eq_true', Bool.not_eq_false', Bool.not_eq_true, decide_eq_true_eq, decide_eq_false_iff_not, Bool.or_eq_false_iff, Bool.and_eq_false_iff, beq_iff_eq]; simp <;> omega
  rw [e]
  unfold placeI
  refine ⟨fun h => ?_, fun h => ?_⟩
  · rw [Bool.not_eq_true'] at h
    rw [h]; exact post_val rfl rfl
  · rw [Bool.not_eq_false'] at h
    rw [h]; exact post_val rfl rfl
def fast_Slots.C : Contract
  | [.sl _ (.ints .i64 l), .int .i64 b] => some (false, pD (roomy l.length ∧ b ≤ 1099511627776) (.sl false (.ints .i64 (slotsOf l b))))
  | _ => none
set_option maxRecDepth 20000 in
theorem fast_Slots.spec : FSpec Try.prog 58 fast_Slots.C := by
  refine FSpec.of (ctx_ok (F := [(88, fast_node.C), (89, slices_IndexFunc_sl_int_int.C), (64, slices_Clone_sl_int_int.C)]) (S := []) (by simpa using ⟨fast_node.spec, slices_IndexFunc_sl_int_int.spec, slices_Clone_sl_int_int.spec⟩) (by simp) fast_Slots.loops) fast_Slots.at fast_Slots.nm fast_Slots.bd ?_
  intro vs b S v news e hS
  unfold fast_Slots.C at e
  split at e
  rotate_left
  · cases e
  cases e
  rw [fast_Slots.eq]
  unfold fast_Slots.H
  simp (maxSteps := 4000000) only [go_sem, Nat.reduceEqDiff, Nat.reduceLT, Nat.reduceAdd, Nat.reduceSub, Nat.reduceLeDiff, List.reduceReplicate, Int.reduceToNat, fast_node.C, slices_IndexFunc_sl_int_int.C, slices_Clone_sl_int_int.C]
  rename_i _ l b
  obtain ⟨hr, hb⟩ := hS
  unfold roomy at hr
  cases hn : nodeB b with
  | false =>
    refine ⟨fun h => ?_, fun h => by simp at h⟩
    unfold slotsOf; rw [hn]; exact post_val rfl rfl
  | true =>
    have hbb := (node_iff hb).1 hn
    have e1 : IntKind.i64.wrap (b + 16) = b + 16 := w64 (by omega) (by omega)
    have e2 : IntKind.i64.wrap (b + 3) = b + 3 := w64 (by omega) (by omega)
    rw [e1, e2]
    by_cases hlt : (l.length : Int) < b + 16
    · refine ⟨fun h => ?_, fun h => by simp at h; omega⟩
      unfold slotsOf; rw [hn, decide_eq_false (by omega)]; exact post_val rfl rfl
    · refine ⟨fun h => by simp at h; omega, fun h => ⟨by omega, ?_⟩⟩
      have e3 : (b + 16).toNat - (b + 3).toNat = 13 := by omega
      have e4 : (b + 3).toNat = b.toNat + 3 := by omega
      have hsl : slotsOf l b = upTo ((l.drop (b.toNat + 3)).take 13) := by
        unfold slotsOf; rw [hn, decide_eq_true (by omega)]; rfl
      rw [e3, e4, hsl]
      have hlen : ((l.drop (b.toNat + 3)).take 13).length = 13 := by simp; omega
      generalize (l.drop (b.toNat + 3)).take 13 = z at *
      have hu := upTo_idx z
      have hir := idxI_range lt1 z
      have hul : (upTo z).length ≤ z.length := by rw [← hu]; exact List.length_take_le' _ _
      refine ⟨by unfold roomy; omega, ?_⟩
      rw [joinW_eq]
      refine ⟨fun h => ?_, fun h => ?_⟩
      · rw [if_pos h] at hu
        rw [Int.toNat_natCast, List.take_length] at hu
        simp only [slices_Clone_sl_int_int.C, Int.toNat_natCast, List.take_length, go_sem, Nat.reduceEqDiff, Nat.reduceLT, Nat.reduceAdd, Nat.reduceSub, Nat.reduceLeDiff, List.reduceReplicate, Int.reduceToNat]
        refine ⟨by omega, by unfold roomy; omega, post_val ?_ rfl⟩
        simp only [go_sem, Nat.reduceEqDiff, Nat.reduceLT, Nat.reduceAdd, Nat.reduceSub, Nat.reduceLeDiff, List.reduceReplicate, Int.reduceToNat, List.take_length]
        rw [← hu]
      · rw [if_neg h] at hu
        simp only [slices_Clone_sl_int_int.C, hu, go_sem, Nat.reduceEqDiff, Nat.reduceLT, Nat.reduceAdd, Nat.reduceSub, Nat.reduceLeDiff, List.reduceReplicate, Int.reduceToNat]
        refine ⟨by omega, by unfold roomy; omega, post_val ?_ rfl⟩
        simp only [go_sem, Nat.reduceEqDiff, Nat.reduceLT, Nat.reduceAdd, Nat.reduceSub, Nat.reduceLeDiff, List.reduceReplicate, Int.reduceToNat, List.take_length]
def fmayB (b : Int) (l : List Int) : Bool := nodeB b && decide (l.length ≤ 13) && !l.any lt1
def fast_may.C : Contract
  | [.int .i64 b, .sl _ (.ints .i64 l)] => some (false, pD (roomy l.length) (.bool (fmayB b l)))
  | _ => none
set_option maxRecDepth 20000 in
theorem fast_may.spec : FSpec Try.prog 76 fast_may.C := by
  refine FSpec.of (ctx_ok (F := [(88, fast_node.C), (99, slices_ContainsFunc_sl_int_int.C)]) (S := []) (by simpa using ⟨fast_node.spec, slices_ContainsFunc_sl_int_int.spec⟩) (by simp) fast_may.loops) fast_may.at fast_may.nm fast_may.bd ?_
  intro vs b S v news e hS
  unfold fast_may.C at e
  split at e
  rotate_left
  · cases e
  cases e
  rw [fast_may.eq]
  unfold fast_may.H
  simp (maxSteps := 4000000) only [go_sem, Nat.reduceEqDiff, Nat.reduceLT, Nat.reduceAdd, Nat.reduceSub, Nat.reduceLeDiff, List.reduceReplicate, Int.reduceToNat, fast_node.C, slices_ContainsFunc_sl_int_int.C]
  rename_i b _ l
  have e3 : decide ((l.length : Int) ≤ 13) = decide (l.length ≤ 13) := decide_eq_decide.2 (by omega)
  unfold fmayB
  rw [e3]
  cases (nodeB b && decide (l.length ≤ 13)) with
  | false => simp only [joinW_eq, guard_tt, guard_tf, guard_ft, guard_ff, Int.reduceEq, Int.reduceLT, Int.reduceLE, decide_false, decide_true, Bool.not_false, Bool.not_true, Bool.not_not, not_true_eq_false, not_false_eq_true, true_implies, false_implies, implies_true, and_true, true_and, reduceCtorEq, Bool.and_self, Bool.or_self, Bool.and_true, Bool.true_and, Bool.false_eq_true, if_true, if_false, go_sem, Nat.reduceEqDiff, Nat.reduceLT, Nat.reduceAdd, Nat.reduceSub, Nat.reduceLeDiff, List.reduceReplicate, Int.reduceToNat]; exact post_val rfl rfl
  | true => simp only [joinW_eq, guard_tt, guard_tf, guard_ft, guard_ff, Int.reduceEq, Int.reduceLT, Int.reduceLE, decide_false, decide_true, Bool.not_false, Bool.not_true, Bool.not_not, not_true_eq_false, not_false_eq_true, true_implies, false_implies, implies_true, and_true, true_and, reduceCtorEq, Bool.and_self, Bool.or_self, Bool.and_true, Bool.true_and, Bool.false_eq_true, if_true, if_false, go_sem, Nat.reduceEqDiff, Nat.reduceLT, Nat.reduceAdd, Nat.reduceSub, Nat.reduceLeDiff, List.reduceReplicate, Int.reduceToNat]; exact ⟨hS, post_val rfl rfl⟩
def fast_stored.C : Contract
  | [.int .i64 b, .sl _ (.slots l)] => some (false, pD (l.length ≤ 1000) (.sl false (.mics (storedV b l))))
  | _ => none
set_option maxRecDepth 20000 in
theorem fast_stored.spec : FSpec Try.prog 77 fast_stored.C := by
  refine FSpec.of (ctx_ok (F := [(63, fast_Place.C), (107, micro_Check.C)]) (S := []) (by simpa using ⟨fast_Place.spec, micro_Check.spec⟩) (by simp) fast_stored.loops) fast_stored.at fast_stored.nm fast_stored.bd ?_
  intro vs b S v news e hS
  unfold fast_stored.C at e
  split at e
  rotate_left
  · cases e
  cases e
  rw [fast_stored.eq]
  unfold fast_stored.H
  simp (maxSteps := 4000000) only [go_sem, Nat.reduceEqDiff, Nat.reduceLT, Nat.reduceAdd, Nat.reduceSub, Nat.reduceLeDiff, List.reduceReplicate, Int.reduceToNat, fast_Place.C, micro_Check.C]
  rename_i b _ l
  rw [joinW_eq]
  unfold fast_stored.L1
  refine loop2 (σ := Nat × Nat) (fun s => .sref false 0 s.2 0 (storedN b l s.1).length) (fun s => .int .i64 s.1) (fun s => [.row .own s.2 (.mics (storedN b l s.1))]) (fun s => l.length - s.1) (fun s => s.1 ≤ l.length) (0, 0) rfl rfl (Nat.zero_le _) ?_
  rintro I back ⟨k, v⟩ hk
  simp only [] at hk ⊢
  have hsl := storedN_len b l k
  simp only [fast_Place.C, go_sem, Nat.reduceEqDiff, Nat.reduceLT, Nat.reduceAdd, Nat.reduceSub, Nat.reduceLeDiff, List.reduceReplicate, Int.reduceToNat]
  refine ⟨fun hlt => ⟨by omega, ?_⟩, fun hge => ?_⟩
  · have ew : IntKind.i64.wrap ((k : Int) + 1) = ((k + 1 : Nat) : Int) := wnext (by omega)
    have hdec : (decide (((k + 1 : Nat) : Int) = (l.length : Int)) || !decide (IntKind.i64.wrap ((placeI b (l.getD (k + 1) ⟨0, 0⟩).at_).tdiv 8) = IntKind.i64.wrap ((placeI b (l.getD k ⟨0, 0⟩).at_).tdiv 8))) = lastB b l k := by
      unfold lastB
      have : decide (((k + 1 : Nat) : Int) = (l.length : Int)) = decide (k + 1 = l.length) := decide_eq_decide.2 (by omega)
      rw [this]; rfl
    have hnx : storedN b l (k + 1) = storedN b l k ++ ⟨1, placeI b (l.getD k ⟨0, 0⟩).at_, (l.getD k ⟨0, 0⟩).val⟩ :: (if lastB b l k = true then [⟨2, sLine b (l.getD k ⟨0, 0⟩), 0⟩] else []) := rfl
    have hl1 := storedN_len b l (k + 1)
    rw [ew, Int.toNat_natCast, hdec]
    refine ⟨by unfold roomy; simp; omega, fun h => ⟨by omega, by decide⟩, ?_⟩
    rw [joinW_eq]
    refine ⟨fun h => ⟨by decide, ?_, ?_⟩, fun h => ?_⟩
    · rw [h] at hnx
      have : storedN b l (k + 1) = storedN b l k ++ [⟨1, placeI b (l.getD k ⟨0, 0⟩).at_, (l.getD k ⟨0, 0⟩).val⟩, ⟨2, IntKind.i64.wrap ((placeI b (l.getD k ⟨0, 0⟩).at_).tdiv 8), 0⟩] := hnx
      rw [← this]; unfold roomy; omega
    · rw [h] at hnx
      have : storedN b l (k + 1) = storedN b l k ++ [⟨1, placeI b (l.getD k ⟨0, 0⟩).at_, (l.getD k ⟨0, 0⟩).val⟩, ⟨2, IntKind.i64.wrap ((placeI b (l.getD k ⟨0, 0⟩).at_).tdiv 8), 0⟩] := hnx
      rw [← this]
      simp only [go_sem, Nat.reduceEqDiff, Nat.reduceLT, Nat.reduceAdd, Nat.reduceSub, Nat.reduceLeDiff, List.reduceReplicate, Int.reduceToNat]
      exact back (k + 1, v + 1 + 1) (by show _ - (k + 1) < _ - k; omega) rfl rfl (by show k + 1 ≤ _; omega)
    · rw [h] at hnx
      have : storedN b l (k + 1) = storedN b l k ++ [⟨1, placeI b (l.getD k ⟨0, 0⟩).at_, (l.getD k ⟨0, 0⟩).val⟩] := hnx
      rw [← this]
      simp only [go_sem, Nat.reduceEqDiff, Nat.reduceLT, Nat.reduceAdd, Nat.reduceSub, Nat.reduceLeDiff, List.reduceReplicate, Int.reduceToNat]
      exact back (k + 1, v + 1) (by show _ - (k + 1) < _ - k; omega) rfl rfl (by show k + 1 ≤ _; omega)
  · obtain rfl : k = l.length := by omega
    have hst : (sizedB 4096 && (storedN b l l.length).all fun x => mmay x 4096) = stepsB (storedN b l l.length) 4096 := rfl
    simp only [micro_Check.C, hst, List.take_length, go_sem, Nat.reduceEqDiff, Nat.reduceLT, Nat.reduceAdd, Nat.reduceSub, Nat.reduceLeDiff, List.reduceReplicate, Int.reduceToNat]
    unfold storedV
    refine ⟨by unfold roomy; omega, fun h => ?_, fun h => ?_⟩
    · rw [h]; exact post_val rfl rfl
    · rw [h]
      refine post_val ?_ rfl
      simp only [go_sem, Nat.reduceEqDiff, Nat.reduceLT, Nat.reduceAdd, Nat.reduceSub, Nat.reduceLeDiff, List.reduceReplicate, Int.reduceToNat, List.take_length, if_true]
def swapV (b : Int) (l : List Int) (pos ref : Int) : AV :=
  if (fmayB b l && decide (1 ≤ ref) && decide (0 ≤ pos) && decide (pos < (l.length : Int))) = true then .tup [.sl false (.mics (storedV b [⟨pos, ref⟩])), .int .i64 0] else .tup [.sl false (.mics []), .int .i64 1]
def cutV (b : Int) (l : List Int) (n : Int) : AV :=
  if (fmayB b l && decide (0 ≤ n) && decide (n ≤ (l.length : Int))) = true then .tup [.sl false (.mics (storedV b (cutK l (l.length - n.toNat)))), .int .i64 0] else .tup [.sl false (.mics []), .int .i64 1]
def fast_Swap.C : Contract
  | [.int .i64 b, .sl _ (.ints .i64 l), .int .i64 pos, .int .i64 ref] => some (false, pD (roomy l.length) (swapV b l pos ref))
  | _ => none
set_option maxRecDepth 20000 in
theorem fast_Swap.spec : FSpec Try.prog 47 fast_Swap.C := by
  refine FSpec.of (ctx_ok (F := [(76, fast_may.C), (77, fast_stored.C)]) (S := []) (by simpa using ⟨fast_may.spec, fast_stored.spec⟩) (by simp) fast_Swap.loops) fast_Swap.at fast_Swap.nm fast_Swap.bd ?_
  intro vs b S v news e hS
  unfold fast_Swap.C at e
  split at e
  rotate_left
  · cases e
  cases e
  rw [fast_Swap.eq]
  unfold fast_Swap.H
  simp (maxSteps := 4000000) only [go_sem, Nat.reduceEqDiff, Nat.reduceLT, Nat.reduceAdd, Nat.reduceSub, Nat.reduceLeDiff, List.reduceReplicate, Int.reduceToNat, fast_may.C, fast_stored.C]
  rename_i b _ l pos ref
  have e : (!fmayB b l || decide (ref < 1) || decide (pos < 0) || decide ((l.length : Int) ≤ pos)) = !(fmayB b l && decide (1 ≤ ref) && decide (0 ≤ pos) && decide (pos < (l.length : Int))) := by
    rw [Bool.eq_iff_iff]; cases fmayB b l <;> simp <;> omega
  rw [e]
  refine ⟨hS, fun h => ?_, fun h => ?_⟩
  · unfold swapV; rw [Bool.not_eq_true'] at h; rw [h]; exact post_val rfl rfl
  · rw [Bool.not_eq_false'] at h
    unfold swapV; rw [if_pos h]
    exact post_val rfl rfl
def fast_Cut.C : Contract
  | [.int .i64 b, .sl _ (.ints .i64 l), .int .i64 n] => some (false, pD (roomy l.length) (cutV b l n))
  | _ => none
set_option maxRecDepth 20000 in
theorem fast_Cut.spec : FSpec Try.prog 46 fast_Cut.C := by
  refine FSpec.of (ctx_ok (F := [(76, fast_may.C), (77, fast_stored.C)]) (S := []) (by simpa using ⟨fast_may.spec, fast_stored.spec⟩) (by simp) fast_Cut.loops) fast_Cut.at fast_Cut.nm fast_Cut.bd ?_
  intro vs b S v news e hS
  unfold fast_Cut.C at e
  split at e
  rotate_left
  · cases e
  cases e
  rw [fast_Cut.eq]
  unfold fast_Cut.H
  simp (maxSteps := 4000000) only [go_sem, Nat.reduceEqDiff, Nat.reduceLT, Nat.reduceAdd, Nat.reduceSub, Nat.reduceLeDiff, List.reduceReplicate, Int.reduceToNat, fast_may.C, fast_stored.C]
  rename_i b _ l n
  have e : (!fmayB b l || decide (n < 0) || decide ((l.length : Int) < n)) = !(fmayB b l && decide (0 ≤ n) && decide (n ≤ (l.length : Int))) := by
    rw [Bool.eq_iff_iff]; cases fmayB b l <;> simp <;> omega
  rw [e]
  refine ⟨hS, fun h => ?_, fun h => ?_⟩
  · unfold cutV; rw [Bool.not_eq_true'] at h; rw [h]; exact post_val rfl rfl
  · rw [Bool.not_eq_false'] at h
    have hv : cutV b l n = .tup [.sl false (.mics (storedV b (cutK l (l.length - n.toNat)))), .int .i64 0] := by
      unfold cutV; rw [if_pos h]
    simp only [Bool.and_eq_true, decide_eq_true_eq, fmayB] at h
    have hl : l.length ≤ 13 := h.1.1.1.2
    obtain ⟨p, rfl⟩ := Int.eq_ofNat_of_zero_le h.1.2
    have hp : p ≤ l.length := by have := h.2; omega
    rw [w64 (n := (l.length : Int) - (p : Nat)) (by omega) (by omega), hv]
    rw [joinW_eq]
    unfold fast_Cut.L1
    refine loop2 (σ := Nat × Nat) (fun s => .sref false 0 s.2 0 s.1) (fun s => .int .i64 s.1) (fun s => [.row .own s.2 (.slots (cutK l s.1))]) (fun s => l.length - p - s.1) (fun s => s.1 ≤ l.length - p) (0, 0) rfl rfl (Nat.zero_le _) ?_
    rintro I back ⟨k, v⟩ hk
    simp only [] at hk ⊢
    have hkl := cutK_len l k
    simp only [go_sem, Nat.reduceEqDiff, Nat.reduceLT, Nat.reduceAdd, Nat.reduceSub, Nat.reduceLeDiff, List.reduceReplicate, Int.reduceToNat, hkl]
    refine ⟨fun hlt => ?_, fun hge => ?_⟩
    · rw [w64 (n := (l.length : Int) - 1) (by omega) (by omega), w64 (n := (l.length : Int) - 1 - k) (by omega) (by omega)]
      have e2 : (l.length : Int) - 1 - k = (l.length - 1 - k : Nat) := by omega
      rw [e2, ← cutK_next, cutK_len]
      refine ⟨by unfold roomy; omega, ?_⟩
      exact back (k + 1, v + 1) (by show _ - (k + 1) < _ - k; omega) (by rw [wnext (by omega)]) rfl (by show k + 1 ≤ _; omega)
    · obtain rfl : k = l.length - p := by omega
      have e4 : (cutK l (l.length - p)).take (l.length - p) = cutK l (l.length - p) := List.take_of_length_le (by rw [cutK_len]; exact Nat.le_refl _)
      rw [e4]
      simp only [fast_stored.C, go_sem, Nat.reduceEqDiff, Nat.reduceLT, Nat.reduceAdd, Nat.reduceSub, Nat.reduceLeDiff, List.reduceReplicate, Int.reduceToNat]
      exact ⟨by rw [cutK_len]; omega, post_val rfl rfl⟩
end Lam
namespace Lam
open Go Go.Proofs
set_option linter.unusedVariables false
set_option linter.unnecessarySimpa false
set_option linter.unusedSimpArgs false
def node_Check.C : Contract
  | [.agg [.int .i64 a, .int .i64 b, .int .i64 c, .int .i64 d, .sl false (.ints .i64 l)]] => some (false, pD True (.bool (ndB ⟨a, b, c, d, l⟩)))
  | _ => none
set_option maxRecDepth 20000 in
theorem node_Check.spec : FSpec Try.prog 71 node_Check.C := by
  refine FSpec.of (ctx_ok (F := [(98, node_block.C), (99, slices_ContainsFunc_sl_int_int.C)]) (S := []) (by simpa using ⟨node_block.spec, slices_ContainsFunc_sl_int_int.spec⟩) (by simp) node_Check.loops) node_Check.at node_Check.nm node_Check.bd ?_
  intro vs b S v news e hS
  unfold node_Check.C at e
  split at e
  rotate_left
  · cases e
  cases e
  rw [node_Check.eq]
  unfold node_Check.H
  simp (maxSteps := 4000000) only [go_sem, Nat.reduceEqDiff, Nat.reduceLT, Nat.reduceAdd, Nat.reduceSub, Nat.reduceLeDiff, List.reduceReplicate, Int.reduceToNat, node_block.C, slices_ContainsFunc_sl_int_int.C]
  rename_i a b c d l
  have h1 : (a < 0 ∨ 9 < a ∨ b < 0 ∨ 1099511627776 < b ∨ blockB c = false ∨ blockB d = false ∨ 13 < (l.length : Int)) → ndB ⟨a, b, c, d, l⟩ = false := by
    intro h
    rw [Bool.eq_false_iff]
    intro hh
    obtain ⟨q1, q2, q3, q4, q5, q6, q7, q8⟩ := nd_iff.1 hh
    simp only at q1 q2 q3 q4 q5 q6 q7 q8
    unfold blockB at h
    simp only [Bool.and_eq_false_iff, decide_eq_false_iff_not] at h
    omega
  have h2 : ¬ (a < 0 ∨ 9 < a ∨ b < 0 ∨ 1099511627776 < b ∨ blockB c = false ∨ blockB d = false ∨ 13 < (l.length : Int)) → ndB ⟨a, b, c, d, l⟩ = !l.any noBlock := by
    intro h
    simp only [not_or, Bool.not_eq_false] at h
    obtain ⟨q1, q2, q3, q4, q5, q6, q7⟩ := h
    unfold ndB
    rw [decide_eq_true (show 0 ≤ a by omega), decide_eq_true (show a ≤ 9 by omega), decide_eq_true (show 0 ≤ b by omega), decide_eq_true (show b ≤ 1099511627776 by omega), q5, q6, decide_eq_true (show l.length ≤ 13 by omega)]
    rfl
  generalize ndB ⟨a, b, c, d, l⟩ = R at *
  simp only [node_block.C, slices_ContainsFunc_sl_int_int.C, joinW_eq, guard_tt, guard_tf, guard_ft, guard_ff, Int.reduceEq, Int.reduceLT, Int.reduceLE, decide_false, decide_true, Bool.not_false, Bool.not_true, Bool.not_not, not_true_eq_false, not_false_eq_true, true_implies, false_implies, implies_true, and_true, true_and, reduceCtorEq, Bool.and_self, Bool.or_self, Bool.and_true, Bool.true_and, Bool.false_eq_true, if_true, if_false, go_sem, Nat.reduceEqDiff, Nat.reduceLT, Nat.reduceAdd, Nat.reduceSub, Nat.reduceLeDiff, List.reduceReplicate, Int.reduceToNat]
  repeat' (first | (with_reducible apply And.intro) | (with_reducible intro _))
  all_goals first
    | omega
    | (unfold roomy; omega)
    | (exfalso; simp_all; done)
    | (rw [h1 (by grind)]; exact post_val rfl rfl)
    | (rw [h2 (by grind)]; exact post_val rfl rfl)
    | skip
  all_goals trace_state
def node_first.C : Contract
  | [.agg [.int .i64 a, .int .i64 b, .int .i64 c, .int .i64 d, .sl false (.ints .i64 l)]] => some (false, pD (0 ≤ a ∧ a ≤ 9 ∧ 0 ≤ b ∧ b ≤ 1099511627776) (.int .i64 (firstN ⟨a, b, c, d, l⟩)))
  | _ => none
set_option maxRecDepth 20000 in
theorem node_first.spec : FSpec Try.prog 72 node_first.C := by
  refine FSpec.of (ctx_ok (F := []) (S := []) (by simp) (by simp) node_first.loops) node_first.at node_first.nm node_first.bd ?_
  intro vs b S v news e hS
  unfold node_first.C at e
  split at e
  rotate_left
  · cases e
  cases e
  rw [node_first.eq]
  unfold node_first.H
  simp (maxSteps := 4000000) only [go_sem, Nat.reduceEqDiff, Nat.reduceLT, Nat.reduceAdd, Nat.reduceSub, Nat.reduceLeDiff, List.reduceReplicate, Int.reduceToNat]
  rename_i a b c d l
  rw [first_bits hS.1 (by omega) hS.2.2.1 hS.2.2.2]
  exact ⟨by decide, post_val rfl rfl⟩
def wordsV (n : Nd) : AV := if ndB n = true then .tup [.sl false (.ints .i64 (wordsNd n)), .int .i64 0] else .tup [.sl false (.ints .i64 []), .int .i64 90]
def node_Words.C : Contract
  | [.agg [.int .i64 a, .int .i64 b, .int .i64 c, .int .i64 d, .sl false (.ints .i64 l)]] => some (false, pD True (wordsV ⟨a, b, c, d, l⟩))
  | _ => none
set_option maxRecDepth 20000 in
theorem node_Words.spec : FSpec Try.prog 35 node_Words.C := by
  refine FSpec.of (ctx_ok (F := [(71, node_Check.C), (72, node_first.C)]) (S := []) (by simpa using ⟨node_Check.spec, node_first.spec⟩) (by simp) node_Words.loops) node_Words.at node_Words.nm node_Words.bd ?_
  intro vs b S v news e hS
  unfold node_Words.C at e
  split at e
  rotate_left
  · cases e
  cases e
  rw [node_Words.eq]
  unfold node_Words.H
  simp (maxSteps := 4000000) only [go_sem, Nat.reduceEqDiff, Nat.reduceLT, Nat.reduceAdd, Nat.reduceSub, Nat.reduceLeDiff, List.reduceReplicate, Int.reduceToNat, node_Check.C, node_first.C]
  rename_i a b c d l
  refine ⟨fun h => ?_, fun h => ?_⟩
  · unfold wordsV; rw [h]; exact post_val rfl rfl
  · have hok := nd_iff.1 h
    obtain ⟨q1, q2, q3, q4, _, _, q7, _⟩ := hok
    simp only at q1 q2 q3 q4 q7
    have hw : firstN ⟨a, b, c, d, l⟩ :: c :: d :: (l.take 13 ++ List.take (16 - (3 + min 13 l.length)) (List.drop (3 + min 13 l.length) [firstN ⟨a, b, c, d, l⟩, c, d, 0, 0, 0, 0, 0, 0, 0, 0, 0, 0, 0, 0, 0])) = wordsNd ⟨a, b, c, d, l⟩ := by
      unfold wordsNd
      simp only
      rw [take_len l q7, Nat.min_eq_right q7]
      congr 4
      have : ∀ k, k ≤ 13 → List.take (16 - (3 + k)) (List.drop (3 + k) [firstN ⟨a, b, c, d, l⟩, c, d, 0, 0, 0, 0, 0, 0, 0, 0, 0, 0, 0, 0, 0]) = List.replicate (13 - k) 0 := by
        intro k hk
        rcases k with _|_|_|_|_|_|_|_|_|_|_|_|_|_|k <;> first | rfl | omega
      exact this _ q7
    rw [hw]
    unfold wordsV; simp only [h, if_true]
    refine ⟨⟨by decide, by decide, by unfold roomy; omega⟩, ⟨q1, q2, q3, q4⟩, ⟨by decide, by decide⟩, ⟨by decide, by decide⟩, ⟨by decide, by decide⟩, rfl, rfl, rfl, ⟨by decide, by decide⟩, post_val ?_ rfl⟩
    simp only [go_sem, Nat.reduceEqDiff, Nat.reduceLT, Nat.reduceAdd, Nat.reduceSub, Nat.reduceLeDiff, List.reduceReplicate, Int.reduceToNat]
    rw [take_len _ (Nat.le_of_eq (words_len (nd_iff.1 h)))]
def readV (words : List Int) (at_ : Int) : AV := if (decide (at_ < 0) || decide (((words.length / 16 : Nat) : Int) ≤ at_)) = true then .tup [zeroNd.V, .int .i64 1] else match readN (blockAt words at_.toNat) with
  | some n => .tup [n.V, .int .i64 0]
  | none => .tup [zeroNd.V, .int .i64 90]
def node_Read.C : Contract
  | [.sl _ (.ints .i64 l), .int .i64 k] => some (false, pD (roomy l.length) (readV l k))
  | _ => none
set_option maxRecDepth 20000 in
theorem node_Read.spec : FSpec Try.prog 23 node_Read.C := by
  refine FSpec.of (ctx_ok (F := [(58, fast_Slots.C), (35, node_Words.C), (59, slices_Equal_sl_int_int.C)]) (S := []) (by simpa using ⟨fast_Slots.spec, node_Words.spec, slices_Equal_sl_int_int.spec⟩) (by simp) node_Read.loops) node_Read.at node_Read.nm node_Read.bd ?_
  intro vs b S v news e hS
  unfold node_Read.C at e
  split at e
  rotate_left
  · cases e
  cases e
  rw [node_Read.eq]
  unfold node_Read.H
  simp (maxSteps := 4000000) only [go_sem, Nat.reduceEqDiff, Nat.reduceLT, Nat.reduceAdd, Nat.reduceSub, Nat.reduceLeDiff, List.reduceReplicate, Int.reduceToNat, fast_Slots.C, node_Words.C, slices_Equal_sl_int_int.C]
  rename_i l k
  have hrl := hS
  unfold roomy at hS
  have e0 : IntKind.i64.wrap ((l.length : Int).tdiv 16) = ((l.length / 16 : Nat) : Int) := by
    rw [Int.tdiv_eq_ediv_of_nonneg (by omega)]; exact w64 (by omega) (by omega)
  rw [e0]
  unfold readV
  refine ⟨fun _ => by decide, fun h => ?_, fun h => ?_⟩
  · rw [if_pos h]
    refine post_val ?_ rfl
    simp only [zeroNd, go_sem, Nat.reduceEqDiff, Nat.reduceLT, Nat.reduceAdd, Nat.reduceSub, Nat.reduceLeDiff, List.reduceReplicate, Int.reduceToNat]
  · rw [h]
    simp only [Bool.or_eq_false_iff, decide_eq_false_iff_not] at h
    obtain ⟨k, rfl⟩ := Int.eq_ofNat_of_zero_le (show 0 ≤ k by omega)
    have hk : 16 * k + 16 ≤ l.length := by omega
    have e1 : IntKind.i64.wrap (16 * (k : Int)) = 16 * (k : Int) := w64 (by omega) (by omega)
    have e2 : IntKind.i64.wrap ((k : Int) + 1) = (k : Int) + 1 := w64 (by omega) (by omega)
    have e3 : IntKind.i64.wrap (16 * ((k : Int) + 1)) = 16 * ((k : Int) + 1) := w64 (by omega) (by omega)
    have e4 : (16 * ((k : Int) + 1)).toNat - (16 * (k : Int)).toNat = 16 := by omega
    have e5 : (16 * (k : Int)).toNat = 16 * k := by omega
    have eb : (l.drop (16 * k)).take 16 = blockAt l k := rfl
    have hbl : (blockAt l k).length = 16 := by unfold blockAt; simp; omega
    rw [e2, e1, e3, e4, e5, eb, Int.toNat_natCast]
    generalize blockAt l k = w at *
    have hdp : (⟨andI .i64 (w.getD 0 0) 15, (andNotI .i64 (w.getD 0 0) 1152921504606846976).fdiv (2 ^ min 4 64), w.getD 1 0, w.getD 2 0, slotsOf w 0⟩ : Nd) = decP w := rfl
    have hV : (decP w).V = .agg [.int .i64 (andI .i64 (w.getD 0 0) 15), .int .i64 ((andNotI .i64 (w.getD 0 0) 1152921504606846976).fdiv (2 ^ min 4 64)), .int .i64 (w.getD 1 0), .int .i64 (w.getD 2 0), .sl false (.ints .i64 (slotsOf w 0))] := rfl
    rw [hdp, hbl, ← readP_eq]
    have hsr := slotsOf_roomy w 0
    refine ⟨by omega, by omega, by omega, by decide, by omega, by omega, ⟨by unfold roomy; omega, by decide⟩, ?_⟩
    unfold readBy wordsV
    cases hd : ndB (decP w) with
    | false =>
      simp only [Bool.false_eq_true, if_false, Bool.false_and, joinW_eq, joinW_eq, guard_tt, guard_tf, guard_ft, guard_ff, Int.reduceEq, Int.reduceLT, Int.reduceLE, decide_false, decide_true, Bool.not_false, Bool.not_true, Bool.not_not, not_true_eq_false, not_false_eq_true, true_implies, false_implies, implies_true, and_true, true_and, reduceCtorEq, Bool.and_self, Bool.or_self, Bool.and_true, Bool.true_and, Bool.false_eq_true, if_true, if_false, go_sem, Nat.reduceEqDiff, Nat.reduceLT, Nat.reduceAdd, Nat.reduceSub, Nat.reduceLeDiff, List.reduceReplicate, Int.reduceToNat]
      refine post_val ?_ rfl
      simp only [zeroNd, go_sem, Nat.reduceEqDiff, Nat.reduceLT, Nat.reduceAdd, Nat.reduceSub, Nat.reduceLeDiff, List.reduceReplicate, Int.reduceToNat]
    | true =>
      have hok := nd_iff.1 hd
      have hwl := words_len hok
      simp only [if_true, Bool.true_and, slices_Equal_sl_int_int.C, hwl, hbl, joinW_eq, guard_tt, guard_tf, guard_ft, guard_ff, Int.reduceEq, Int.reduceLT, Int.reduceLE, decide_false, decide_true, Bool.not_false, Bool.not_true, Bool.not_not, not_true_eq_false, not_false_eq_true, true_implies, false_implies, implies_true, and_true, true_and, reduceCtorEq, Bool.and_self, Bool.or_self, Bool.and_true, Bool.true_and, Bool.false_eq_true, if_true, if_false, go_sem, Nat.reduceEqDiff, Nat.reduceLT, Nat.reduceAdd, Nat.reduceSub, Nat.reduceLeDiff, List.reduceReplicate, Int.reduceToNat]
      refine ⟨by unfold roomy; omega, fun h => ?_, fun h => ?_⟩
      · rw [if_neg h]
        refine post_val ?_ rfl
        simp only [zeroNd, go_sem, Nat.reduceEqDiff, Nat.reduceLT, Nat.reduceAdd, Nat.reduceSub, Nat.reduceLeDiff, List.reduceReplicate, Int.reduceToNat]
      · rw [if_pos h]
        exact post_val rfl rfl
end Lam
namespace Lam
open Go Go.Proofs
set_option linter.unusedVariables false
def key_Text.loops : Nat → LInfo
  | 1 => ⟨[], [], [], [(3, none), (9, some [14, 23])], [], []⟩
  | 5 => ⟨[6, 31], [true, false], [1, 29, 30], [], [], []⟩
  | 7 => ⟨[], [], [], [(3, none), (2, some [37, 39])], [], []⟩
  | 10 => ⟨[6, 41], [true, false], [1, 8, 29, 30, 31], [], [], []⟩
  | 16 => ⟨[59], [false], [1, 6, 57, 58], [], [], []⟩
  | _ => ⟨[], [], [], [], [], []⟩
def key_Text.L2 (c : Ctx) (J5 : AV → AV → AV → AV → AV → List AObj → Prop) (K : AOut → List AObj → Prop) (lv : List AV) (h0 : List AObj) (n0 : Nat) (c1 : AV) (c8 : AV) (c29 : AV) (c30 : AV) (c31 : AV) : Prop :=
  ∃ I : Nat → List AV → List AObj → Prop, (∃ n, I n lv h0) ∧ ∀ n h, ∀ t6, ∀ t41, I n [t6, t41] h →
    runD (binD T_int .lss t41 (.int .i64 7)) h fun t42 h =>
    condW t42
    (runD (binD T_int .sub (.int .i64 6) t41) h fun t47 h =>
    runD (binD T_int .mul (.int .i64 8) t47) h fun t48 h =>
    runD (binD T_int .shr c8 t48) h fun t49 h =>
    runD (convD h T_int T_uint8 t49) h fun t50 h =>
    runD (buildSliceD T_sl_uint8 1 [(0, t50)] h.length) h fun t51 h =>
    runDM (appendD T_sl_uint8 h t6 t51 h.length) (appendH T_sl_uint8 h t6 t51) h fun t52 h =>
    runD (binD T_int .add t41 (.int .i64 1)) h fun t53 h =>
    (∃ m, m < n ∧ I m (AV.norms n0 h [t52, t53]) (normH n0 h)) ∧ AV.norms n0 h [c1, c8, c29, c30, c31] = [c1, c8, c29, c30, c31])
    (J5 c1 t6 c29 c30 c31 h)
def key_Text.L1 (c : Ctx) (J2 : AV → AV → List AObj → Prop) (K : AOut → List AObj → Prop) (lv : List AV) (h0 : List AObj) (n0 : Nat) (c1 : AV) (c29 : AV) (c30 : AV) : Prop :=
  ∃ I : Nat → List AV → List AObj → Prop, (∃ n, I n lv h0) ∧ ∀ n h, ∀ t6, ∀ t31, I n [t6, t31] h →
    runD (binD T_int .lss t31 c30) h fun t32 h =>
    condW t32
    (joinW (fun (J3 : AV → AV → AV → AV → AV → List AObj → Prop) =>
    runD (indexAddrD T_sl_int h c29 t31) h fun t33 h =>
    runD (fitD T_int (loadD h t33)) h fun t34 h =>
    runD (binD T_int .lss t34 (.int .i64 0)) h fun t36 h =>
    joinW (fun (J4 : AV → AV → List AObj → Prop) =>
    guardW t36 false
    (runD (binD T_int .geq t34 (.int .i64 72057594037927936)) h fun t39 h =>
      J4 (.bool false) t39 h)
    (J4 (.bool true) .und h))
    (fun t37 t39 h => runD (pickD t37 (.bool true) t39) h fun t40 h =>
    condW t40
    (K (.ret (.tup [(.str []), (.int .i64 20)])) h)
    (joinW (fun (J5 : AV → AV → AV → AV → AV → List AObj → Prop) =>
    promV [true, false] [t6, (.int .i64 0)] h fun lv h => key_Text.L2 c J5 K (AV.norms h.length h lv) (normH h.length h) h.length (AV.norm h.length h c1) (AV.norm h.length h t34) (AV.norm h.length h c29) (AV.norm h.length h c30) (AV.norm h.length h t31))
    (fun t1 t6 t29 t30 t31 h => J3 t1 t6 t29 t30 t31 h))))
    (fun t1 t6 t29 t30 t31 h => runD (binD T_int .add t31 (.int .i64 1)) h fun t54 h =>
    (∃ m, m < n ∧ I m (AV.norms n0 h [t6, t54]) (normH n0 h)) ∧ AV.norms n0 h [t1, t29, t30] = [c1, c29, c30]))
    (J2 c1 t6 h)
def key_Text.L3 (c : Ctx) (J6 : AV → AV → List AObj → Prop) (K : AOut → List AObj → Prop) (lv : List AV) (h0 : List AObj) (n0 : Nat) (c1 : AV) (c6 : AV) (c57 : AV) (c58 : AV) : Prop :=
  ∃ I : Nat → List AV → List AObj → Prop, (∃ n, I n lv h0) ∧ ∀ n h, ∀ t59, I n [t59] h →
    runD (binD T_int .lss t59 c58) h fun t60 h =>
    condW t60
    (runD (indexAddrD T_sl_uint8 h c57 t59) h fun t61 h =>
    runD (fitD T_uint8 (loadD h t61)) h fun t62 h =>
    runD (binD T_uint8 .neq t62 (.int .u8 0)) h fun t64 h =>
    condW t64
    (K (.ret (.tup [(.str []), (.int .i64 20)])) h)
    (runD (binD T_int .add t59 (.int .i64 1)) h fun t65 h =>
    (∃ m, m < n ∧ I m (AV.norms n0 h [t65]) (normH n0 h)) ∧ AV.norms n0 h [c1, c6, c57, c58] = [c1, c6, c57, c58]))
    (J6 c1 c6 h)
def key_Text.H (c : Ctx) (t0 : AV) (t1 : AV) (h : List AObj) (K : AOut → List AObj → Prop) : Prop :=
  runD (binD T_int .lss t1 (.int .i64 0)) h fun t13 h =>
  joinW (fun (J1 : AV → AV → List AObj → Prop) =>
  guardW t13 false
  (runD (lenD T_sl_int h t0) h fun t16 h =>
    runD (binD T_int .quo t1 (.int .i64 7)) h fun t18 h =>
    runD (binD T_int .rem t1 (.int .i64 7)) h fun t20 h =>
    runD (minD (.int .i64 1) t20) h fun t21 h =>
    runD (binD T_int .add t18 t21) h fun t22 h =>
    runD (binD T_int .neq t16 t22) h fun t23 h =>
    J1 (.bool false) t23 h)
  (J1 (.bool true) .und h))
  (fun t14 t23 h => runD (pickD t14 (.bool true) t23) h fun t24 h =>
  condW t24
  (K (.ret (.tup [(.str []), (.int .i64 20)])) h)
  (runD (lenD T_sl_int h t0) h fun t26 h =>
  runD (binD T_int .mul (.int .i64 7) t26) h fun t27 h =>
  runD (makeSliceD T_sl_uint8 (.int .i64 0) t27 h.length) h fun t28 h =>
  runD (lenD T_sl_int h t0) h fun t30 h =>
  joinW (fun (J2 : AV → AV → List AObj → Prop) =>
  promV [true, false] [t28, (.int .i64 0)] h fun lv h => key_Text.L1 c J2 K (AV.norms h.length h lv) (normH h.length h) h.length (AV.norm h.length h t1) (AV.norm h.length h t0) (AV.norm h.length h t30))
  (fun t1 t6 h => runD (sliceD T_sl_uint8 h t6 (some t1) none none) h fun t57 h =>
  runD (lenD T_sl_uint8 h t57) h fun t58 h =>
  joinW (fun (J6 : AV → AV → List AObj → Prop) =>
  promV [false] [(.int .i64 0)] h fun lv h => key_Text.L3 c J6 K (AV.norms h.length h lv) (normH h.length h) h.length (AV.norm h.length h t1) (AV.norm h.length h t6) (AV.norm h.length h t57) (AV.norm h.length h t58))
  (fun t1 t6 h => runD (sliceD T_sl_uint8 h t6 none (some t1) none) h fun t68 h =>
  runD (convD h T_sl_uint8 T_string t68) h fun t69 h =>
  K (.ret (.tup [t69, (.int .i64 0)])) h))))
def key_Check.loops : Nat → LInfo
  | 1 => ⟨[], [], [], [(3, none), (3, some [5, 8])], [], []⟩
  | _ => ⟨[], [], [], [], [], []⟩
def key_Check.H (c : Ctx) (t0 : AV) (h : List AObj) (K : AOut → List AObj → Prop) : Prop :=
  runD (binD T_string .neq t0 (.str [])) h fun t4 h =>
  joinW (fun (J1 : AV → AV → List AObj → Prop) =>
  guardW t4 true
  (runD (lenD T_string h t0) h fun t7 h =>
    runD (binD T_int .leq t7 (.int .i64 21)) h fun t8 h =>
    J1 (.bool true) t8 h)
  (J1 (.bool false) .und h))
  (fun t5 t8 h => runD (pickD t5 t8 (.bool false)) h fun t9 h =>
  K (.ret t9) h)
def key_CheckVal.loops : Nat → LInfo
  | _ => ⟨[], [], [], [], [], []⟩
def key_CheckVal.H (c : Ctx) (t0 : AV) (h : List AObj) (K : AOut → List AObj → Prop) : Prop :=
  runD (lenD T_string h t0) h fun t4 h =>
  runD (binD T_int .leq t4 (.int .i64 21)) h fun t5 h =>
  K (.ret t5) h
def key_Words.loops : Nat → LInfo
  | 2 => ⟨[], [], [], [], [2], []⟩
  | 5 => ⟨[4, 11], [false, false], [2, 3, 10], [], [], []⟩
  | _ => ⟨[], [], [], [], [], []⟩
def key_Words.L1 (c : Ctx) (id : Nat) (r : Loop) (J3 : AV → AV → List AObj → Prop) (K : AOut → List AObj → Prop) (lv : List AV) (h0 : List AObj) (n0 : Nat) (c2 : AV) (c3 : AV) (c10 : AV) : Prop :=
  ∃ I : Nat → List AV → List AObj → Prop, (∃ n, I n lv h0) ∧ ∀ n h, ∀ t4, ∀ t11, I n [t4, t11] h →
    runD (binD T_int .lss t11 c10) h fun t12 h =>
    condW t12
    (runD (indexD T_string c3 t11) h fun t17 h =>
    runD (convD h T_uint8 T_int t17) h fun t18 h =>
    runD (binD T_int .sub (.int .i64 6) t11) h fun t20 h =>
    runD (binD T_int .mul (.int .i64 8) t20) h fun t21 h =>
    runD (binD T_int .shl t18 t21) h fun t22 h =>
    runD (binD T_int .or t4 t22) h fun t23 h =>
    runD (binD T_int .add t11 (.int .i64 1)) h fun t24 h =>
    (∃ m, m < n ∧ I m (AV.norms n0 h [t23, t24]) (normH n0 h)) ∧ AV.norms n0 h [c2, c3, c10] = [c2, c3, c10])
    (J3 c2 t4 h)
def key_Words.H (c : Ctx) (t0 : AV) (h : List AObj) (K : AOut → List AObj → Prop) : Prop :=
  allocW T_sl_int h fun t2 h =>
  callW false c (.fn (.func 128) [] []) [t0] h (fun t7 h =>
  joinW (fun (J1 : AV → List AObj → Prop) =>
  rangeX c.iterS t7 (boxH [t2] h)
  (fun id r args h K => lpIs h id .ready r ∧ argX1 args fun t8 =>
  lpIs h id .ready r ∧
  joinW (fun (J2 : List AObj → Prop) =>
  runD (lenD T_string (List.set h id (.lp .busy none r)) t8) (List.set h id (.lp .busy none r)) fun t10 h =>
  joinW (fun (J3 : AV → AV → List AObj → Prop) =>
  promV [false, false] [(.int .i64 0), (.int .i64 0)] h fun lv h => key_Words.L1 c id r J3 K (AV.norms h.length h lv) (normH h.length h) h.length (AV.norm h.length h t2) (AV.norm h.length h t8) (AV.norm h.length h t10))
  (fun t2 t4 h => runD (fitD T_sl_int (loadD h t2)) h fun t25 h =>
  runD (buildSliceD T_sl_int 1 [(0, t4)] h.length) h fun t27 h =>
  runDM (appendD T_sl_int h t25 t27 h.length) (appendH T_sl_int h t25 t27) h fun t28 h =>
  runH (storeH T_sl_int h t2 t28) h fun _ h =>
  J2 h))
  (fun h => lpIs h id .busy r ∧ K (.ret (.bool true)) (List.set h id (.lp .ready none r))))
  (fun id r ao h => endX id r ao h
  (fun h => J1 t2 h)
  (fun h => loadRes (fitD T_sl_int (loadD h t2)) fun r0 => K (.ret r0) h)
  (fun i h => exitW i 0 (J1 t2 h) (False))
  (fun l h => False)
  (fun v h => K (.pan v) h)))
  (fun t2 h => runD (fitD T_sl_int (loadD h t2)) h fun t29 h =>
  runH (storeH T_sl_int h t2 t29) h fun _ h =>
  loadRes (fitD T_sl_int (loadD h t2)) fun r0 => K (.ret r0) h))
  (fun v h => K (.pan v) h)
def key_pieces.loops : Nat → LInfo
  | _ => ⟨[], [], [], [], [], []⟩
def key_pieces.H (c : Ctx) (t0 : AV) (h : List AObj) (K : AOut → List AObj → Prop) : Prop :=
  boxW T_string t0 h fun t1 h =>
  K (.ret (.fn (.func 145) [] [t1])) h
def key_pieces_1.loops : Nat → LInfo
  | 0 => ⟨[], [], [0, 1], [], [], []⟩
  | _ => ⟨[], [], [], [], [], []⟩
def key_pieces_1.L1 (c : Ctx) (J1 : List AObj → Prop) (K : AOut → List AObj → Prop) (lv : List AV) (h0 : List AObj) (n0 : Nat) (c0 : AV) (c1 : AV) : Prop :=
  ∃ I : Nat → List AV → List AObj → Prop, (∃ n, I n lv h0) ∧ ∀ n h, I n [] h →
    runD (fitD T_string (loadD h c1)) h fun t4 h =>
    runD (lenD T_string h t4) h fun t5 h =>
    runD (binD T_int .gtr t5 (.int .i64 0)) h fun t6 h =>
    condW t6
    (runD (fitD T_string (loadD h c1)) h fun t7 h =>
    runD (lenD T_string h t7) h fun t8 h =>
    runD (minD (.int .i64 7) t8) h fun t9 h =>
    runD (fitD T_string (loadD h c1)) h fun t11 h =>
    runD (sliceD T_string h t11 none (some t9) none) h fun t13 h =>
    callW false c c0 [t13] h (fun t14 h =>
    runD (unD .not t14) h fun t15 h =>
    condW t15
    (K (.ret (.tup [])) h)
    (runD (fitD T_string (loadD h c1)) h fun t16 h =>
    runD (sliceD T_string h t16 (some t9) none none) h fun t18 h =>
    runH (storeH T_string h c1 t18) h fun _ h =>
    (∃ m, m < n ∧ I m (AV.norms n0 h []) (normH n0 h)) ∧ AV.norms n0 h [c0, c1] = [c0, c1]))
    (fun v h => K (.pan v) h))
    (J1 h)
def key_pieces_1.H (c : Ctx) (t0 : AV) (t1 : AV) (h : List AObj) (K : AOut → List AObj → Prop) : Prop :=
  joinW (fun (J1 : List AObj → Prop) =>
  promV [] [] h fun lv h => key_pieces_1.L1 c J1 K (AV.norms h.length h lv) (normH h.length h) h.length (AV.norm h.length h t0) (AV.norm h.length h t1))
  (fun h => K (.ret (.tup [])) h)
theorem key_Text.eq (F : List (FuncId × Contract)) (S : List (FuncId × Con)) (t0 t1 : AV) (h : List AObj) (K : AOut → List AObj → Prop) : funW (ctx F S key_Text.loops) Try.f101 [t0, t1] h K = key_Text.H (ctx F S key_Text.loops) t0 t1 h K := by kernel_rfl
theorem key_Check.eq (F : List (FuncId × Contract)) (S : List (FuncId × Con)) (t0 : AV) (h : List AObj) (K : AOut → List AObj → Prop) : funW (ctx F S key_Check.loops) Try.f102 [t0] h K = key_Check.H (ctx F S key_Check.loops) t0 h K := by kernel_rfl
theorem key_CheckVal.eq (F : List (FuncId × Contract)) (S : List (FuncId × Con)) (t0 : AV) (h : List AObj) (K : AOut → List AObj → Prop) : funW (ctx F S key_CheckVal.loops) Try.f103 [t0] h K = key_CheckVal.H (ctx F S key_CheckVal.loops) t0 h K := by kernel_rfl
theorem key_Words.eq (F : List (FuncId × Contract)) (S : List (FuncId × Con)) (Is : List (FuncId × (Con → Con))) (t0 : AV) (h : List AObj) (K : AOut → List AObj → Prop) : funW (ctxI F S Is key_Words.loops) Try.f104 [t0] h K = key_Words.H (ctxI F S Is key_Words.loops) t0 h K := by kernel_rfl
theorem key_pieces.eq (F : List (FuncId × Contract)) (S : List (FuncId × Con)) (t0 : AV) (h : List AObj) (K : AOut → List AObj → Prop) : funW (ctx F S key_pieces.loops) Try.f128 [t0] h K = key_pieces.H (ctx F S key_pieces.loops) t0 h K := by kernel_rfl
theorem key_pieces_1.eq (F : List (FuncId × Contract)) (S : List (FuncId × Con)) (l : Nat) (Y : Con) (t0 t1 : AV) (h : List AObj) (K : AOut → List AObj → Prop) : funW ((ctx F S key_pieces_1.loops).withY l Y) Try.f145 [t0, t1] h K = key_pieces_1.H ((ctx F S key_pieces_1.loops).withY l Y) t0 t1 h K := by kernel_rfl
theorem key_Text.at : Try.prog.funcs[101]? = some Try.f101 := by kernel_rfl
theorem key_Text.nm : (Try.f101.name == "runtime.NumGoroutine") = false := by kernel_rfl
theorem key_Text.bd : Try.f101.body.isNone = false := by kernel_rfl
theorem key_Check.at : Try.prog.funcs[102]? = some Try.f102 := by kernel_rfl
theorem key_Check.nm : (Try.f102.name == "runtime.NumGoroutine") = false := by kernel_rfl
theorem key_Check.bd : Try.f102.body.isNone = false := by kernel_rfl
theorem key_CheckVal.at : Try.prog.funcs[103]? = some Try.f103 := by kernel_rfl
theorem key_CheckVal.nm : (Try.f103.name == "runtime.NumGoroutine") = false := by kernel_rfl
theorem key_CheckVal.bd : Try.f103.body.isNone = false := by kernel_rfl
theorem key_Words.at : Try.prog.funcs[104]? = some Try.f104 := by kernel_rfl
theorem key_Words.nm : (Try.f104.name == "runtime.NumGoroutine") = false := by kernel_rfl
theorem key_Words.bd : Try.f104.body.isNone = false := by kernel_rfl
theorem key_pieces.at : Try.prog.funcs[128]? = some Try.f128 := by kernel_rfl
theorem key_pieces.nm : (Try.f128.name == "runtime.NumGoroutine") = false := by kernel_rfl
theorem key_pieces.bd : Try.f128.body.isNone = false := by kernel_rfl
theorem key_pieces_1.at : Try.prog.funcs[145]? = some Try.f145 := by kernel_rfl
theorem key_pieces_1.nm : (Try.f145.name == "runtime.NumGoroutine") = false := by kernel_rfl
theorem key_pieces_1.bd : Try.f145.body.isNone = false := by kernel_rfl
end Lam
namespace Lam
open Go Go.Proofs
set_option linter.unusedVariables false
set_option linter.unnecessarySimpa false
set_option linter.unusedSimpArgs false
theorem key_Words_L1 (c : Ctx) (id : Nat) (r : Loop) (J : AV → AV → List AObj → Prop) (K : AOut → List AObj → Prop) (p : Bytes) (hp : p.length ≤ 7) (v k : Nat) (s : Bytes) (xs : List Int)
    (hJ : J (.ptr 0 []) (.int .i64 (pw p : Nat)) [.box (.sref false 2 v 0 k), .box (.str s), .row .own v (.ints .i64 xs), .lp .busy none r]) :
    key_Words.L1 c id r J K [.int .i64 0, .int .i64 0] [.box (.sref false 2 v 0 k), .box (.str s), .row .own v (.ints .i64 xs), .lp .busy none r] 4 (.ptr 0 []) (.str p) (.int .i64 p.length) := by
  unfold key_Words.L1
  refine ⟨fun m lv h' => ∃ j : Nat, j + m = p.length ∧ lv = [.int .i64 (pv (p.take j) * 256 ^ (7 - j) : Nat), .int .i64 j] ∧ h' = [.box (.sref false 2 v 0 k), .box (.str s), .row .own v (.ints .i64 xs), .lp .busy none r],
    ⟨p.length, 0, by omega, by simp [pv], rfl⟩, ?_⟩
  rintro m h' t4 t11 ⟨j, hj, hlv, rfl⟩
  simp only [List.cons.injEq, and_true] at hlv
  obtain ⟨rfl, rfl⟩ := hlv
  simp only [go_sem, Nat.reduceEqDiff, Nat.reduceLT, Nat.reduceAdd, Nat.reduceSub, Nat.reduceLeDiff, List.reduceReplicate, Int.reduceToNat]
  refine ⟨fun hlt => ?_, fun hge => ?_⟩
  · have hjp : j < p.length := by omega
    have e1 : IntKind.i64.wrap (6 - (j : Int)) = 6 - j := w64 (by omega) (by omega)
    refine ⟨by omega, by rw [e1, w64 (by omega) (by omega)]; omega, m - 1, by omega, j + 1, by omega, ?_⟩
    rw [pv_step p hp hjp, w64 (by omega) (by omega)]
    rfl
  · have : j = p.length := by omega
    subst this
    rw [List.take_length] at *
    exact hJ

def key_pieces_1.I : Con → Con := fun Y args h K => match args with
  | [.fn (.yield l) [] [], a0] => key_pieces_1.H ((ctx [] [] key_pieces_1.loops).withY l Y) (.fn (.yield l) [] []) a0 h K
  | _ => False
theorem key_pieces_1.spec : ISpec Try.prog 145 key_pieces_1.I := by
  refine ISpec.of (ctx_ok (F := []) (S := []) (by simp) (by simp) key_pieces_1.loops).toOkI key_pieces_1.at key_pieces_1.nm key_pieces_1.bd ?_
  intro Yc l cap h K hC
  unfold key_pieces_1.I at hC
  split at hC
  · rename_i e
    simp only [List.cons.injEq, AV.fn.injEq, Fn.yield.injEq, and_true, true_and] at e
    obtain ⟨rfl, rfl⟩ := e
    rw [key_pieces_1.eq]; exact hC
  · exact hC.elim
def key_pieces.K : Con := fun args h K => match args with
  | [a0] => key_pieces.H (ctx [] [] key_pieces.loops) a0 h K
  | _ => False
theorem key_pieces.spec : SSpec Try.prog 128 key_pieces.K := by
  refine SSpec.of (ctx_ok (F := []) (S := []) (by simp) (by simp) key_pieces.loops) key_pieces.at key_pieces.nm key_pieces.bd ?_
  intro args h K hC
  unfold key_pieces.K at hC
  split at hC
  · rw [key_pieces.eq]; exact hC
  · exact hC.elim
def key_Words.C : Contract
  | [.str s] => some (false, pD (roomy s.length) (.sl false (.ints .i64 (keyW s))))
  | _ => none
set_option maxRecDepth 20000 in
theorem key_Words.spec : FSpec Try.prog 104 key_Words.C := by
  refine FSpec.of (ctxI_ok (F := []) (S := [(128, key_pieces.K)]) (Is := [(145, key_pieces_1.I)]) (by simp) (by simpa using key_pieces.spec) (by simpa using key_pieces_1.spec) key_Words.loops) key_Words.at key_Words.nm key_Words.bd ?_
  intro vs b S v news e hS
  unfold key_Words.C at e
  split at e
  rotate_left
  · cases e
  cases e
  rw [key_Words.eq]
  unfold key_Words.H
  simp (maxSteps := 4000000) only [go_sem, Nat.reduceEqDiff, Nat.reduceLT, Nat.reduceAdd, Nat.reduceSub, Nat.reduceLeDiff, List.reduceReplicate, Int.reduceToNat, key_pieces.K, key_pieces.H, key_pieces_1.I, key_pieces_1.H, joinW_eq]
  rename_i s
  unfold roomy at hS
  intro l r
  unfold key_pieces_1.L1
  refine ⟨fun m lv h' => ∃ k v : Nat, k + m = nPieces s ∧ h' = [.box (.sref false 2 v 0 k), .box (.str (s.drop (7*k))), .row .own v (.ints .i64 ((keyW s).take k)), .lp .ready none r], ⟨nPieces s, 0, 0, by omega, by simp⟩, ?_⟩
  rintro m h' ⟨k, v, hk, rfl⟩
  have hwl : (keyW s).length = nPieces s := by simp [keyW]
  have hnp : nPieces s = (s.length + 6) / 7 := rfl
  have hacc : ((keyW s).take k).length = k := by simp; omega
  simp only [go_sem, Nat.reduceEqDiff, Nat.reduceLT, Nat.reduceAdd, Nat.reduceSub, Nat.reduceLeDiff, List.reduceReplicate, Int.reduceToNat, List.length_drop]
  refine ⟨fun hlt => ?_, fun hge => ?_⟩
  · have hn : (if ((s.length - 7 * k : Nat) : Int) < 7 then ((s.length - 7 * k : Nat) : Int) else 7) = ((min 7 (s.length - 7 * k) : Nat) : Int) := by split <;> omega
    simp only [hn, Int.toNat_natCast]
    have hpc : (s.drop (7 * k)).take (min 7 (s.length - 7 * k)) = pieceN s k := by
      unfold pieceN
      rcases Nat.lt_or_ge (s.length - 7 * k) 7 with h | h
      · rw [Nat.min_eq_right (by omega), List.take_of_length_le (by simp), List.take_of_length_le (by simp; omega)]
      · rw [Nat.min_eq_left (by omega)]
    rw [hpc]
    have hpl : (pieceN s k).length ≤ 7 := by unfold pieceN; simp; omega
    refine ⟨by omega, key_Words_L1 _ _ _ _ _ _ hpl _ _ _ _ ?_⟩
    simp only [go_sem, Nat.reduceEqDiff, Nat.reduceLT, Nat.reduceAdd, Nat.reduceSub, Nat.reduceLeDiff, List.reduceReplicate, Int.reduceToNat, hacc]
    have hkn : k < nPieces s := by omega
    have hnext : (keyW s).take (k + 1) = (keyW s).take k ++ [(pw (pieceN s k) : Int)] := by
      rw [take_next _ k 0 (by omega), getD_words s hkn]
    have hd : (s.drop (7 * k)).drop (min 7 (s.length - 7 * k)) = s.drop (7 * (k + 1)) := by
      rw [List.drop_drop]
      rcases Nat.lt_or_ge (s.length - 7 * k) 7 with h | h
      · rw [List.drop_eq_nil_of_le (by omega), List.drop_eq_nil_of_le (by omega)]
      · congr 1; omega
    have hl1 : ((keyW s).take (k + 1)).length = k + 1 := by simp; omega
    rw [← hnext, hd, hl1]
    refine ⟨by unfold roomy; omega, by simp; omega, m - 1, by omega, k + 1, v + 1, by omega, rfl⟩
  · have : k = nPieces s := by omega
    subst this
    rw [List.take_of_length_le (by omega)]
    refine post_val ?_ rfl
    have := hacc
    rw [List.take_of_length_le (by omega)] at this
    simp only [go_sem, Nat.reduceEqDiff, Nat.reduceLT, Nat.reduceAdd, Nat.reduceSub, Nat.reduceLeDiff, List.reduceReplicate, Int.reduceToNat, List.take_of_length_le (Nat.le_of_eq hwl)]
def textV (l : List Int) (n : Int) : AV := .tup [.str (if textB l n = true then textS l n else []), .int .i64 (if textB l n = true then 0 else 20)]
@[go_sem] theorem textV_noSl (l : List Int) (n : Int) : (textV l n).noSl = true := (rfl)
theorem text_bad {l : List Int} {n : Int} (hb : textB l n = false) (h : List AObj) : Post false (textV l n) [] (.ret (.tup [.str [], .int .i64 20])) h := by
  unfold textV; rw [hb]; exact post_val rfl rfl
def key_Text.C : Contract
  | [.sl _ (.ints .i64 l), .int .i64 n] => some (false, pD (roomy (7 * l.length) ∧ n < 9223372036854775808) (textV l n))
  | _ => none
theorem key_Text_L2 (c : Ctx) (J : AV → AV → AV → AV → AV → List AObj → Prop) (K : AOut → List AObj → Prop) (n w : Int) (l pre : List Int) (v k len : Nat) (hr : pre.length + 7 ≤ 1099511627776)
    (hJ : J (.int .i64 n) (.sref false 0 (v + 7) 0 (pre.length + 7)) (.sl false (.ints .i64 l)) (.int .i64 len) (.int .i64 k) [.row .own (v + 7) (.ints .u8 (pre ++ sevenI w))]) :
    key_Text.L2 c J K [.sref false 0 v 0 pre.length, .int .i64 0] [.row .own v (.ints .u8 pre)] 1 (.int .i64 n) (.int .i64 w) (.sl false (.ints .i64 l)) (.int .i64 len) (.int .i64 k) := by
  unfold key_Text.L2
  refine ⟨fun m lv h' => ∃ j : Nat, j + m = 7 ∧ lv = [.sref false 0 (v + j) 0 (pre.length + j), .int .i64 j] ∧ h' = [.row .own (v + j) (.ints .u8 (pre ++ (List.range j).map (byteI w)))],
    ⟨7, 0, by omega, by simp, by simp⟩, ?_⟩
  rintro m h' t6 t41 ⟨j, hj, hlv, rfl⟩
  simp only [List.cons.injEq, and_true] at hlv
  obtain ⟨rfl, rfl⟩ := hlv
  have hlen : (pre ++ (List.range j).map (byteI w)).length = pre.length + j := by simp
  simp only [go_sem, Nat.reduceEqDiff, Nat.reduceLT, Nat.reduceAdd, Nat.reduceSub, Nat.reduceLeDiff, List.reduceReplicate, Int.reduceToNat, hlen]
  refine ⟨fun hlt => ?_, fun hge => ?_⟩
  · have e1 : IntKind.i64.wrap (6 - (j : Int)) = 6 - j := w64 (by omega) (by omega)
    have e2 : IntKind.i64.wrap (8 * (6 - (j : Int))) = 8 * (6 - j) := w64 (by omega) (by omega)
    have e3 : (8 * (6 - (j : Int))).toNat = 8 * (6 - j) := by omega
    have e4 : min (8 * (6 - j)) 64 = 8 * (6 - j) := by omega
    simp only [e1, e2, e3, e4]
    have hz : (List.range j).map (byteI w) ++ [IntKind.u8.wrap (w.fdiv (2 ^ (8 * (6 - j))))] = (List.range (j + 1)).map (byteI w) := by rw [List.range_succ]; simp [byteI]
    have hl2 : (pre ++ (List.range (j + 1)).map (byteI w)).length = pre.length + (j + 1) := by simp
    rw [hz, hl2, w64 (by omega) (by omega)]
    exact ⟨by omega, by unfold roomy; omega, m - 1, by omega, j + 1, by omega, rfl, rfl⟩
  · have : j = 7 := by omega
    subst this
    exact hJ

set_option maxRecDepth 20000 in
theorem key_Text.spec : FSpec Try.prog 101 key_Text.C := by
  refine FSpec.of (ctx_ok (F := []) (S := []) (by simp) (by simp) key_Text.loops) key_Text.at key_Text.nm key_Text.bd ?_
  intro vs b S v news e hS
  unfold key_Text.C at e
  split at e
  rotate_left
  · cases e
  cases e
  rw [key_Text.eq]
  unfold key_Text.H
  simp (maxSteps := 4000000) only [go_sem, Nat.reduceEqDiff, Nat.reduceLT, Nat.reduceAdd, Nat.reduceSub, Nat.reduceLeDiff, List.reduceReplicate, Int.reduceToNat]
  rename_i l n
  unfold roomy at hS
  obtain ⟨hS, hn63⟩ := hS
  refine ⟨fun _ => by decide, fun hb => text_bad ?_ _, fun hb => ?_⟩
  · have hb : (!decide (n < 0) && decide ((l.length : Int) = lenT n)) = false := by
      unfold lenT
      revert hb
      cases decide (n < 0) <;> simp
    unfold textB
    rw [hb]; rfl
  have hb1 : ¬ n < 0 := by intro h; simp [h] at hb
  have hb2 : (l.length : Int) = lenT n := by
    rw [decide_eq_false hb1, Bool.false_or, Bool.not_eq_false', decide_eq_true_eq] at hb
    exact hb
  have e7 : IntKind.i64.wrap (7 * (l.length : Int)) = ((7 * l.length : Nat) : Int) := by rw [w64 (by omega) (by omega)]; omega
  refine ⟨⟨by omega, by rw [e7]; omega, by rw [e7, Int.toNat_natCast]; exact hS⟩, ?_⟩
  rw [joinW_eq]
  unfold key_Text.L1
  refine ⟨fun m lv h' => ∃ k v : Nat, k + m = l.length ∧ lv = [.sref false 0 v 0 (7 * k), .int .i64 k] ∧ h' = [.row .own v (.ints .u8 (flatI (l.take k)))] ∧ (l.take k).all wMay = true,
    ⟨l.length, 0, 0, by omega, rfl, rfl, rfl⟩, ?_⟩
  rintro m h' t6 t31 ⟨k, v, hk, hlv, rfl, hall⟩
  simp only [List.cons.injEq, and_true] at hlv
  obtain ⟨rfl, rfl⟩ := hlv
  have hfl : (flatI (l.take k)).length = 7 * k := by rw [flatI_len, List.length_take, Nat.min_eq_left (by omega)]
  simp only [go_sem, Nat.reduceEqDiff, Nat.reduceLT, Nat.reduceAdd, Nat.reduceSub, Nat.reduceLeDiff, List.reduceReplicate, Int.reduceToNat, hfl]
  refine ⟨fun hlt => ?_, fun hge => ?_⟩
  · have hkl : k < l.length := by omega
    rw [joinW_eq]
    refine ⟨by omega, fun hbad => text_bad ?_ _, fun hok => ?_⟩
    · have : l.all wMay = false := by
        rw [List.all_eq_false]
        refine ⟨_, getD_mem l k 0 hkl, fun h => ?_⟩
        simp only [wMay, Bool.and_eq_true, decide_eq_true_eq] at h
        simp only [Bool.or_eq_true, decide_eq_true_eq] at hbad
        omega
      simp [textB, this]
    · have hw : wMay (l.getD k 0) = true := by
        simp only [Bool.or_eq_false_iff, decide_eq_false_iff_not] at hok
        simp only [wMay, Bool.and_eq_true, decide_eq_true_eq]; omega
      rw [joinW_eq]
      have hL2 := key_Text_L2 (ctx [] [] key_Text.loops)
      rw [← hfl]
      refine hL2 _ _ _ _ _ _ _ _ _ (by rw [hfl]; omega) ?_
      have hnx : flatI (l.take k) ++ sevenI (l.getD k 0) = flatI (l.take (k + 1)) := by
        rw [take_next l k 0 hkl]; simp [flatI]
      rw [hnx, hfl]
      simp only [go_sem, Nat.reduceEqDiff, Nat.reduceLT, Nat.reduceAdd, Nat.reduceSub, Nat.reduceLeDiff, List.reduceReplicate, Int.reduceToNat]
      have hmx : ¬ (False) := id
      refine ⟨m - 1, by omega, k + 1, v + 7, by omega, by rw [w64 (by omega) (by omega)]; rfl, rfl, ?_⟩
      rw [take_next l k 0 hkl, List.all_append, hall, Bool.true_and, List.all_cons, hw]
      rfl
  · have : k = l.length := by omega
    subst this
    rw [List.take_length] at *
    obtain ⟨N, rfl⟩ : ∃ N : Nat, n = N := ⟨n.toNat, by omega⟩
    have hN : (l.length : Int) = ((N + 6) / 7 : Nat) := by rw [hb2, lenT_nat N (by omega)]
    refine ⟨by omega, ?_⟩
    rw [joinW_eq, Int.toNat_natCast]
    unfold key_Text.L3
    refine ⟨fun m lv h' => ∃ j : Nat, j + m = 7 * l.length - N ∧ lv = [.int .i64 j] ∧ h' = [.row .own v (.ints .u8 (flatI l))] ∧ ∀ i, i < j → (flatI l).getD (N + i) 0 = 0,
      ⟨_, 0, Nat.zero_add _, rfl, rfl, fun i hi => by omega⟩, ?_⟩
    rintro m h' t59 ⟨j, hj, hlv, rfl, hz⟩
    simp only [List.cons.injEq, and_true] at hlv
    subst hlv
    simp only [go_sem, Nat.reduceEqDiff, Nat.reduceLT, Nat.reduceAdd, Nat.reduceSub, Nat.reduceLeDiff, List.reduceReplicate, Int.reduceToNat, hfl]
    refine ⟨fun hlt => ⟨by omega, by omega, fun h0 => text_bad ?_ _, fun h0 => ?_⟩, fun hge => ⟨by omega, ?_⟩⟩
    · have : ((flatI l).drop N).all (fun b => decide (b = 0)) = false := by
        rw [List.all_eq_false]
        have hjl : j < ((flatI l).drop N).length := by rw [List.length_drop, hfl]; omega
        have e : ((flatI l).drop N).getD j 0 = (flatI l).getD (N + j) 0 := by rw [List.getD_eq_getElem?_getD, List.getD_eq_getElem?_getD, List.getElem?_drop]
        exact ⟨_, getD_mem _ j 0 hjl, by rw [e]; simpa using h0⟩
      simp [textB, this]
    · refine ⟨m - 1, by omega, j + 1, by omega, by rw [w64 (by omega) (by omega)]; rfl, fun i hi => ?_⟩
      by_cases e : i = j
      · subst e; exact h0
      · exact hz i (by omega)
    · have hj2 : j = 7 * l.length - N := by omega
      have hzero : ((flatI l).drop N).all (fun b => decide (b = 0)) = true := by
        rw [List.all_eq_true]
        intro b hb
        obtain ⟨i, hi, rfl⟩ := List.getElem_of_mem hb
        rw [List.length_drop, hfl] at hi
        have := hz i (by omega)
        rw [List.getD_eq_getElem?_getD, List.getElem?_eq_getElem (by rw [hfl]; omega)] at this
        rw [List.getElem_drop]
        simpa using this
      have hB : textB l N = true := by
        unfold textB
        rw [hall, Int.toNat_natCast, hzero, decide_eq_false hb1, decide_eq_true hb2]; rfl
      unfold textV textS
      simp only [hB, if_true]
      exact post_val rfl rfl
def key_Check.C : Contract
  | [.str s] => some (false, pD True (.bool (decide (s ≠ []) && decide ((s.length : Int) ≤ 21))))
  | _ => none
set_option maxRecDepth 20000 in
theorem key_Check.spec : FSpec Try.prog 102 key_Check.C := by
  refine FSpec.of (ctx_ok (F := []) (S := []) (by simp) (by simp) key_Check.loops) key_Check.at key_Check.nm key_Check.bd ?_
  intro vs b S v news e hS
  unfold key_Check.C at e
  split at e
  rotate_left
  · cases e
  cases e
  rw [key_Check.eq]
  unfold key_Check.H
  simp (maxSteps := 4000000) only [go_sem, Nat.reduceEqDiff, Nat.reduceLT, Nat.reduceAdd, Nat.reduceSub, Nat.reduceLeDiff, List.reduceReplicate, Int.reduceToNat]
  rename_i s
  have : (decide ¬s = []) = !decide (s = []) := by by_cases h : s = [] <;> simp [h]
  rw [this]
  exact post_val rfl rfl
def key_CheckVal.C : Contract
  | [.str s] => some (false, pD True (.bool (decide ((s.length : Int) ≤ 21))))
  | _ => none
set_option maxRecDepth 20000 in
theorem key_CheckVal.spec : FSpec Try.prog 103 key_CheckVal.C := by
  refine FSpec.of (ctx_ok (F := []) (S := []) (by simp) (by simp) key_CheckVal.loops) key_CheckVal.at key_CheckVal.nm key_CheckVal.bd ?_
  intro vs b S v news e hS
  unfold key_CheckVal.C at e
  split at e
  rotate_left
  · cases e
  cases e
  rw [key_CheckVal.eq]
  unfold key_CheckVal.H
  simp (maxSteps := 4000000) only [go_sem, Nat.reduceEqDiff, Nat.reduceLT, Nat.reduceAdd, Nat.reduceSub, Nat.reduceLeDiff, List.reduceReplicate, Int.reduceToNat]
  exact post_val rfl rfl
end Lam
namespace Lam
open Go Go.Proofs
set_option linter.unusedVariables false
def sum_Of.loops : Nat → LInfo
  | 4 => ⟨[4, 10], [false, false], [3, 8, 9], [], [], []⟩
  | _ => ⟨[], [], [], [], [], []⟩
def sum_Of.L1 (c : Ctx) (J1 : AV → List AObj → Prop) (K : AOut → List AObj → Prop) (lv : List AV) (h0 : List AObj) (n0 : Nat) (c3 : AV) (c8 : AV) (c9 : AV) : Prop :=
  ∃ I : Nat → List AV → List AObj → Prop, (∃ n, I n lv h0) ∧ ∀ n h, ∀ t4, ∀ t10, I n [t4, t10] h →
    runD (binD T_int .lss t10 c9) h fun t11 h =>
    condW t11
    (runD (indexAddrD T_sl_int h c8 t10) h fun t12 h =>
    runD (fitD T_int (loadD h t12)) h fun t13 h =>
    callW false c (.fn (.func 135) [] []) [c3, t4, t13] h (fun t16 h =>
    runD (binD T_int .add t10 (.int .i64 1)) h fun t17 h =>
    (∃ m, m < n ∧ I m (AV.norms n0 h [t16, t17]) (normH n0 h)) ∧ AV.norms n0 h [c3, c8, c9] = [c3, c8, c9])
    (fun v h => K (.pan v) h))
    (J1 t4 h)
def sum_Of.H (c : Ctx) (t0 : AV) (h : List AObj) (K : AOut → List AObj → Prop) : Prop :=
  callW false c (.fn (.func 134) [] []) [] h (fun t7 h =>
  allocW T_256_uint32 h fun t3 h =>
  runH (storeH T_256_uint32 h t3 t7) h fun _ h =>
  runD (lenD T_sl_int h t0) h fun t9 h =>
  joinW (fun (J1 : AV → List AObj → Prop) =>
  promV [false, false] [(.int .u32 4294967295), (.int .i64 0)] h fun lv h => sum_Of.L1 c J1 K (AV.norms h.length h lv) (normH h.length h) h.length (AV.norm h.length h t3) (AV.norm h.length h t0) (AV.norm h.length h t9))
  (fun t4 h => runD (unD .xor t4) h fun t19 h =>
  runD (convD h T_uint32 T_int t19) h fun t20 h =>
  K (.ret t20) h))
  (fun v h => K (.pan v) h)
def sum_table.loops : Nat → LInfo
  | 2 => ⟨[3], [false], [0], [], [], []⟩
  | 6 => ⟨[2, 8], [false, false], [0, 1, 3], [], [], []⟩
  | _ => ⟨[], [], [], [], [], []⟩
def sum_table.L2 (c : Ctx) (J3 : AV → AV → AV → AV → List AObj → Prop) (K : AOut → List AObj → Prop) (lv : List AV) (h0 : List AObj) (n0 : Nat) (c0 : AV) (c1 : AV) (c3 : AV) : Prop :=
  ∃ I : Nat → List AV → List AObj → Prop, (∃ n, I n lv h0) ∧ ∀ n h, ∀ t2, ∀ t8, I n [t2, t8] h →
    runD (binD T_int .lss t8 (.int .i64 8)) h fun t9 h =>
    condW t9
    (runD (binD T_uint32 .shr t2 (.int .u64 1)) h fun t11 h =>
    runD (binD T_uint32 .and t2 (.int .u32 1)) h fun t13 h =>
    runD (unD .neg t13) h fun t14 h =>
    runD (binD T_uint32 .and (.int .u32 3988292384) t14) h fun t15 h =>
    runD (binD T_uint32 .xor t11 t15) h fun t16 h =>
    runD (binD T_int .add t8 (.int .i64 1)) h fun t17 h =>
    (∃ m, m < n ∧ I m (AV.norms n0 h [t16, t17]) (normH n0 h)) ∧ AV.norms n0 h [c0, c1, c3] = [c0, c1, c3])
    (J3 c0 c1 t2 c3 h)
def sum_table.L1 (c : Ctx) (J1 : AV → List AObj → Prop) (K : AOut → List AObj → Prop) (lv : List AV) (h0 : List AObj) (n0 : Nat) (c0 : AV) : Prop :=
  ∃ I : Nat → List AV → List AObj → Prop, (∃ n, I n lv h0) ∧ ∀ n h, ∀ t3, I n [t3] h →
    runD (binD T_int .lss t3 (.int .i64 256)) h fun t4 h =>
    condW t4
    (joinW (fun (J2 : AV → AV → List AObj → Prop) =>
    runD (convD h T_int T_uint32 t3) h fun t7 h =>
    joinW (fun (J3 : AV → AV → AV → AV → List AObj → Prop) =>
    promV [false, false] [t7, (.int .i64 0)] h fun lv h => sum_table.L2 c J3 K (AV.norms h.length h lv) (normH h.length h) h.length (AV.norm h.length h c0) (AV.norm h.length h t3) (AV.norm h.length h t3))
    (fun t0 t1 t2 t3 h => runD (indexAddrD T_256_uint32 h t0 t1) h fun t20 h =>
    runH (storeH T_uint32 h t20 t2) h fun _ h =>
    J2 t0 t3 h))
    (fun t0 t3 h => runD (binD T_int .add t3 (.int .i64 1)) h fun t21 h =>
    (∃ m, m < n ∧ I m (AV.norms n0 h [t21]) (normH n0 h)) ∧ AV.norms n0 h [t0] = [c0]))
    (J1 c0 h)
def sum_table.H (c : Ctx) (h : List AObj) (K : AOut → List AObj → Prop) : Prop :=
  allocW T_256_uint32 h fun t0 h =>
  joinW (fun (J1 : AV → List AObj → Prop) =>
  promV [false] [(.int .i64 0)] h fun lv h => sum_table.L1 c J1 K (AV.norms h.length h lv) (normH h.length h) h.length (AV.norm h.length h t0))
  (fun t0 h => runD (fitD T_256_uint32 (loadD h t0)) h fun t22 h =>
  runH (storeH T_256_uint32 h t0 t22) h fun _ h =>
  loadRes (fitD T_256_uint32 (loadD h t0)) fun r0 => K (.ret r0) h)
def sum_word.loops : Nat → LInfo
  | 2 => ⟨[1, 7], [false, false], [0, 2], [], [], []⟩
  | _ => ⟨[], [], [], [], [], []⟩
def sum_word.L1 (c : Ctx) (J1 : AV → List AObj → Prop) (K : AOut → List AObj → Prop) (lv : List AV) (h0 : List AObj) (n0 : Nat) (c0 : AV) (c2 : AV) : Prop :=
  ∃ I : Nat → List AV → List AObj → Prop, (∃ n, I n lv h0) ∧ ∀ n h, ∀ t1, ∀ t7, I n [t1, t7] h →
    runD (binD T_int .geq t7 (.int .i64 0)) h fun t9 h =>
    condW t9
    (runD (convD h T_int T_uint64 c2) h fun t15 h =>
    runD (binD T_uint64 .shr t15 t7) h fun t17 h =>
    runD (convD h T_uint64 T_uint8 t17) h fun t18 h =>
    callW false c (.fn (.func 149) [] []) [c0, t1, t18] h (fun t19 h =>
    runD (binD T_int .sub t7 (.int .i64 8)) h fun t11 h =>
    (∃ m, m < n ∧ I m (AV.norms n0 h [t19, t11]) (normH n0 h)) ∧ AV.norms n0 h [c0, c2] = [c0, c2])
    (fun v h => K (.pan v) h))
    (J1 t1 h)
def sum_word.H (c : Ctx) (t0 : AV) (t1 : AV) (t2 : AV) (h : List AObj) (K : AOut → List AObj → Prop) : Prop :=
  joinW (fun (J1 : AV → List AObj → Prop) =>
  promV [false, false] [t1, (.int .i64 56)] h fun lv h => sum_word.L1 c J1 K (AV.norms h.length h lv) (normH h.length h) h.length (AV.norm h.length h t0) (AV.norm h.length h t2))
  (fun t1 h => K (.ret t1) h)
def sum_with.loops : Nat → LInfo
  | _ => ⟨[], [], [], [], [], []⟩
def sum_with.H (c : Ctx) (t0 : AV) (t1 : AV) (t2 : AV) (h : List AObj) (K : AOut → List AObj → Prop) : Prop :=
  runD (binD T_uint32 .shr t1 (.int .u64 8)) h fun t8 h =>
  runD (convD h T_uint32 T_uint8 t1) h fun t11 h =>
  runD (binD T_uint8 .xor t11 t2) h fun t13 h =>
  runD (nilCheckD t0) h fun t14 h =>
  runD (indexAddrD T_256_uint32 h t14 t13) h fun t15 h =>
  runD (fitD T_uint32 (loadD h t15)) h fun t16 h =>
  runD (binD T_uint32 .xor t8 t16) h fun t17 h =>
  K (.ret t17) h
theorem sum_Of.eq (F : List (FuncId × Contract)) (S : List (FuncId × Con)) (t0 : AV) (h : List AObj) (K : AOut → List AObj → Prop) : funW (ctx F S sum_Of.loops) Try.f109 [t0] h K = sum_Of.H (ctx F S sum_Of.loops) t0 h K := by kernel_rfl
theorem sum_table.eq (F : List (FuncId × Contract)) (S : List (FuncId × Con)) (h : List AObj) (K : AOut → List AObj → Prop) : funW (ctx F S sum_table.loops) Try.f134 [] h K = sum_table.H (ctx F S sum_table.loops)  h K := by kernel_rfl
theorem sum_word.eq (F : List (FuncId × Contract)) (S : List (FuncId × Con)) (t0 t1 t2 : AV) (h : List AObj) (K : AOut → List AObj → Prop) : funW (ctx F S sum_word.loops) Try.f135 [t0, t1, t2] h K = sum_word.H (ctx F S sum_word.loops) t0 t1 t2 h K := by kernel_rfl
theorem sum_with.eq (F : List (FuncId × Contract)) (S : List (FuncId × Con)) (t0 t1 t2 : AV) (h : List AObj) (K : AOut → List AObj → Prop) : funW (ctx F S sum_with.loops) Try.f149 [t0, t1, t2] h K = sum_with.H (ctx F S sum_with.loops) t0 t1 t2 h K := by kernel_rfl
theorem sum_Of.at : Try.prog.funcs[109]? = some Try.f109 := by kernel_rfl
theorem sum_Of.nm : (Try.f109.name == "runtime.NumGoroutine") = false := by kernel_rfl
theorem sum_Of.bd : Try.f109.body.isNone = false := by kernel_rfl
theorem sum_table.at : Try.prog.funcs[134]? = some Try.f134 := by kernel_rfl
theorem sum_table.nm : (Try.f134.name == "runtime.NumGoroutine") = false := by kernel_rfl
theorem sum_table.bd : Try.f134.body.isNone = false := by kernel_rfl
theorem sum_word.at : Try.prog.funcs[135]? = some Try.f135 := by kernel_rfl
theorem sum_word.nm : (Try.f135.name == "runtime.NumGoroutine") = false := by kernel_rfl
theorem sum_word.bd : Try.f135.body.isNone = false := by kernel_rfl
theorem sum_with.at : Try.prog.funcs[149]? = some Try.f149 := by kernel_rfl
theorem sum_with.nm : (Try.f149.name == "runtime.NumGoroutine") = false := by kernel_rfl
theorem sum_with.bd : Try.f149.body.isNone = false := by kernel_rfl
end Lam
set_option linter.unnecessarySimpa false
set_option linter.unusedSectionVars false
namespace Lam
open Go Go.Proofs
set_option linter.unusedVariables false
set_option linter.unusedSimpArgs false
theorem sum_table_L2 (c t3 : Int) (xs : List Int) (h : List AObj) (J : AV → AV → AV → AV → List AObj → Prop) (K : AOut → List AObj → Prop) (hh : h = [AObj.row .arr 0 (.ints .u32 xs)])
    (hJ : J (.ptr 0 []) (.int .i64 t3) (.int .u32 (bitN 8 c)) (.int .i64 t3) h) :
    sum_table.L2 (ctx [] [] sum_table.loops) J K [.int .u32 c, .int .i64 0] h 1 (.ptr 0 []) (.int .i64 t3) (.int .i64 t3) := by
  unfold sum_table.L2
  refine ⟨fun n lv h' => ∃ k : Nat, k + n = 8 ∧ lv = [.int .u32 (bitN k c), .int .i64 k] ∧ h' = h, ⟨8, 0, rfl, rfl, rfl⟩, ?_⟩
  rintro n h' t2 t8 ⟨k, hk, hlv, rfl⟩
  simp only [List.cons.injEq, and_true] at hlv
  obtain ⟨rfl, rfl⟩ := hlv
  subst hh
  simp only [go_sem, Nat.reduceLT]
  refine ⟨fun hlt => ⟨by decide, n - 1, by omega, k + 1, by omega, ?_⟩, fun hge => ?_⟩
  · rw [w64 (by omega) (by omega)]
    rfl
  · have : k = 8 := by omega
    subst this; exact hJ

theorem sum_table_L1 (J : AV → List AObj → Prop) (K : AOut → List AObj → Prop) (hJ : J (.ptr 0 []) [AObj.row .arr 0 (.ints .u32 tabL)]) :
    sum_table.L1 (ctx [] [] sum_table.loops) J K [.int .i64 0] [AObj.row .arr 0 (.ints .u32 (List.replicate 256 0))] 1 (.ptr 0 []) := by
  unfold sum_table.L1
  refine ⟨fun n lv h' => ∃ k : Nat, k + n = 256 ∧ lv = [.int .i64 k] ∧ h' = [AObj.row .arr 0 (.ints .u32 ((List.range k).map tabE ++ List.replicate n 0))], ⟨256, 0, rfl, rfl, rfl⟩, ?_⟩
  rintro n h' t3 ⟨k, hk, hlv, rfl⟩
  simp only [List.cons.injEq, and_true] at hlv
  subst hlv
  simp only [go_sem, Nat.reduceLT]
  refine ⟨fun hlt => ?_, fun hge => ?_⟩
  · simp only [joinW_eq]
    apply sum_table_L2 _ _ _ _ _ _ rfl
    have hlen : ((List.range k).map tabE ++ List.replicate n 0).length = 256 := by simp; omega
    simp only [go_sem, Nat.reduceLT, hlen, Int.toNat_natCast]
    refine ⟨by omega, by omega, n - 1, by omega, k + 1, by omega, ?_, ?_⟩
    · rw [w64 (by omega) (by omega)]; rfl
    · obtain ⟨m, rfl⟩ : ∃ m, n = m + 1 := ⟨n - 1, by omega⟩
      simp [List.range_succ, List.replicate_succ, tabE]
  · have hn : n = 0 := by omega
    have hk : k = 256 := by omega
    subst hn hk
    simpa [tabL] using hJ

theorem sum_table_vc : sum_table.H (ctx [] [] sum_table.loops) [] (Post false (.arr (.ints .u32 tabL)) []) := by
  unfold sum_table.H
  simp only [go_sem, Nat.reduceLT]
  simp only [joinW_eq]
  apply sum_table_L1
  have : tabL.length = 256 := by simp [tabL]
  simp only [go_sem, this]
  exact post_val rfl rfl

def sum_table.C : Contract
  | [] => some (false, pD True (.arr (.ints .u32 tabL)))
  | _ => none
theorem sum_table.spec : FSpec Try.prog 134 sum_table.C := by
  refine FSpec.of (ctx_ok (F := []) (S := []) (by simp) (by simp) sum_table.loops) sum_table.at sum_table.nm sum_table.bd ?_
  intro vs b S v news e hS
  unfold sum_table.C at e
  split at e
  rotate_left
  · cases e
  rw [sum_table.eq]
  cases e
  exact sum_table_vc
def sum_with.K : Con := fun args h K => match args with
  | [a0, a1, a2] => sum_with.H (ctx [] [] sum_with.loops) a0 a1 a2 h K
  | _ => False
theorem sum_with.spec : SSpec Try.prog 149 sum_with.K := by
  refine SSpec.of (ctx_ok (F := []) (S := []) (by simp) (by simp) sum_with.loops) sum_with.at sum_with.nm sum_with.bd ?_
  intro args h K hC
  unfold sum_with.K at hC
  split at hC
  · rw [sum_with.eq]; exact hC
  · exact hC.elim
theorem sum_with_vc (t : List Int) (ht : t.length = 256) (c b : Int) (h : List AObj) (K : AOut → List AObj → Prop) (id : Nat) (hid : h[id]? = some (.row .arr 0 (.ints .u32 t))) (hK : K (.ret (.int .u32 (withS t c b))) h) :
    sum_with.K [.ptr id [], .int .u32 c, .int .u8 b] h K := by
  unfold sum_with.K
  simp only
  unfold sum_with.H
  simp only [go_sem, hid, ht]
  have hr : 0 ≤ xorI .u8 (IntKind.u8.wrap c) b ∧ xorI .u8 (IntKind.u8.wrap c) b < 256 := u8_range _
  exact ⟨by decide, hr, (Int.toNat_lt hr.1).2 hr.2, hK⟩

def sum_word.K : Con := fun args h K => match args with
  | [a0, a1, a2] => sum_word.H (ctx [] [(149, sum_with.K)] sum_word.loops) a0 a1 a2 h K
  | _ => False
theorem sum_word.spec : SSpec Try.prog 135 sum_word.K := by
  refine SSpec.of (ctx_ok (F := []) (S := [(149, sum_with.K)]) (by simp) (by simpa using sum_with.spec) sum_word.loops) sum_word.at sum_word.nm sum_word.bd ?_
  intro args h K hC
  unfold sum_word.K at hC
  split at hC
  · rw [sum_word.eq]; exact hC
  · exact hC.elim
theorem sum_word_vc (t : List Int) (ht : t.length = 256) (c w : Int) (h : List AObj) (K : AOut → List AObj → Prop) (hh : h = [.row .arr 0 (.ints .u32 t)]) (hK : K (.ret (.int .u32 (wordS t c w))) h) :
    sum_word.K [.ptr 0 [], .int .u32 c, .int .i64 w] h K := by
  unfold sum_word.K
  simp only
  unfold sum_word.H
  subst hh
  simp only [joinW_eq, go_sem, Nat.reduceLT]
  unfold sum_word.L1
  refine ⟨fun n lv h' => ∃ k : Nat, k + n = 8 ∧ lv = [.int .u32 (wordN t w k c), .int .i64 (56 - 8 * k)] ∧ h' = [.row .arr 0 (.ints .u32 t)], ⟨8, 0, rfl, rfl, rfl⟩, ?_⟩
  rintro n h' t1 t7 ⟨k, hk, hlv, rfl⟩
  simp only [List.cons.injEq, and_true] at hlv
  obtain ⟨rfl, rfl⟩ := hlv
  simp only [go_sem, Nat.reduceLT, Nat.reduceEqDiff]
  refine ⟨fun hlt => ?_, fun hge => ?_⟩
  · refine ⟨hlt, ?_⟩
    apply sum_with_vc t ht _ _ _ _ _ rfl
    simp only [go_sem, Nat.reduceLT]
    refine ⟨n - 1, by omega, k + 1, by omega, ?_⟩
    rw [w64 (by omega) (by omega)]
    simp only [wordN]
    congr 3
    omega
  · have : k = 8 := by omega
    subst this; exact hK

def sum_Of.C : Contract
  | [.sl _ (.ints .i64 l)] => some (false, pD (roomy l.length) (.int .i64 (sumOf l)))
  | _ => none
theorem sum_Of.spec : FSpec Try.prog 109 sum_Of.C := by
  refine FSpec.of (ctx_ok (F := [(134, sum_table.C)]) (S := [(135, sum_word.K)]) (by simpa using sum_table.spec) (by simpa using sum_word.spec) sum_Of.loops) sum_Of.at sum_Of.nm sum_Of.bd ?_
  intro vs b S v news e hS
  unfold sum_Of.C at e
  split at e
  rotate_left
  · cases e
  rw [sum_Of.eq]
  rename_i x l
  cases e
  unfold roomy at hS
  unfold sum_Of.H
  have htl : tabL.length = 256 := tabL_len
  simp only [go_sem, Nat.reduceEqDiff, Nat.reduceLT, sum_table.C, htl, List.length_replicate, joinW_eq]
  unfold sum_Of.L1
  refine ⟨fun n lv h' => ∃ k : Nat, k + n = l.length ∧ lv = [.int .u32 ((l.take k).foldl (wordS tabL) 4294967295), .int .i64 k] ∧ h' = [.row .arr 0 (.ints .u32 tabL)], ⟨l.length, 0, by omega, rfl, rfl⟩, ?_⟩
  rintro n h' t4 t10 ⟨k, hk, hlv, rfl⟩
  simp only [List.cons.injEq, and_true] at hlv
  obtain ⟨rfl, rfl⟩ := hlv
  simp only [go_sem, Nat.reduceLT, Nat.reduceEqDiff]
  refine ⟨fun hlt => ?_, fun hge => ?_⟩
  · refine ⟨by omega, ?_⟩
    apply sum_word_vc tabL htl _ _ _ _ rfl
    simp only [go_sem, Nat.reduceLT]
    refine ⟨n - 1, by omega, k + 1, by omega, ?_⟩
    rw [w64 (by omega) (by omega)]
    have hkl : k < l.length := by omega
    have : l.take (k + 1) = l.take k ++ [l.getD k 0] := by
      rw [List.take_add_one, List.getElem?_eq_getElem hkl, List.getD_eq_getElem?_getD, List.getElem?_eq_getElem hkl]; rfl
    rw [this, List.foldl_append]
    rfl
  · have : k = l.length := by omega
    subst this
    rw [List.take_length]
    exact post_val rfl rfl
end Lam
namespace Lam
open Go Go.Proofs
set_option linter.unusedVariables false
def rec_Read.loops : Nat → LInfo
  | 1 => ⟨[], [], [], [(3, none), (5, some [11, 16])], [], []⟩
  | _ => ⟨[], [], [], [], [], []⟩
def rec_Read.H (c : Ctx) (t0 : AV) (t1 : AV) (h : List AObj) (K : AOut → List AObj → Prop) : Prop :=
  allocW T_api_Rec h fun t4 h =>
  runD (binD T_int .lss t1 (.int .i64 0)) h fun t10 h =>
  joinW (fun (J1 : AV → AV → List AObj → Prop) =>
  guardW t10 false
  (runD (lenD T_sl_int h t0) h fun t14 h =>
    runD (binD T_int .quo t14 (.int .i64 16)) h fun t15 h =>
    runD (binD T_int .geq t1 t15) h fun t16 h =>
    J1 (.bool false) t16 h)
  (J1 (.bool true) .und h))
  (fun t11 t16 h => runD (pickD t11 (.bool true) t16) h fun t17 h =>
  condW t17
  (runD (buildD T_api_Rec []) h fun t18 h =>
    runH (storeH T_api_Rec h t4 t18) h fun _ h =>
    loadRes (fitD T_api_Rec (loadD h t4)) fun r0 => K (.ret (.tup [r0, (.int .i64 1)])) h)
  (allocW T_rec_form h fun t6 h =>
  runD (sliceD T_rec_form h t6 none none none) h fun t19 h =>
  runD (binD T_int .mul (.int .i64 16) t1) h fun t22 h =>
  runD (sliceD T_sl_int h t0 (some t22) none none) h fun t23 h =>
  runM (copyH T_sl_int h t19 t23) h fun t24 h =>
  runD (indexAddrD T_rec_form h t6 (.int .i64 0)) h fun t25 h =>
  runD (fitD T_int (loadD h t25)) h fun t26 h =>
  runD (buildD T_api_Rec [(0, t26)]) h fun t27 h =>
  allocW T_api_Rec h fun t7 h =>
  runH (storeH T_api_Rec h t7 t27) h fun _ h =>
  runD (fitD T_rec_form (loadD h t6)) h fun t29 h =>
  runD (indexAddrD T_rec_form h t6 (.int .i64 1)) h fun t30 h =>
  runD (fitD T_int (loadD h t30)) h fun t31 h =>
  runD (binD T_int .quo t31 (.int .i64 32)) h fun t32 h =>
  callW false c (.fn (.func 73) [] []) [t29, (.int .i64 3), t32] h (fun t33 h =>
  runD (extractD t33 0) h fun t34 h =>
  runD (extractD t33 1) h fun t35 h =>
  runD (fieldAddrD T_api_Rec t7 1) h fun t36 h =>
  runH (storeH T_string h t36 t34) h fun _ h =>
  runD (unD .not t35) h fun t38 h =>
  condW t38
  (runD (buildD T_api_Rec []) h fun t39 h =>
    runH (storeH T_api_Rec h t4 t39) h fun _ h =>
    loadRes (fitD T_api_Rec (loadD h t4)) fun r0 => K (.ret (.tup [r0, (.int .i64 70)])) h)
  (runD (fieldAddrD T_api_Rec t7 0) h fun t40 h =>
  runD (fitD T_int (loadD h t40)) h fun t41 h =>
  runD (binD T_int .eql t41 (.int .i64 1)) h fun t43 h =>
  joinW (fun (J2 : AV → List AObj → Prop) =>
  condW t43
  (runD (fitD T_rec_form (loadD h t6)) h fun t45 h =>
    runD (indexAddrD T_rec_form h t6 (.int .i64 1)) h fun t46 h =>
    runD (fitD T_int (loadD h t46)) h fun t47 h =>
    runD (binD T_int .rem t47 (.int .i64 32)) h fun t48 h =>
    callW false c (.fn (.func 73) [] []) [t45, (.int .i64 6), t48] h (fun t49 h =>
    runD (extractD t49 0) h fun t50 h =>
    runD (extractD t49 1) h fun t51 h =>
    runD (fieldAddrD T_api_Rec t7 2) h fun t52 h =>
    runH (storeH T_string h t52 t50) h fun _ h =>
    J2 t51 h)
    (fun v h => K (.pan v) h))
  (runD (binD T_int .eql t41 (.int .i64 2)) h fun t54 h =>
    joinW (fun (J3 : List AObj → Prop) =>
    condW t54
    (runD (indexAddrD T_rec_form h t6 (.int .i64 6)) h fun t55 h =>
      runD (fitD T_int (loadD h t55)) h fun t56 h =>
      runD (fieldAddrD T_api_Rec t7 3) h fun t57 h =>
      runH (storeH T_int h t57 t56) h fun _ h =>
      J3 h)
    (J3 h))
    (fun h => J2 t35 h)))
  (fun t8 h => runD (unD .not t8) h fun t59 h =>
  joinW (fun (J4 : AV → AV → List AObj → Prop) =>
  guardW t59 false
  (runD (fitD T_api_Rec (loadD h t7)) h fun t61 h =>
    callW false c.noS (.fn (.func 74) [] []) [t61] h (fun t62 h =>
    runD (unD .not t62) h fun t63 h =>
    J4 (.bool false) t63 h)
    (fun _ _ => False))
  (J4 (.bool true) .und h))
  (fun t60 t63 h => runD (pickD t60 (.bool true) t63) h fun t64 h =>
  joinW (fun (J5 : AV → AV → List AObj → Prop) =>
  guardW t64 false
  (runD (fitD T_api_Rec (loadD h t7)) h fun t66 h =>
    callW false c.noS (.fn (.func 75) [] []) [t66] h (fun t67 h =>
    runD (fitD T_rec_form (loadD h t6)) h fun t68 h =>
    runD (binD T_rec_form .neq t67 t68) h fun t69 h =>
    J5 (.bool false) t69 h)
    (fun _ _ => False))
  (J5 (.bool true) .und h))
  (fun t65 t69 h => runD (pickD t65 (.bool true) t69) h fun t70 h =>
  condW t70
  (runD (buildD T_api_Rec []) h fun t71 h =>
    runH (storeH T_api_Rec h t4 t71) h fun _ h =>
    loadRes (fitD T_api_Rec (loadD h t4)) fun r0 => K (.ret (.tup [r0, (.int .i64 70)])) h)
  (runD (fitD T_api_Rec (loadD h t7)) h fun t72 h =>
  runH (storeH T_api_Rec h t4 t72) h fun _ h =>
  loadRes (fitD T_api_Rec (loadD h t4)) fun r0 => K (.ret (.tup [r0, (.int .i64 0)])) h))))))
  (fun v h => K (.pan v) h)))
def rec_Words.loops : Nat → LInfo
  | _ => ⟨[], [], [], [], [], []⟩
def rec_Words.H (c : Ctx) (t0 : AV) (h : List AObj) (K : AOut → List AObj → Prop) : Prop :=
  boxW T_api_Rec t0 h fun t1 h =>
  runD (fitD T_api_Rec (loadD h t1)) h fun t5 h =>
  callW false c (.fn (.func 74) [] []) [t5] h (fun t6 h =>
  runD (unD .not t6) h fun t7 h =>
  condW t7
  (K (.ret (.tup [(.sl true (.ints .i64 [])), (.int .i64 70)])) h)
  (runD (fitD T_api_Rec (loadD h t1)) h fun t8 h =>
  callW false c (.fn (.func 75) [] []) [t8] h (fun t9 h =>
  allocW T_rec_form h fun t4 h =>
  runH (storeH T_rec_form h t4 t9) h fun _ h =>
  runD (sliceD T_rec_form h t4 none none none) h fun t10 h =>
  K (.ret (.tup [t10, (.int .i64 0)])) h)
  (fun v h => K (.pan v) h)))
  (fun v h => K (.pan v) h)
def rec_text.loops : Nat → LInfo
  | 1 => ⟨[], [], [], [(3, none), (2, some [12, 14])], [], []⟩
  | _ => ⟨[], [], [], [], [], []⟩
def rec_text.H (c : Ctx) (t0 : AV) (t1 : AV) (t2 : AV) (h : List AObj) (K : AOut → List AObj → Prop) : Prop :=
  boxW T_rec_form t0 h fun t3 h =>
  runD (binD T_int .lss t2 (.int .i64 0)) h fun t11 h =>
  joinW (fun (J1 : AV → AV → List AObj → Prop) =>
  guardW t11 false
  (runD (binD T_int .gtr t2 (.int .i64 21)) h fun t14 h =>
    J1 (.bool false) t14 h)
  (J1 (.bool true) .und h))
  (fun t12 t14 h => runD (pickD t12 (.bool true) t14) h fun t15 h =>
  condW t15
  (K (.ret (.tup [(.str []), (.bool false)])) h)
  (runD (binD T_int .add t2 (.int .i64 6)) h fun t20 h =>
  runD (binD T_int .quo t20 (.int .i64 7)) h fun t21 h =>
  runD (binD T_int .add t1 t21) h fun t22 h =>
  runD (sliceD T_rec_form h t3 (some t1) (some t22) none) h fun t23 h =>
  callW false c (.fn (.func 101) [] []) [t23, t2] h (fun t25 h =>
  runD (extractD t25 0) h fun t26 h =>
  runD (extractD t25 1) h fun t27 h =>
  runD (binD T_api_Errno .eql t27 (.int .i64 0)) h fun t30 h =>
  K (.ret (.tup [t26, t30])) h)
  (fun v h => K (.pan v) h)))
def rec_Check.loops : Nat → LInfo
  | 3 => ⟨[], [], [], [(4, none), (3, some [10, 13]), (2, none), (3, some [15, 18])], [], []⟩
  | 5 => ⟨[], [], [], [(4, none), (3, some [25, 28]), (2, none), (3, some [30, 33]), (2, none), (3, some [35, 38]), (2, none), (3, some [40, 43])], [], []⟩
  | _ => ⟨[], [], [], [], [], []⟩
def rec_Check.H (c : Ctx) (t0 : AV) (h : List AObj) (K : AOut → List AObj → Prop) : Prop :=
  boxW T_api_Rec t0 h fun t1 h =>
  runD (fieldAddrD T_api_Rec t1 0) h fun t3 h =>
  runD (fitD T_int (loadD h t3)) h fun t4 h =>
  runD (binD T_int .eql t4 (.int .i64 1)) h fun t6 h =>
  condW t6
  (runD (fieldAddrD T_api_Rec t1 1) h fun t7 h =>
    runD (fitD T_string (loadD h t7)) h fun t8 h =>
    callW false c (.fn (.func 102) [] []) [t8] h (fun t9 h =>
    joinW (fun (J1 : AV → AV → List AObj → Prop) =>
    guardW t9 true
    (runD (fieldAddrD T_api_Rec t1 2) h fun t11 h =>
      runD (fitD T_string (loadD h t11)) h fun t12 h =>
      callW false c (.fn (.func 103) [] []) [t12] h (fun t13 h =>
      J1 (.bool true) t13 h)
      (fun v h => K (.pan v) h))
    (J1 (.bool false) .und h))
    (fun t10 t13 h => runD (pickD t10 t13 (.bool false)) h fun t14 h =>
    joinW (fun (J2 : AV → AV → List AObj → Prop) =>
    guardW t14 true
    (runD (fieldAddrD T_api_Rec t1 3) h fun t16 h =>
      runD (fitD T_int (loadD h t16)) h fun t17 h =>
      runD (binD T_int .eql t17 (.int .i64 0)) h fun t18 h =>
      J2 (.bool true) t18 h)
    (J2 (.bool false) .und h))
    (fun t15 t18 h => runD (pickD t15 t18 (.bool false)) h fun t19 h =>
    K (.ret t19) h)))
    (fun v h => K (.pan v) h))
  (runD (binD T_int .eql t4 (.int .i64 2)) h fun t21 h =>
    condW t21
    (runD (fieldAddrD T_api_Rec t1 1) h fun t22 h =>
      runD (fitD T_string (loadD h t22)) h fun t23 h =>
      runD (binD T_string .eql t23 (.str [])) h fun t24 h =>
      joinW (fun (J3 : AV → AV → List AObj → Prop) =>
      guardW t24 false
      (runD (fieldAddrD T_api_Rec t1 1) h fun t26 h =>
        runD (fitD T_string (loadD h t26)) h fun t27 h =>
        callW false c (.fn (.func 102) [] []) [t27] h (fun t28 h =>
        J3 (.bool false) t28 h)
        (fun v h => K (.pan v) h))
      (J3 (.bool true) .und h))
      (fun t25 t28 h => runD (pickD t25 (.bool true) t28) h fun t29 h =>
      joinW (fun (J4 : AV → AV → List AObj → Prop) =>
      guardW t29 true
      (runD (fieldAddrD T_api_Rec t1 2) h fun t31 h =>
        runD (fitD T_string (loadD h t31)) h fun t32 h =>
        runD (binD T_string .eql t32 (.str [])) h fun t33 h =>
        J4 (.bool true) t33 h)
      (J4 (.bool false) .und h))
      (fun t30 t33 h => runD (pickD t30 t33 (.bool false)) h fun t34 h =>
      joinW (fun (J5 : AV → AV → List AObj → Prop) =>
      guardW t34 true
      (runD (fieldAddrD T_api_Rec t1 3) h fun t36 h =>
        runD (fitD T_int (loadD h t36)) h fun t37 h =>
        runD (binD T_int .gtr t37 (.int .i64 0)) h fun t38 h =>
        J5 (.bool true) t38 h)
      (J5 (.bool false) .und h))
      (fun t35 t38 h => runD (pickD t35 t38 (.bool false)) h fun t39 h =>
      joinW (fun (J6 : AV → AV → List AObj → Prop) =>
      guardW t39 true
      (runD (fieldAddrD T_api_Rec t1 3) h fun t41 h =>
        runD (fitD T_int (loadD h t41)) h fun t42 h =>
        runD (binD T_int .lss t42 (.int .i64 256)) h fun t43 h =>
        J6 (.bool true) t43 h)
      (J6 (.bool false) .und h))
      (fun t40 t43 h => runD (pickD t40 t43 (.bool false)) h fun t44 h =>
      K (.ret t44) h)))))
    (K (.ret (.bool false)) h))
def rec_of.loops : Nat → LInfo
  | _ => ⟨[], [], [], [], [], []⟩
def rec_of.H (c : Ctx) (t0 : AV) (h : List AObj) (K : AOut → List AObj → Prop) : Prop :=
  boxW T_api_Rec t0 h fun t1 h =>
  allocW T_rec_form h fun t2 h =>
  runD (fieldAddrD T_api_Rec t1 0) h fun t4 h =>
  runD (fitD T_int (loadD h t4)) h fun t5 h =>
  runD (fieldAddrD T_api_Rec t1 1) h fun t6 h =>
  runD (fitD T_string (loadD h t6)) h fun t7 h =>
  runD (lenD T_string h t7) h fun t8 h =>
  runD (binD T_int .mul (.int .i64 32) t8) h fun t9 h =>
  runD (fieldAddrD T_api_Rec t1 2) h fun t10 h =>
  runD (fitD T_string (loadD h t10)) h fun t11 h =>
  runD (lenD T_string h t11) h fun t12 h =>
  runD (binD T_int .add t9 t12) h fun t13 h =>
  runD (buildD T_rec_form [(0, t5), (1, t13)]) h fun t14 h =>
  allocW T_rec_form h fun t3 h =>
  runH (storeH T_rec_form h t3 t14) h fun _ h =>
  runD (sliceD T_rec_form h t3 (some (.int .i64 3)) none none) h fun t15 h =>
  runD (fieldAddrD T_api_Rec t1 1) h fun t16 h =>
  runD (fitD T_string (loadD h t16)) h fun t17 h =>
  callW false c.noS (.fn (.func 104) [] []) [t17] h (fun t18 h =>
  runM (copyH T_sl_int h t15 t18) h fun t19 h =>
  runD (sliceD T_rec_form h t3 (some (.int .i64 6)) none none) h fun t20 h =>
  runD (fieldAddrD T_api_Rec t1 2) h fun t21 h =>
  runD (fitD T_string (loadD h t21)) h fun t22 h =>
  callW false c.noS (.fn (.func 104) [] []) [t22] h (fun t23 h =>
  runM (copyH T_sl_int h t20 t23) h fun t24 h =>
  runD (fieldAddrD T_api_Rec t1 0) h fun t25 h =>
  runD (fitD T_int (loadD h t25)) h fun t26 h =>
  runD (binD T_int .eql t26 (.int .i64 2)) h fun t27 h =>
  joinW (fun (J1 : List AObj → Prop) =>
  condW t27
  (runD (fieldAddrD T_api_Rec t1 3) h fun t28 h =>
    runD (fitD T_int (loadD h t28)) h fun t29 h =>
    runD (indexAddrD T_rec_form h t3 (.int .i64 6)) h fun t30 h =>
    runH (storeH T_int h t30 t29) h fun _ h =>
    J1 h)
  (J1 h))
  (fun h => runD (fitD T_rec_form (loadD h t3)) h fun t31 h =>
  callW false c (.fn (.func 105) [] []) [t31] h (fun t32 h =>
  runH (storeH T_rec_form h t2 t32) h fun _ h =>
  loadRes (fitD T_rec_form (loadD h t2)) fun r0 => K (.ret r0) h)
  (fun v h => K (.pan v) h)))
  (fun _ _ => False))
  (fun _ _ => False)
def rec_summed.loops : Nat → LInfo
  | _ => ⟨[], [], [], [], [], []⟩
def rec_summed.H (c : Ctx) (t0 : AV) (h : List AObj) (K : AOut → List AObj → Prop) : Prop :=
  boxW T_rec_form t0 h fun t1 h =>
  allocW T_rec_form h fun t2 h =>
  runD (indexAddrD T_rec_form h t1 (.int .i64 0)) h fun t4 h =>
  runD (fitD T_int (loadD h t4)) h fun t5 h =>
  runD (indexAddrD T_rec_form h t1 (.int .i64 1)) h fun t6 h =>
  runD (fitD T_int (loadD h t6)) h fun t7 h =>
  runD (buildSliceD T_sl_int 2 [(0, t5), (1, t7)] h.length) h fun t8 h =>
  runD (sliceD T_rec_form h t1 (some (.int .i64 3)) none none) h fun t9 h =>
  runDM (appendD T_sl_int h t8 t9 h.length) (appendH T_sl_int h t8 t9) h fun t10 h =>
  callW false c (.fn (.func 109) [] []) [t10] h (fun t12 h =>
  runD (indexAddrD T_rec_form h t1 (.int .i64 2)) h fun t13 h =>
  runH (storeH T_int h t13 t12) h fun _ h =>
  runD (fitD T_rec_form (loadD h t1)) h fun t14 h =>
  runH (storeH T_rec_form h t2 t14) h fun _ h =>
  loadRes (fitD T_rec_form (loadD h t2)) fun r0 => K (.ret r0) h)
  (fun v h => K (.pan v) h)
theorem rec_Read.eq (F : List (FuncId × Contract)) (S : List (FuncId × Con)) (t0 t1 : AV) (h : List AObj) (K : AOut → List AObj → Prop) : funW (ctx F S rec_Read.loops) Try.f37 [t0, t1] h K = rec_Read.H (ctx F S rec_Read.loops) t0 t1 h K := by kernel_rfl
theorem rec_Words.eq (F : List (FuncId × Contract)) (S : List (FuncId × Con)) (t0 : AV) (h : List AObj) (K : AOut → List AObj → Prop) : funW (ctx F S rec_Words.loops) Try.f60 [t0] h K = rec_Words.H (ctx F S rec_Words.loops) t0 h K := by kernel_rfl
theorem rec_text.eq (F : List (FuncId × Contract)) (S : List (FuncId × Con)) (t0 t1 t2 : AV) (h : List AObj) (K : AOut → List AObj → Prop) : funW (ctx F S rec_text.loops) Try.f73 [t0, t1, t2] h K = rec_text.H (ctx F S rec_text.loops) t0 t1 t2 h K := by kernel_rfl
theorem rec_Check.eq (F : List (FuncId × Contract)) (S : List (FuncId × Con)) (t0 : AV) (h : List AObj) (K : AOut → List AObj → Prop) : funW (ctx F S rec_Check.loops) Try.f74 [t0] h K = rec_Check.H (ctx F S rec_Check.loops) t0 h K := by kernel_rfl
theorem rec_of.eq (F : List (FuncId × Contract)) (S : List (FuncId × Con)) (t0 : AV) (h : List AObj) (K : AOut → List AObj → Prop) : funW (ctx F S rec_of.loops) Try.f75 [t0] h K = rec_of.H (ctx F S rec_of.loops) t0 h K := by kernel_rfl
theorem rec_summed.eq (F : List (FuncId × Contract)) (S : List (FuncId × Con)) (t0 : AV) (h : List AObj) (K : AOut → List AObj → Prop) : funW (ctx F S rec_summed.loops) Try.f105 [t0] h K = rec_summed.H (ctx F S rec_summed.loops) t0 h K := by kernel_rfl
theorem rec_Read.at : Try.prog.funcs[37]? = some Try.f37 := by kernel_rfl
theorem rec_Read.nm : (Try.f37.name == "runtime.NumGoroutine") = false := by kernel_rfl
theorem rec_Read.bd : Try.f37.body.isNone = false := by kernel_rfl
theorem rec_Words.at : Try.prog.funcs[60]? = some Try.f60 := by kernel_rfl
theorem rec_Words.nm : (Try.f60.name == "runtime.NumGoroutine") = false := by kernel_rfl
theorem rec_Words.bd : Try.f60.body.isNone = false := by kernel_rfl
theorem rec_text.at : Try.prog.funcs[73]? = some Try.f73 := by kernel_rfl
theorem rec_text.nm : (Try.f73.name == "runtime.NumGoroutine") = false := by kernel_rfl
theorem rec_text.bd : Try.f73.body.isNone = false := by kernel_rfl
theorem rec_Check.at : Try.prog.funcs[74]? = some Try.f74 := by kernel_rfl
theorem rec_Check.nm : (Try.f74.name == "runtime.NumGoroutine") = false := by kernel_rfl
theorem rec_Check.bd : Try.f74.body.isNone = false := by kernel_rfl
theorem rec_of.at : Try.prog.funcs[75]? = some Try.f75 := by kernel_rfl
theorem rec_of.nm : (Try.f75.name == "runtime.NumGoroutine") = false := by kernel_rfl
theorem rec_of.bd : Try.f75.body.isNone = false := by kernel_rfl
theorem rec_summed.at : Try.prog.funcs[105]? = some Try.f105 := by kernel_rfl
theorem rec_summed.nm : (Try.f105.name == "runtime.NumGoroutine") = false := by kernel_rfl
theorem rec_summed.bd : Try.f105.body.isNone = false := by kernel_rfl
end Lam
namespace Lam
open Go Go.Proofs
set_option linter.unusedVariables false
set_option linter.unnecessarySimpa false
set_option linter.unusedSimpArgs false
def rec_Check.C : Contract
  | [.agg [.int .i64 a, .str k, .str v, .int .i64 c]] => some (false, pD True (.bool (recB ⟨a, k, v, c⟩)))
  | _ => none
set_option maxRecDepth 20000 in
theorem rec_Check.spec : FSpec Try.prog 74 rec_Check.C := by
  refine FSpec.of (ctx_ok (F := [(102, key_Check.C), (103, key_CheckVal.C)]) (S := []) (by simpa using ⟨key_Check.spec, key_CheckVal.spec⟩) (by simp) rec_Check.loops) rec_Check.at rec_Check.nm rec_Check.bd ?_
  intro vs b S v news e hS
  unfold rec_Check.C at e
  split at e
  rotate_left
  · cases e
  cases e
  rw [rec_Check.eq]
  unfold rec_Check.H
  simp (maxSteps := 4000000) only [go_sem, Nat.reduceEqDiff, Nat.reduceLT, Nat.reduceAdd, Nat.reduceSub, Nat.reduceLeDiff, List.reduceReplicate, Int.reduceToNat, key_Check.C, key_CheckVal.C]
  rename_i a k v c
  have r1 : a = 1 → recB ⟨a, k, v, c⟩ = (decide (¬ k = []) && decide ((List.length k : Int) ≤ 21) && decide ((List.length v : Int) ≤ 21) && decide (c = 0)) := by
    rintro rfl
    unfold recB keyB
    rw [Bool.eq_iff_iff]
    simp [and_assoc]
  have r2 : a = 2 → recB ⟨a, k, v, c⟩ = ((decide (k = []) || decide (¬ k = []) && decide ((List.length k : Int) ≤ 21)) && decide (v = []) && decide (0 < c) && decide (c < 256)) := by
    rintro rfl
    unfold recB keyB
    rw [Bool.eq_iff_iff]
    simp [and_assoc]
  have r3 : ¬ a = 1 → ¬ a = 2 → recB ⟨a, k, v, c⟩ = false := by
    intro h1 h2
    unfold recB
    rw [decide_eq_false h1, decide_eq_false h2]; rfl
  refine ⟨fun h => ?_, fun h => ⟨fun h2 => ?_, fun h2 => ?_⟩⟩
  · rw [r1 h]; exact post_val rfl rfl
  · rw [r2 h2]; exact post_val rfl rfl
  · rw [r3 h h2]; exact post_val rfl rfl
def rec_summed.C : Contract
  | [.arr (.ints .i64 l)] => some (false, pD (l.length = 16) (.arr (.ints .i64 (l.set 2 (sumOf (l.getD 0 0 :: l.getD 1 0 :: l.drop 3))))))
  | _ => none
set_option maxRecDepth 20000 in
theorem rec_summed.spec : FSpec Try.prog 105 rec_summed.C := by
  refine FSpec.of (ctx_ok (F := [(109, sum_Of.C)]) (S := []) (by simpa using sum_Of.spec) (by simp) rec_summed.loops) rec_summed.at rec_summed.nm rec_summed.bd ?_
  intro vs b S v news e hS
  unfold rec_summed.C at e
  split at e
  rotate_left
  · cases e
  cases e
  rw [rec_summed.eq]
  unfold rec_summed.H
  simp (maxSteps := 4000000) only [go_sem, Nat.reduceEqDiff, Nat.reduceLT, Nat.reduceAdd, Nat.reduceSub, Nat.reduceLeDiff, List.reduceReplicate, Int.reduceToNat, sum_Of.C]
  rename_i l
  simp only [hS, sum_Of.C, joinW_eq, guard_tt, guard_tf, guard_ft, guard_ff, Int.reduceEq, Int.reduceLT, Int.reduceLE, decide_false, decide_true, Bool.not_false, Bool.not_true, Bool.not_not, not_true_eq_false, not_false_eq_true, true_implies, false_implies, implies_true, and_true, true_and, reduceCtorEq, Bool.and_self, Bool.or_self, Bool.and_true, Bool.true_and, Bool.false_eq_true, if_true, if_false, go_sem, Nat.reduceEqDiff, Nat.reduceLT, Nat.reduceAdd, Nat.reduceSub, Nat.reduceLeDiff, List.reduceReplicate, Int.reduceToNat]
  have htk : (l.drop 3).take 13 = l.drop 3 := take_len _ (by simp; omega)
  rw [htk]
  have : roomy ((l.drop 3).length + 1 + 1) := by unfold roomy; simp; omega
  exact ⟨this, this, post_val rfl rfl⟩
def rec_of.C : Contract
  | [.agg [.int .i64 a, .str k, .str v, .int .i64 c]] => some (false, pD (Rc.ok ⟨a, k, v, c⟩) (.arr (.ints .i64 (formR ⟨a, k, v, c⟩))))
  | _ => none
set_option maxRecDepth 20000 in
theorem rec_of.spec : FSpec Try.prog 75 rec_of.C := by
  refine FSpec.of (ctx_ok (F := [(104, key_Words.C), (105, rec_summed.C)]) (S := []) (by simpa using ⟨key_Words.spec, rec_summed.spec⟩) (by simp) rec_of.loops) rec_of.at rec_of.nm rec_of.bd ?_
  intro vs b S v news e hS
  unfold rec_of.C at e
  split at e
  rotate_left
  · cases e
  cases e
  rw [rec_of.eq]
  unfold rec_of.H
  simp (maxSteps := 4000000) only [go_sem, Nat.reduceEqDiff, Nat.reduceLT, Nat.reduceAdd, Nat.reduceSub, Nat.reduceLeDiff, List.reduceReplicate, Int.reduceToNat, key_Words.C, rec_summed.C]
  rename_i a k v c
  have hok := hS
  have hk := three_len hS.key
  have hkl : (keyW k).length = (k.length + 6) / 7 := keyW_len k
  have hvl : (keyW v).length = (v.length + 6) / 7 := keyW_len v
  have q1 := hS.key
  have q2 := hS.val
  simp only at q1 q2 hk
  have e1 : IntKind.i64.wrap (IntKind.i64.wrap (32 * (List.length k : Int)) + (List.length v : Int)) = lensR ⟨a, k, v, c⟩ := by
    rw [w64 (n := 32 * (List.length k : Int)) (by omega) (by omega), w64 (by omega) (by omega)]; rfl
  rw [e1]
  generalize hm : lensR ⟨a, k, v, c⟩ = m at *
  have pad : ∀ (t : List Int), t.length ≤ 3 → t.take 13 ++ List.take (16 - (3 + min 13 t.length)) (List.drop (3 + min 13 t.length) [a, m, 0, 0, 0, 0, 0, 0, 0, 0, 0, 0, 0, 0, 0, 0]) = t ++ List.replicate (13 - t.length) 0 := by
    intro t ht
    rw [take_len t (by omega), Nat.min_eq_right (by omega)]
    congr 1
    have : ∀ n, n ≤ 3 → List.take (16 - (3 + n)) (List.drop (3 + n) [a, m, 0, 0, 0, 0, 0, 0, 0, 0, 0, 0, 0, 0, 0, 0]) = List.replicate (13 - n) 0 := by
      intro n hn
      rcases n with _|_|_|_|n <;> first | rfl | omega
    exact this _ ht
  have hkl3 : (keyW k).length ≤ 3 := by omega
  have hvl3 : (keyW v).length ≤ 3 := by omega
  rw [pad _ hkl3]
  have hL : (keyW k ++ List.replicate (13 - (keyW k).length) 0).length = 13 := by simp; omega
  simp only [hL, key_Words.C, joinW_eq, guard_tt, guard_tf, guard_ft, guard_ff, Int.reduceEq, Int.reduceLT, Int.reduceLE, decide_false, decide_true, Bool.not_false, Bool.not_true, Bool.not_not, not_true_eq_false, not_false_eq_true, true_implies, false_implies, implies_true, and_true, true_and, reduceCtorEq, Bool.and_self, Bool.or_self, Bool.and_true, Bool.true_and, Bool.false_eq_true, if_true, if_false, go_sem, Nat.reduceEqDiff, Nat.reduceLT, Nat.reduceAdd, Nat.reduceSub, Nat.reduceLeDiff, List.reduceReplicate, Int.reduceToNat]
  have hZ : List.take 3 (keyW k ++ List.replicate (13 - (keyW k).length) 0) = threeI k := by
    unfold threeI
    rw [List.take_append, take_len (keyW k) hkl3, List.take_replicate, Nat.min_eq_left (by omega)]
  have hT : List.take 10 (keyW v) ++ List.take (16 - (6 + min 10 (keyW v).length)) (List.drop (6 + min 10 (keyW v).length) (a :: m :: 0 :: (keyW k ++ List.replicate (13 - (keyW k).length) 0))) = keyW v ++ List.replicate (10 - (keyW v).length) 0 := by
    rw [take_len (keyW v) (by omega), Nat.min_eq_right (by omega)]
    congr 1
    rw [show 6 + (keyW v).length = (3 + (keyW v).length) + 1 + 1 + 1 from by omega, List.drop_succ_cons, List.drop_succ_cons, List.drop_succ_cons, List.drop_append, List.drop_eq_nil_of_le (by omega), List.nil_append, List.drop_replicate, List.take_replicate]
    congr 1; omega
  rw [hZ, hT]
  have hlen : (threeI k ++ (keyW v ++ List.replicate (10 - (keyW v).length) 0)).length = 13 := by simp [hk]; omega
  have hr1 : a ≠ 2 → threeI k ++ (keyW v ++ List.replicate (10 - (keyW v).length) 0) = restR ⟨a, k, v, c⟩ := by
    intro h
    unfold restR
    simp only [if_neg h]
    congr 1
    unfold threeI
    rw [List.append_assoc, List.replicate_append_replicate]
    congr 2; omega
  have hr2 : a = 2 → (threeI k ++ (keyW v ++ List.replicate (10 - (keyW v).length) 0)).set 3 c = restR ⟨a, k, v, c⟩ := by
    intro h
    have hv0 : v = [] := by
      rcases hok with h' | h'
      · have := h'.1; simp only at this; omega
      · exact h'.2.2.1
    subst hv0
    unfold restR
    simp only [if_pos h]
    rw [List.set_append_right _ _ (by omega), hk]
    rfl
  have hmr : m = lensR ⟨a, k, v, c⟩ := hm.symm
  simp only [hlen, rec_summed.C, joinW_eq, guard_tt, guard_tf, guard_ft, guard_ff, Int.reduceEq, Int.reduceLT, Int.reduceLE, decide_false, decide_true, Bool.not_false, Bool.not_true, Bool.not_not, not_true_eq_false, not_false_eq_true, true_implies, false_implies, implies_true, and_true, true_and, reduceCtorEq, Bool.and_self, Bool.or_self, Bool.and_true, Bool.true_and, Bool.false_eq_true, if_true, if_false, go_sem, Nat.reduceEqDiff, Nat.reduceLT, Nat.reduceAdd, Nat.reduceSub, Nat.reduceLeDiff, List.reduceReplicate, Int.reduceToNat]
  have hd3 : ∀ R : List Int, List.drop 3 (a :: m :: 0 :: R) = R := fun R => rfl
  refine ⟨by unfold roomy; omega, by unfold roomy; omega, fun h2 => ?_, fun h2 => ?_⟩
  · rw [hr2 h2, hd3, hmr]; exact post_val rfl rfl
  · rw [hr1 h2, hd3, hmr]; exact post_val rfl rfl
def rwordsV (x : Rc) : AV := if recB x = true then .tup [.sl false (.ints .i64 (formR x)), .int .i64 0] else .tup [.sl false (.ints .i64 []), .int .i64 70]
def rec_Words.C : Contract
  | [.agg [.int .i64 a, .str k, .str v, .int .i64 c]] => some (false, pD True (rwordsV ⟨a, k, v, c⟩))
  | _ => none
set_option maxRecDepth 20000 in
theorem rec_Words.spec : FSpec Try.prog 60 rec_Words.C := by
  refine FSpec.of (ctx_ok (F := [(74, rec_Check.C), (75, rec_of.C)]) (S := []) (by simpa using ⟨rec_Check.spec, rec_of.spec⟩) (by simp) rec_Words.loops) rec_Words.at rec_Words.nm rec_Words.bd ?_
  intro vs b S v news e hS
  unfold rec_Words.C at e
  split at e
  rotate_left
  · cases e
  cases e
  rw [rec_Words.eq]
  unfold rec_Words.H
  simp (maxSteps := 4000000) only [go_sem, Nat.reduceEqDiff, Nat.reduceLT, Nat.reduceAdd, Nat.reduceSub, Nat.reduceLeDiff, List.reduceReplicate, Int.reduceToNat, rec_Check.C, rec_of.C]
  rename_i a k v c
  refine ⟨fun h => ?_, fun h => ?_⟩
  · unfold rwordsV; rw [h]; exact post_val rfl rfl
  · have hok := rec_iff.1 h
    have hl := form_len hok
    unfold rwordsV
    simp only [h, hl, joinW_eq, guard_tt, guard_tf, guard_ft, guard_ff, Int.reduceEq, Int.reduceLT, Int.reduceLE, decide_false, decide_true, Bool.not_false, Bool.not_true, Bool.not_not, not_true_eq_false, not_false_eq_true, true_implies, false_implies, implies_true, and_true, true_and, reduceCtorEq, Bool.and_self, Bool.or_self, Bool.and_true, Bool.true_and, Bool.false_eq_true, if_true, if_false, go_sem, Nat.reduceEqDiff, Nat.reduceLT, Nat.reduceAdd, Nat.reduceSub, Nat.reduceLeDiff, List.reduceReplicate, Int.reduceToNat]
    refine ⟨hok, post_val ?_ rfl⟩
    simp only [go_sem, Nat.reduceEqDiff, Nat.reduceLT, Nat.reduceAdd, Nat.reduceSub, Nat.reduceLeDiff, List.reduceReplicate, Int.reduceToNat]
    rw [take_len _ (Nat.le_of_eq hl)]
def rec_text.C : Contract
  | [.arr (.ints .i64 l), .int .i64 a, .int .i64 n] => some (false, pD (l.length = 16 ∧ 0 ≤ a ∧ a ≤ 6) (.tup [.str (txtS l a.toNat n), .bool (txtB l a.toNat n)]))
  | _ => none
set_option maxRecDepth 20000 in
theorem rec_text.spec : FSpec Try.prog 73 rec_text.C := by
  refine FSpec.of (ctx_ok (F := [(101, key_Text.C)]) (S := []) (by simpa using key_Text.spec) (by simp) rec_text.loops) rec_text.at rec_text.nm rec_text.bd ?_
  intro vs b S v news e hS
  unfold rec_text.C at e
  split at e
  rotate_left
  · cases e
  cases e
  rw [rec_text.eq]
  unfold rec_text.H
  simp (maxSteps := 4000000) only [go_sem, Nat.reduceEqDiff, Nat.reduceLT, Nat.reduceAdd, Nat.reduceSub, Nat.reduceLeDiff, List.reduceReplicate, Int.reduceToNat, key_Text.C]
  rename_i l a n
  obtain ⟨hl, ha0, ha6⟩ := hS
  have eg : (decide (n < 0) || decide (21 < n)) = !(decide (0 ≤ n) && decide (n ≤ 21)) := by
    rw [Bool.eq_iff_iff]; simp only [Bool.or_eq_true, Bool.not_eq_true', Bool.and_eq_false_iff, decide_eq_true_eq, decide_eq_false_iff_not]; omega
  rw [eg]
  refine ⟨hl, fun h => ?_, fun h => ?_⟩
  · have hb : txtB l a.toNat n = false := by
      unfold txtB; rw [Bool.not_eq_true'] at h; rw [h]; rfl
    unfold txtS
    rw [hb]; exact post_val rfl rfl
  · rw [Bool.not_eq_false'] at h
    have h' := h
    simp only [Bool.and_eq_true, decide_eq_true_eq] at h'
    obtain ⟨N, rfl⟩ := Int.eq_ofNat_of_zero_le h'.1
    obtain ⟨A, rfl⟩ := Int.eq_ofNat_of_zero_le ha0
    have hN : N ≤ 21 := by omega
    have q0 : (N + 6) / 7 ≤ 3 := by omega
    have e1 : IntKind.i64.wrap ((N : Int) + 6) = ((N + 6 : Nat) : Int) := by rw [w64 (by omega) (by omega)]; omega
    have e2 : IntKind.i64.wrap (((N + 6 : Nat) : Int).tdiv 7) = (((N + 6) / 7 : Nat) : Int) := by
      rw [Int.tdiv_eq_ediv_of_nonneg (by omega), w64 (by omega) (by omega)]; omega
    have e3 : IntKind.i64.wrap ((A : Int) + (((N + 6) / 7 : Nat) : Int)) = ((A + (N + 6) / 7 : Nat) : Int) := by rw [w64 (by omega) (by omega)]; omega
    have e4 : A + (N + 6) / 7 - A = (N + 6) / 7 := by omega
    rw [e1, e2, e3]
    simp only [hl, Int.toNat_natCast, e4, key_Text.C, joinW_eq, guard_tt, guard_tf, guard_ft, guard_ff, Int.reduceEq, Int.reduceLT, Int.reduceLE, decide_false, decide_true, Bool.not_false, Bool.not_true, Bool.not_not, not_true_eq_false, not_false_eq_true, true_implies, false_implies, implies_true, and_true, true_and, reduceCtorEq, Bool.and_self, Bool.or_self, Bool.and_true, Bool.true_and, Bool.false_eq_true, if_true, if_false, go_sem, Nat.reduceEqDiff, Nat.reduceLT, Nat.reduceAdd, Nat.reduceSub, Nat.reduceLeDiff, List.reduceReplicate, Int.reduceToNat]
    have hbt : txtB l A (N : Int) = textB ((l.drop A).take ((N + 6) / 7)) N := by
      unfold txtB
      rw [Int.toNat_natCast, h, Bool.true_and]
    have hst : txtS l A (N : Int) = if textB ((l.drop A).take ((N + 6) / 7)) N = true then textS ((l.drop A).take ((N + 6) / 7)) N else [] := by
      unfold txtS
      rw [hbt, Int.toNat_natCast]
    have hw : roomy (7 * (List.take ((N + 6) / 7) (List.drop A l)).length) := by rw [List.length_take]; unfold roomy; omega
    rw [hst, hbt]
    unfold textV
    refine ⟨by omega, ⟨hw, by omega⟩, ?_⟩
    cases textB ((l.drop A).take ((N + 6) / 7)) N
    · simp only [joinW_eq, guard_tt, guard_tf, guard_ft, guard_ff, Int.reduceEq, Int.reduceLT, Int.reduceLE, decide_false, decide_true, Bool.not_false, Bool.not_true, Bool.not_not, not_true_eq_false, not_false_eq_true, true_implies, false_implies, implies_true, and_true, true_and, reduceCtorEq, Bool.and_self, Bool.or_self, Bool.and_true, Bool.true_and, Bool.false_eq_true, if_true, if_false, go_sem, Nat.reduceEqDiff, Nat.reduceLT, Nat.reduceAdd, Nat.reduceSub, Nat.reduceLeDiff, List.reduceReplicate, Int.reduceToNat]; exact post_val rfl rfl
    · simp only [joinW_eq, guard_tt, guard_tf, guard_ft, guard_ff, Int.reduceEq, Int.reduceLT, Int.reduceLE, decide_false, decide_true, Bool.not_false, Bool.not_true, Bool.not_not, not_true_eq_false, not_false_eq_true, true_implies, false_implies, implies_true, and_true, true_and, reduceCtorEq, Bool.and_self, Bool.or_self, Bool.and_true, Bool.true_and, Bool.false_eq_true, if_true, if_false, go_sem, Nat.reduceEqDiff, Nat.reduceLT, Nat.reduceAdd, Nat.reduceSub, Nat.reduceLeDiff, List.reduceReplicate, Int.reduceToNat]; exact post_val rfl rfl
def rreadV (words : List Int) (at_ : Int) : AV := if (decide (at_ < 0) || decide (((words.length / 16 : Nat) : Int) ≤ at_)) = true then .tup [zeroRc.V, .int .i64 1] else match recOf (blockAt words at_.toNat) with
  | some n => .tup [n.V, .int .i64 0]
  | none => .tup [zeroRc.V, .int .i64 70]
/-- as the program reckons it -/
def decP7 (w : List Int) : Rc := ⟨w.getD 0 0, txtS w 3 (IntKind.i64.wrap ((w.getD 1 0).tdiv 32)), if w.getD 0 0 = 1 then txtS w 6 ((w.getD 1 0).tmod 32) else [], if w.getD 0 0 = 2 then w.getD 6 0 else 0⟩
theorem lens_P {x : Rc} (h : x.ok) : IntKind.i64.wrap ((lensR x).tdiv 32) = x.key.length ∧ (lensR x).tmod 32 = x.val.length := by
  have hl := form_lens h
  rw [Int.tdiv_eq_ediv_of_nonneg hl.2.2.1, Int.tmod_eq_emod_of_nonneg hl.2.2.1, w64 (by omega) (by omega)]
  exact ⟨hl.1, hl.2.1⟩
theorem decP7_form {x : Rc} (h : x.ok) : decP7 (formR x) = x := by
  have hd := decC_form h
  have e1 : (formR x).getD 1 0 = lensR x := rfl
  have hl := form_lens h
  have hp := lens_P h
  unfold decC at hd
  unfold decP7
  rw [e1, hl.1, hl.2.1] at hd
  rw [e1, hp.1, hp.2]; exact hd
theorem recP_eq (w : List Int) : readC decP7 w = recOf w := readC_eq (fun n h => decP7_form h) (fun n h => decC_form h) w
theorem no_key {w : List Int} (h : txtB w 3 (IntKind.i64.wrap ((w.getD 1 0).tdiv 32)) = false) : recOf w = none := by
  apply recOf_none
  rintro x hx rfl
  have e1 : (formR x).getD 1 0 = lensR x := rfl
  rw [e1, (lens_P hx).1, (form_key hx).1] at h
  cases h
theorem no_val {w : List Int} (h1 : w.getD 0 0 = 1) (h : txtB w 6 ((w.getD 1 0).tmod 32) = false) : recOf w = none := by
  apply recOf_none
  rintro x hx rfl
  have e1 : (formR x).getD 1 0 = lensR x := rfl
  rw [e1, (lens_P hx).2, (form_val hx h1).1] at h
  cases h
def rec_Read.C : Contract
  | [.sl _ (.ints .i64 l), .int .i64 k] => some (false, pD (roomy l.length) (rreadV l k))
  | _ => none
set_option maxRecDepth 20000 in
theorem rec_Read.spec : FSpec Try.prog 37 rec_Read.C := by
  refine FSpec.of (ctx_ok (F := [(73, rec_text.C), (74, rec_Check.C), (75, rec_of.C)]) (S := []) (by simpa using ⟨rec_text.spec, rec_Check.spec, rec_of.spec⟩) (by simp) rec_Read.loops) rec_Read.at rec_Read.nm rec_Read.bd ?_
  intro vs b S v news e hS
  unfold rec_Read.C at e
  split at e
  rotate_left
  · cases e
  cases e
  rw [rec_Read.eq]
  unfold rec_Read.H
  simp (maxSteps := 4000000) only [go_sem, Nat.reduceEqDiff, Nat.reduceLT, Nat.reduceAdd, Nat.reduceSub, Nat.reduceLeDiff, List.reduceReplicate, Int.reduceToNat, rec_text.C, rec_Check.C, rec_of.C]
  rename_i l k
  have hrl := hS
  unfold roomy at hS
  have e0 : IntKind.i64.wrap ((l.length : Int).tdiv 16) = ((l.length / 16 : Nat) : Int) := by
    rw [Int.tdiv_eq_ediv_of_nonneg (by omega)]; exact w64 (by omega) (by omega)
  rw [e0]
  unfold rreadV
  refine ⟨fun _ => by decide, fun h => ?_, fun h => ?_⟩
  · rw [if_pos h]
    refine post_val ?_ rfl
    simp only [zeroRc, go_sem, Nat.reduceEqDiff, Nat.reduceLT, Nat.reduceAdd, Nat.reduceSub, Nat.reduceLeDiff, List.reduceReplicate, Int.reduceToNat]
  · rw [h]
    simp only [Bool.or_eq_false_iff, decide_eq_false_iff_not] at h
    obtain ⟨k, rfl⟩ := Int.eq_ofNat_of_zero_le (show 0 ≤ k by omega)
    have hk : 16 * k + 16 ≤ l.length := by omega
    have e1 : IntKind.i64.wrap (16 * (k : Int)) = 16 * (k : Int) := w64 (by omega) (by omega)
    have e5 : (16 * (k : Int)).toNat = 16 * k := by omega
    have hdl : (l.drop (16 * k)).length = l.length - 16 * k := by simp
    have et : (l.drop (16 * k)).take (l.length - 16 * k) = l.drop (16 * k) := take_len _ (by omega)
    have hbl : (blockAt l k).length = 16 := by unfold blockAt; simp; omega
    rw [e1, e5, et, hdl, Nat.min_eq_left (by omega)]
    have ew : (l.drop (16 * k)).take 16 ++ List.take (16 - 16) (List.drop 16 [0, 0, 0, 0, 0, 0, 0, 0, 0, 0, 0, 0, 0, 0, 0, 0]) = blockAt l k := by
      show (l.drop (16 * k)).take 16 ++ [] = _
      rw [List.append_nil]; rfl
    rw [ew, Int.toNat_natCast]
    generalize blockAt l k = w at *
    have hV : (decP7 w).V = .agg [.int .i64 (w.getD 0 0), .str (txtS w 3 (IntKind.i64.wrap ((w.getD 1 0).tdiv 32))), .str (if w.getD 0 0 = 1 then txtS w 6 ((w.getD 1 0).tmod 32) else []), .int .i64 (if w.getD 0 0 = 2 then w.getD 6 0 else 0)] := rfl
    simp only [hbl, rec_text.C, joinW_eq, guard_tt, guard_tf, guard_ft, guard_ff, Int.reduceEq, Int.reduceLT, Int.reduceLE, decide_false, decide_true, Bool.not_false, Bool.not_true, Bool.not_not, not_true_eq_false, not_false_eq_true, true_implies, false_implies, implies_true, and_true, true_and, reduceCtorEq, Bool.and_self, Bool.or_self, Bool.and_true, Bool.true_and, Bool.false_eq_true, if_true, if_false, go_sem, Nat.reduceEqDiff, Nat.reduceLT, Nat.reduceAdd, Nat.reduceSub, Nat.reduceLeDiff, List.reduceReplicate, Int.reduceToNat]
    refine ⟨by omega, fun hT => ?_, fun hT => ⟨fun h1 => ?_, fun h1 => ⟨fun h2 => ?_, fun h2 => ?_⟩⟩⟩
    · rw [no_key hT]
      refine post_val ?_ rfl
      simp only [zeroRc, go_sem, Nat.reduceEqDiff, Nat.reduceLT, Nat.reduceAdd, Nat.reduceSub, Nat.reduceLeDiff, List.reduceReplicate, Int.reduceToNat]
    · have hd1 : (⟨w.getD 0 0, txtS w 3 (IntKind.i64.wrap ((w.getD 1 0).tdiv 32)), txtS w 6 ((w.getD 1 0).tmod 32), 0⟩ : Rc) = decP7 w := by
        unfold decP7; rw [if_pos h1, if_neg (by omega)]
      cases h6 : txtB w 6 ((w.getD 1 0).tmod 32) with
      | false =>
        simp only [Bool.not_false, guard_tf]
        rw [no_val h1 h6]
        refine post_val ?_ rfl
        simp only [zeroRc, go_sem, Nat.reduceEqDiff, Nat.reduceLT, Nat.reduceAdd, Nat.reduceSub, Nat.reduceLeDiff, List.reduceReplicate, Int.reduceToNat]
      | true =>
        rw [← recP_eq]
        unfold readC
        cases hb : recB (decP7 w) with
        | false =>
          simp only [rec_Check.C, hd1, hb, Bool.false_and, Bool.false_eq_true, if_false, joinW_eq, guard_tt, guard_tf, guard_ft, guard_ff, Int.reduceEq, Int.reduceLT, Int.reduceLE, decide_false, decide_true, Bool.not_false, Bool.not_true, Bool.not_not, not_true_eq_false, not_false_eq_true, true_implies, false_implies, implies_true, and_true, true_and, reduceCtorEq, Bool.and_self, Bool.or_self, Bool.and_true, Bool.true_and, Bool.false_eq_true, if_true, if_false, go_sem, Nat.reduceEqDiff, Nat.reduceLT, Nat.reduceAdd, Nat.reduceSub, Nat.reduceLeDiff, List.reduceReplicate, Int.reduceToNat]
          refine post_val ?_ rfl
          simp only [zeroRc, go_sem, Nat.reduceEqDiff, Nat.reduceLT, Nat.reduceAdd, Nat.reduceSub, Nat.reduceLeDiff, List.reduceReplicate, Int.reduceToNat]
        | true =>
          have hok := rec_iff.1 hb
          have hfl := form_len hok
          simp only [rec_Check.C, rec_of.C, hd1, hb, hfl, hbl, Bool.true_and, joinW_eq, guard_tt, guard_tf, guard_ft, guard_ff, Int.reduceEq, Int.reduceLT, Int.reduceLE, decide_false, decide_true, Bool.not_false, Bool.not_true, Bool.not_not, not_true_eq_false, not_false_eq_true, true_implies, false_implies, implies_true, and_true, true_and, reduceCtorEq, Bool.and_self, Bool.or_self, Bool.and_true, Bool.true_and, Bool.false_eq_true, if_true, if_false, go_sem, Nat.reduceEqDiff, Nat.reduceLT, Nat.reduceAdd, Nat.reduceSub, Nat.reduceLeDiff, List.reduceReplicate, Int.reduceToNat]
          refine ⟨hok, fun h => ?_, fun h => ?_⟩
          · rw [if_neg h]
            refine post_val ?_ rfl
            simp only [zeroRc, go_sem, Nat.reduceEqDiff, Nat.reduceLT, Nat.reduceAdd, Nat.reduceSub, Nat.reduceLeDiff, List.reduceReplicate, Int.reduceToNat]
          · rw [if_pos h, ← hd1]
            exact post_val rfl rfl
    · have hd1 : (⟨w.getD 0 0, txtS w 3 (IntKind.i64.wrap ((w.getD 1 0).tdiv 32)), [], w.getD 6 0⟩ : Rc) = decP7 w := by
        unfold decP7; rw [if_neg (by omega), if_pos h2]
      rw [← recP_eq]
      unfold readC
      cases hb : recB (decP7 w) with
      | false =>
        simp only [hT, rec_Check.C, hd1, hb, Bool.false_and, Bool.false_eq_true, if_false, joinW_eq, guard_tt, guard_tf, guard_ft, guard_ff, Int.reduceEq, Int.reduceLT, Int.reduceLE, decide_false, decide_true, Bool.not_false, Bool.not_true, Bool.not_not, not_true_eq_false, not_false_eq_true, true_implies, false_implies, implies_true, and_true, true_and, reduceCtorEq, Bool.and_self, Bool.or_self, Bool.and_true, Bool.true_and, Bool.false_eq_true, if_true, if_false, go_sem, Nat.reduceEqDiff, Nat.reduceLT, Nat.reduceAdd, Nat.reduceSub, Nat.reduceLeDiff, List.reduceReplicate, Int.reduceToNat]
        refine post_val ?_ rfl
        simp only [zeroRc, go_sem, Nat.reduceEqDiff, Nat.reduceLT, Nat.reduceAdd, Nat.reduceSub, Nat.reduceLeDiff, List.reduceReplicate, Int.reduceToNat]
      | true =>
        have hok := rec_iff.1 hb
        have hfl := form_len hok
        simp only [hT, rec_Check.C, rec_of.C, hd1, hb, hfl, hbl, Bool.true_and, joinW_eq, guard_tt, guard_tf, guard_ft, guard_ff, Int.reduceEq, Int.reduceLT, Int.reduceLE, decide_false, decide_true, Bool.not_false, Bool.not_true, Bool.not_not, not_true_eq_false, not_false_eq_true, true_implies, false_implies, implies_true, and_true, true_and, reduceCtorEq, Bool.and_self, Bool.or_self, Bool.and_true, Bool.true_and, Bool.false_eq_true, if_true, if_false, go_sem, Nat.reduceEqDiff, Nat.reduceLT, Nat.reduceAdd, Nat.reduceSub, Nat.reduceLeDiff, List.reduceReplicate, Int.reduceToNat]
        refine ⟨hok, fun h => ?_, fun h => ?_⟩
        · rw [if_neg h]
          refine post_val ?_ rfl
          simp only [zeroRc, go_sem, Nat.reduceEqDiff, Nat.reduceLT, Nat.reduceAdd, Nat.reduceSub, Nat.reduceLeDiff, List.reduceReplicate, Int.reduceToNat]
        · rw [if_pos h, ← hd1]
          exact post_val rfl rfl
    · have hd1 : (⟨w.getD 0 0, txtS w 3 (IntKind.i64.wrap ((w.getD 1 0).tdiv 32)), [], 0⟩ : Rc) = decP7 w := by
        unfold decP7; rw [if_neg (by omega), if_neg h2]
      rw [← recP_eq]
      unfold readC
      cases hb : recB (decP7 w) with
      | false =>
        simp only [hT, rec_Check.C, hd1, hb, Bool.false_and, Bool.false_eq_true, if_false, joinW_eq, guard_tt, guard_tf, guard_ft, guard_ff, Int.reduceEq, Int.reduceLT, Int.reduceLE, decide_false, decide_true, Bool.not_false, Bool.not_true, Bool.not_not, not_true_eq_false, not_false_eq_true, true_implies, false_implies, implies_true, and_true, true_and, reduceCtorEq, Bool.and_self, Bool.or_self, Bool.and_true, Bool.true_and, Bool.false_eq_true, if_true, if_false, go_sem, Nat.reduceEqDiff, Nat.reduceLT, Nat.reduceAdd, Nat.reduceSub, Nat.reduceLeDiff, List.reduceReplicate, Int.reduceToNat]
        refine post_val ?_ rfl
        simp only [zeroRc, go_sem, Nat.reduceEqDiff, Nat.reduceLT, Nat.reduceAdd, Nat.reduceSub, Nat.reduceLeDiff, List.reduceReplicate, Int.reduceToNat]
      | true =>
        have hok := rec_iff.1 hb
        have hfl := form_len hok
        simp only [hT, rec_Check.C, rec_of.C, hd1, hb, hfl, hbl, Bool.true_and, joinW_eq, guard_tt, guard_tf, guard_ft, guard_ff, Int.reduceEq, Int.reduceLT, Int.reduceLE, decide_false, decide_true, Bool.not_false, Bool.not_true, Bool.not_not, not_true_eq_false, not_false_eq_true, true_implies, false_implies, implies_true, and_true, true_and, reduceCtorEq, Bool.and_self, Bool.or_self, Bool.and_true, Bool.true_and, Bool.false_eq_true, if_true, if_false, go_sem, Nat.reduceEqDiff, Nat.reduceLT, Nat.reduceAdd, Nat.reduceSub, Nat.reduceLeDiff, List.reduceReplicate, Int.reduceToNat]
        refine ⟨hok, fun h => ?_, fun h => ?_⟩
        · rw [if_neg h]
          refine post_val ?_ rfl
          simp only [zeroRc, go_sem, Nat.reduceEqDiff, Nat.reduceLT, Nat.reduceAdd, Nat.reduceSub, Nat.reduceLeDiff, List.reduceReplicate, Int.reduceToNat]
        · rw [if_pos h, ← hd1]
          exact post_val rfl rfl
end Lam
namespace Lam
set_option maxRecDepth 20000
open Go Go.Proofs
set_option linter.unusedVariables false
set_option linter.unnecessarySimpa false
set_option linter.unusedSimpArgs false
theorem readV_so {w : List Int} {b : Int} {n : Nd} (h : nodeO w b = some n) : readV w b = .tup [n.V, .int .i64 0] := by
  unfold nodeO at h
  unfold readV
  split at h
  · cases h
  · rename_i hb; rw [if_neg hb, h]
theorem readV_no {w : List Int} {b : Int} (h : nodeO w b = none) : ∃ e, e ≠ 0 ∧ readV w b = .tup [zeroNd.V, .int .i64 e] := by
  unfold nodeO at h
  unfold readV
  split at h
  · rename_i hb; rw [if_pos hb]; exact ⟨1, by decide, rfl⟩
  · rename_i hb; rw [if_neg hb, h]; exact ⟨90, by decide, rfl⟩
theorem rreadV_so {w : List Int} {b : Int} {n : Rc} (h : recO w b = some n) : rreadV w b = .tup [n.V, .int .i64 0] := by
  unfold recO at h
  unfold rreadV
  split at h
  · cases h
  · rename_i hb; rw [if_neg hb, h]
theorem rreadV_no {w : List Int} {b : Int} (h : recO w b = none) : ∃ e, e ≠ 0 ∧ rreadV w b = .tup [zeroRc.V, .int .i64 e] := by
  unfold recO at h
  unfold rreadV
  split at h
  · rename_i hb; rw [if_pos hb]; exact ⟨1, by decide, rfl⟩
  · rename_i hb; rw [if_neg hb, h]; exact ⟨70, by decide, rfl⟩
structure Sk where
  block : Int
  turn : Int
  at_ : Int
  refs : List Int
  over : Bool
def Sk.V (s : Sk) : AV := .agg [.int .i64 s.block, .int .i64 s.turn, .int .i64 s.at_, .sl false (.ints .i64 s.refs), .bool s.over]
def downB (t : Int) : Bool := decide (andI .i64 t 1 = 1)
def seek_down.C : Contract
  | [.agg [.int .i64 _, .int .i64 t, .int .i64 _, .sl _ (.ints .i64 _), .bool _]] => some (false, pD True (.bool (downB t)))
  | _ => none
set_option maxRecDepth 20000 in
theorem seek_down.spec : FSpec Try.prog 61 seek_down.C := by
  refine FSpec.of (ctx_ok (F := []) (S := []) (by simp) (by simp) seek_down.loops) seek_down.at seek_down.nm seek_down.bd ?_
  intro vs b S v news e hS
  unfold seek_down.C at e
  split at e
  rotate_left
  · cases e
  cases e
  rw [seek_down.eq]
  unfold seek_down.H
  simp (maxSteps := 4000000) only [go_sem, Nat.reduceEqDiff, Nat.reduceLT, Nat.reduceAdd, Nat.reduceSub, Nat.reduceLeDiff, List.reduceReplicate, Int.reduceToNat]
  exact post_val rfl rfl
def skZ : Sk := ⟨0, 0, 0, [], false⟩
def beginO (w : List Int) (b : Int) : Option Sk := match nodeO w b with
  | some n => if 256 ≤ b then none else some ⟨b, n.turn, if downB n.turn = true then 12 else 0, [], false⟩
  | none => none
def beginV (w : List Int) (b : Int) : AV := match beginO w b with
  | some s => .tup [s.V, .int .i64 0]
  | none => .tup [skZ.V, .int .i64 90]
def seek_Begin.C : Contract
  | [.sl _ (.ints .i64 w), .int .i64 b] => some (false, pD (roomy w.length) (beginV w b))
  | _ => none
set_option maxRecDepth 20000 in
theorem seek_Begin.spec : FSpec Try.prog 25 seek_Begin.C := by
  refine FSpec.of (ctx_ok (F := [(23, node_Read.C), (61, seek_down.C)]) (S := []) (by simpa using ⟨node_Read.spec, seek_down.spec⟩) (by simp) seek_Begin.loops) seek_Begin.at seek_Begin.nm seek_Begin.bd ?_
  intro vs b S v news e hS
  unfold seek_Begin.C at e
  split at e
  rotate_left
  · cases e
  cases e
  rw [seek_Begin.eq]
  unfold seek_Begin.H
  simp (maxSteps := 4000000) only [go_sem, Nat.reduceEqDiff, Nat.reduceLT, Nat.reduceAdd, Nat.reduceSub, Nat.reduceLeDiff, List.reduceReplicate, Int.reduceToNat, node_Read.C, seek_down.C]
  rename_i w b
  unfold beginV beginO
  cases hn : nodeO w b with
  | none =>
    obtain ⟨e, he, hr⟩ := readV_no hn
    simp only [hr, zeroNd, he, decide_true, decide_false, joinW_eq, skZ, Sk.V, joinW_eq, guard_tt, guard_tf, guard_ft, guard_ff, Int.reduceEq, Int.reduceLT, Int.reduceLE, decide_false, decide_true, Bool.not_false, Bool.not_true, Bool.not_not, not_true_eq_false, not_false_eq_true, true_implies, false_implies, implies_true, and_true, true_and, reduceCtorEq, Bool.and_self, Bool.or_self, Bool.and_true, Bool.true_and, Bool.false_eq_true, if_true, if_false, go_sem, Nat.reduceEqDiff, Nat.reduceLT, Nat.reduceAdd, Nat.reduceSub, Nat.reduceLeDiff, List.reduceReplicate, Int.reduceToNat]
    exact ⟨hS, post_val rfl rfl⟩
  | some n =>
    obtain ⟨n1, n2, n3, n4, n5⟩ := n
    by_cases hb : 256 ≤ b
    · simp only [readV_so hn, hb, if_true, decide_true, joinW_eq, skZ, Sk.V, joinW_eq, guard_tt, guard_tf, guard_ft, guard_ff, Int.reduceEq, Int.reduceLT, Int.reduceLE, decide_false, decide_true, Bool.not_false, Bool.not_true, Bool.not_not, not_true_eq_false, not_false_eq_true, true_implies, false_implies, implies_true, and_true, true_and, reduceCtorEq, Bool.and_self, Bool.or_self, Bool.and_true, Bool.true_and, Bool.false_eq_true, if_true, if_false, go_sem, Nat.reduceEqDiff, Nat.reduceLT, Nat.reduceAdd, Nat.reduceSub, Nat.reduceLeDiff, List.reduceReplicate, Int.reduceToNat]
      exact ⟨hS, post_val rfl rfl⟩
    · simp only [readV_so hn, hb, if_false, decide_false, seek_down.C, joinW_eq, Sk.V, joinW_eq, guard_tt, guard_tf, guard_ft, guard_ff, Int.reduceEq, Int.reduceLT, Int.reduceLE, decide_false, decide_true, Bool.not_false, Bool.not_true, Bool.not_not, not_true_eq_false, not_false_eq_true, true_implies, false_implies, implies_true, and_true, true_and, reduceCtorEq, Bool.and_self, Bool.or_self, Bool.and_true, Bool.true_and, Bool.false_eq_true, if_true, if_false, go_sem, Nat.reduceEqDiff, Nat.reduceLT, Nat.reduceAdd, Nat.reduceSub, Nat.reduceLeDiff, List.reduceReplicate, Int.reduceToNat]
      cases hd : downB n2 with
      | true => simp only [if_true, joinW_eq, guard_tt, guard_tf, guard_ft, guard_ff, Int.reduceEq, Int.reduceLT, Int.reduceLE, decide_false, decide_true, Bool.not_false, Bool.not_true, Bool.not_not, not_true_eq_false, not_false_eq_true, true_implies, false_implies, implies_true, and_true, true_and, reduceCtorEq, Bool.and_self, Bool.or_self, Bool.and_true, Bool.true_and, Bool.false_eq_true, if_true, if_false, go_sem, Nat.reduceEqDiff, Nat.reduceLT, Nat.reduceAdd, Nat.reduceSub, Nat.reduceLeDiff, List.reduceReplicate, Int.reduceToNat]; exact ⟨hS, post_val rfl rfl⟩
      | false => simp only [if_false, joinW_eq, guard_tt, guard_tf, guard_ft, guard_ff, Int.reduceEq, Int.reduceLT, Int.reduceLE, decide_false, decide_true, Bool.not_false, Bool.not_true, Bool.not_not, not_true_eq_false, not_false_eq_true, true_implies, false_implies, implies_true, and_true, true_and, reduceCtorEq, Bool.and_self, Bool.or_self, Bool.and_true, Bool.true_and, Bool.false_eq_true, if_true, if_false, go_sem, Nat.reduceEqDiff, Nat.reduceLT, Nat.reduceAdd, Nat.reduceSub, Nat.reduceLeDiff, List.reduceReplicate, Int.reduceToNat]; exact ⟨hS, post_val rfl rfl⟩
def holdsB (w : List Int) (b t : Int) : Bool := match nodeO w b with
  | some n => decide (n.turn = t)
  | none => false
def seek_Holds.C : Contract
  | [.sl _ (.ints .i64 w), .agg [.int .i64 b, .int .i64 t, .int .i64 _, .sl _ (.ints .i64 _), .bool _]] => some (false, pD (roomy w.length) (.bool (holdsB w b t)))
  | _ => none
set_option maxRecDepth 20000 in
theorem seek_Holds.spec : FSpec Try.prog 30 seek_Holds.C := by
  refine FSpec.of (ctx_ok (F := [(23, node_Read.C)]) (S := []) (by simpa using node_Read.spec) (by simp) seek_Holds.loops) seek_Holds.at seek_Holds.nm seek_Holds.bd ?_
  intro vs b S v news e hS
  unfold seek_Holds.C at e
  split at e
  rotate_left
  · cases e
  cases e
  rw [seek_Holds.eq]
  unfold seek_Holds.H
  simp (maxSteps := 4000000) only [go_sem, Nat.reduceEqDiff, Nat.reduceLT, Nat.reduceAdd, Nat.reduceSub, Nat.reduceLeDiff, List.reduceReplicate, Int.reduceToNat, node_Read.C]
  rename_i _ w b t _ _ _ _
  unfold holdsB
  cases hn : nodeO w b with
  | none =>
    obtain ⟨e, he, hr⟩ := readV_no hn
    simp only [hr, zeroNd, he, decide_true, decide_false, joinW_eq, joinW_eq, guard_tt, guard_tf, guard_ft, guard_ff, Int.reduceEq, Int.reduceLT, Int.reduceLE, decide_false, decide_true, Bool.not_false, Bool.not_true, Bool.not_not, not_true_eq_false, not_false_eq_true, true_implies, false_implies, implies_true, and_true, true_and, reduceCtorEq, Bool.and_self, Bool.or_self, Bool.and_true, Bool.true_and, Bool.false_eq_true, if_true, if_false, go_sem, Nat.reduceEqDiff, Nat.reduceLT, Nat.reduceAdd, Nat.reduceSub, Nat.reduceLeDiff, List.reduceReplicate, Int.reduceToNat]
    exact ⟨hS, post_val rfl rfl⟩
  | some n =>
    obtain ⟨n1, n2, n3, n4, n5⟩ := n
    simp only [readV_so hn, decide_true, joinW_eq, joinW_eq, guard_tt, guard_tf, guard_ft, guard_ff, Int.reduceEq, Int.reduceLT, Int.reduceLE, decide_false, decide_true, Bool.not_false, Bool.not_true, Bool.not_not, not_true_eq_false, not_false_eq_true, true_implies, false_implies, implies_true, and_true, true_and, reduceCtorEq, Bool.and_self, Bool.or_self, Bool.and_true, Bool.true_and, Bool.false_eq_true, if_true, if_false, go_sem, Nat.reduceEqDiff, Nat.reduceLT, Nat.reduceAdd, Nat.reduceSub, Nat.reduceLeDiff, List.reduceReplicate, Int.reduceToNat]
    exact ⟨hS, post_val rfl rfl⟩
def seek_look_up.K : Con := fun args h K => match args with
  | [a0] => seek_look_up.H (ctx [] [] seek_look_up.loops) a0 h K
  | _ => False
theorem seek_look_up.spec : SSpec Try.prog 65 seek_look_up.K := by
  refine SSpec.of (ctx_ok (F := []) (S := []) (by simp) (by simp) seek_look_up.loops) seek_look_up.at seek_look_up.nm seek_look_up.bd ?_
  intro args h K hC
  unfold seek_look_up.K at hC
  split at hC
  · rw [seek_look_up.eq]; exact hC
  · exact hC.elim
def seek_look_fall.K : Con := fun args h K => match args with
  | [a0] => seek_look_fall.H (ctx [] [] seek_look_fall.loops) a0 h K
  | _ => False
theorem seek_look_fall.spec : SSpec Try.prog 66 seek_look_fall.K := by
  refine SSpec.of (ctx_ok (F := []) (S := []) (by simp) (by simp) seek_look_fall.loops) seek_look_fall.at seek_look_fall.nm seek_look_fall.bd ?_
  intro args h K hC
  unfold seek_look_fall.K at hC
  split at hC
  · rw [seek_look_fall.eq]; exact hC
  · exact hC.elim
def overB (w : Int) (s : Sk) : Bool := if downB s.turn = true then decide (s.at_ = 0) else decide (w < 1) || decide (s.at_ = 12)
def goOn (w : Int) (s : Sk) : Sk :=
  { s with
    refs := if (decide (0 < w) && (decide (s.refs.length = 0) || !decide (s.refs.getD (s.refs.length - 1) 0 = w))) = true then s.refs ++ [w] else s.refs
    over := overB w s
    at_ := if overB w s = true then s.at_ else if downB s.turn = true then IntKind.i64.wrap (s.at_ - 1) else IntKind.i64.wrap (s.at_ + 1) }
/-- where the next one is -/
def spotI (w : List Int) (s : Sk) : Int := if (decide (0 ≤ s.block) && decide (s.block < 256) && decide (s.block < ((w.length / 16 : Nat) : Int))) = true then placeI (16 * s.block) s.at_ else -1
def stepS (w : List Int) (s : Sk) : Sk := if (s.over || decide (spotI w s < 0)) = true then s else goOn (w.getD (spotI w s).toNat 0) s
def seek_Step.C : Contract
  | [.sl _ (.ints .i64 w), .agg [.int .i64 b, .int .i64 t, .int .i64 a, .sl _ (.ints .i64 l), .bool o]] => some (false, pD (w.length ≤ 65536 ∧ l.length ≤ 65536) (stepS w ⟨b, t, a, l, o⟩).V)
  | _ => none
set_option maxRecDepth 20000 in
theorem seek_Step.spec : FSpec Try.prog 28 seek_Step.C := by
  refine FSpec.of (ctx_ok (F := [(63, fast_Place.C), (64, slices_Clone_sl_int_int.C), (61, seek_down.C)]) (S := [(65, seek_look_up.K), (66, seek_look_fall.K)]) (by simpa using ⟨fast_Place.spec, slices_Clone_sl_int_int.spec, seek_down.spec⟩) (by simpa using ⟨seek_look_up.spec, seek_look_fall.spec⟩) seek_Step.loops) seek_Step.at seek_Step.nm seek_Step.bd ?_
  intro vs b S v news e hS
  unfold seek_Step.C at e
  split at e
  rotate_left
  · cases e
  cases e
  rw [seek_Step.eq]
  unfold seek_Step.H
  simp (maxSteps := 4000000) only [go_sem, Nat.reduceEqDiff, Nat.reduceLT, Nat.reduceAdd, Nat.reduceSub, Nat.reduceLeDiff, List.reduceReplicate, Int.reduceToNat, fast_Place.C, slices_Clone_sl_int_int.C, seek_down.C]
  rename_i _ w b t a x l o
  obtain ⟨hw, hl⟩ := hS
  have e0 : IntKind.i64.wrap ((w.length : Int).tdiv 16) = ((w.length / 16 : Nat) : Int) := by
    rw [Int.tdiv_eq_ediv_of_nonneg (by omega)]; exact w64 (by omega) (by omega)
  have hst : ∀ s : Sk, (s.over || decide (spotI w s < 0)) = true → stepS w s = s := fun s h => by unfold stepS; rw [if_pos h]
  have hgo : ∀ s : Sk, (s.over || decide (spotI w s < 0)) = false → stepS w s = goOn (w.getD (spotI w s).toNat 0) s := fun s h => by unfold stepS; rw [if_neg (by rw [h]; decide)]
  refine ⟨fun _ => by decide, ?_⟩
  cases hin : (decide (0 ≤ b) && decide (b < 256) && decide (b < ((w.length / 16 : Nat) : Int))) with
  | false =>
    have hs : spotI w ⟨b, t, a, l, o⟩ = -1 := by unfold spotI; rw [if_neg (by rw [hin]; decide)]
    rw [hst _ (by rw [hs]; cases o <;> rfl)]
    simp only [e0, hin, joinW_eq, Sk.V, joinW_eq, guard_tt, guard_tf, guard_ft, guard_ff, Int.reduceEq, Int.reduceLT, Int.reduceLE, decide_false, decide_true, Bool.not_false, Bool.not_true, Bool.not_not, not_true_eq_false, not_false_eq_true, true_implies, false_implies, implies_true, and_true, true_and, reduceCtorEq, Bool.and_self, Bool.or_self, Bool.and_true, Bool.true_and, Bool.false_eq_true, if_true, if_false, go_sem, Nat.reduceEqDiff, Nat.reduceLT, Nat.reduceAdd, Nat.reduceSub, Nat.reduceLeDiff, List.reduceReplicate, Int.reduceToNat]
    cases o with
    | true => simp only [joinW_eq, guard_tt, guard_tf, guard_ft, guard_ff, Int.reduceEq, Int.reduceLT, Int.reduceLE, decide_false, decide_true, Bool.not_false, Bool.not_true, Bool.not_not, not_true_eq_false, not_false_eq_true, true_implies, false_implies, implies_true, and_true, true_and, reduceCtorEq, Bool.and_self, Bool.or_self, Bool.and_true, Bool.true_and, Bool.false_eq_true, if_true, if_false, go_sem, Nat.reduceEqDiff, Nat.reduceLT, Nat.reduceAdd, Nat.reduceSub, Nat.reduceLeDiff, List.reduceReplicate, Int.reduceToNat]; exact post_val rfl rfl
    | false => simp only [joinW_eq, guard_tt, guard_tf, guard_ft, guard_ff, Int.reduceEq, Int.reduceLT, Int.reduceLE, decide_false, decide_true, Bool.not_false, Bool.not_true, Bool.not_not, not_true_eq_false, not_false_eq_true, true_implies, false_implies, implies_true, and_true, true_and, reduceCtorEq, Bool.and_self, Bool.or_self, Bool.and_true, Bool.true_and, Bool.false_eq_true, if_true, if_false, go_sem, Nat.reduceEqDiff, Nat.reduceLT, Nat.reduceAdd, Nat.reduceSub, Nat.reduceLeDiff, List.reduceReplicate, Int.reduceToNat]; exact post_val rfl rfl
  | true =>
    have hin' := hin
    simp only [Bool.and_eq_true, decide_eq_true_eq] at hin'
    obtain ⟨⟨h0, h1⟩, h2⟩ := hin'
    have e1 : IntKind.i64.wrap (16 * b) = 16 * b := w64 (by omega) (by omega)
    have hs : spotI w ⟨b, t, a, l, o⟩ = placeI (16 * b) a := by unfold spotI; rw [if_pos hin]
    by_cases hp : placeI (16 * b) a < 0
    · rw [hst _ (by rw [hs, decide_eq_true hp, Bool.or_true])]
      simp only [e0, e1, hin, hp, decide_true, joinW_eq, Sk.V, joinW_eq, guard_tt, guard_tf, guard_ft, guard_ff, Int.reduceEq, Int.reduceLT, Int.reduceLE, decide_false, decide_true, Bool.not_false, Bool.not_true, Bool.not_not, not_true_eq_false, not_false_eq_true, true_implies, false_implies, implies_true, and_true, true_and, reduceCtorEq, Bool.and_self, Bool.or_self, Bool.and_true, Bool.true_and, Bool.false_eq_true, if_true, if_false, go_sem, Nat.reduceEqDiff, Nat.reduceLT, Nat.reduceAdd, Nat.reduceSub, Nat.reduceLeDiff, List.reduceReplicate, Int.reduceToNat]
      cases o with
      | true => simp only [joinW_eq, guard_tt, guard_tf, guard_ft, guard_ff, Int.reduceEq, Int.reduceLT, Int.reduceLE, decide_false, decide_true, Bool.not_false, Bool.not_true, Bool.not_not, not_true_eq_false, not_false_eq_true, true_implies, false_implies, implies_true, and_true, true_and, reduceCtorEq, Bool.and_self, Bool.or_self, Bool.and_true, Bool.true_and, Bool.false_eq_true, if_true, if_false, go_sem, Nat.reduceEqDiff, Nat.reduceLT, Nat.reduceAdd, Nat.reduceSub, Nat.reduceLeDiff, List.reduceReplicate, Int.reduceToNat]; exact post_val rfl rfl
      | false => simp only [joinW_eq, guard_tt, guard_tf, guard_ft, guard_ff, Int.reduceEq, Int.reduceLT, Int.reduceLE, decide_false, decide_true, Bool.not_false, Bool.not_true, Bool.not_not, not_true_eq_false, not_false_eq_true, true_implies, false_implies, implies_true, and_true, true_and, reduceCtorEq, Bool.and_self, Bool.or_self, Bool.and_true, Bool.true_and, Bool.false_eq_true, if_true, if_false, go_sem, Nat.reduceEqDiff, Nat.reduceLT, Nat.reduceAdd, Nat.reduceSub, Nat.reduceLeDiff, List.reduceReplicate, Int.reduceToNat]; exact post_val rfl rfl
    · cases o with
      | true =>
        rw [hst _ rfl]
        simp only [e0, e1, hin, hp, decide_true, decide_false, joinW_eq, Sk.V, joinW_eq, guard_tt, guard_tf, guard_ft, guard_ff, Int.reduceEq, Int.reduceLT, Int.reduceLE, decide_false, decide_true, Bool.not_false, Bool.not_true, Bool.not_not, not_true_eq_false, not_false_eq_true, true_implies, false_implies, implies_true, and_true, true_and, reduceCtorEq, Bool.and_self, Bool.or_self, Bool.and_true, Bool.true_and, Bool.false_eq_true, if_true, if_false, go_sem, Nat.reduceEqDiff, Nat.reduceLT, Nat.reduceAdd, Nat.reduceSub, Nat.reduceLeDiff, List.reduceReplicate, Int.reduceToNat]
        exact post_val rfl rfl
      | false =>
        rw [hgo _ (by rw [hs, decide_eq_false hp]; rfl), hs]
        have hnb : nodeB (16 * b) = true := (node_iff (by omega)).2 ⟨by omega, by omega, by omega⟩
        have ha : 0 ≤ a ∧ a < 13 ∧ placeI (16 * b) a = 16 * b + 3 + a := by
          by_cases h : 0 ≤ a ∧ a < 13
          · exact ⟨h.1, h.2, place_at hnb (by omega) h.1 h.2⟩
          · exfalso
            apply hp
            unfold placeI
            rw [if_neg (by simp only [Bool.and_eq_true, decide_eq_true_eq]; rintro ⟨⟨_, h1⟩, h2⟩; exact h ⟨h1, h2⟩)]
            decide
        obtain ⟨a0, a1, hpl⟩ := ha
        obtain ⟨P, hP⟩ : ∃ P : Nat, 16 * b + 3 + a = P := ⟨(16 * b + 3 + a).toNat, by omega⟩
        have hPl : P < w.length := by omega
        rw [hpl, hP, Int.toNat_natCast]
        rw [hP] at hpl
        have hpn : ¬ ((P : Nat) : Int) < 0 := by omega
        have hrl : roomy l.length := by unfold roomy; omega
        have e3 : l.length ≠ 0 → IntKind.i64.wrap ((l.length : Int) - 1) = ((l.length - 1 : Nat) : Int) := fun h => by rw [w64 (by omega) (by omega)]; omega
        simp only [e0, e1, hin, hpl, hpn, decide_true, decide_false, joinW_eq, Int.toNat_natCast, slices_Clone_sl_int_int.C, joinW_eq, guard_tt, guard_tf, guard_ft, guard_ff, Int.reduceEq, Int.reduceLT, Int.reduceLE, decide_false, decide_true, Bool.not_false, Bool.not_true, Bool.not_not, not_true_eq_false, not_false_eq_true, true_implies, false_implies, implies_true, and_true, true_and, reduceCtorEq, Bool.and_self, Bool.or_self, Bool.and_true, Bool.true_and, Bool.false_eq_true, if_true, if_false, go_sem, Nat.reduceEqDiff, Nat.reduceLT, Nat.reduceAdd, Nat.reduceSub, Nat.reduceLeDiff, List.reduceReplicate, Int.reduceToNat]
        refine ⟨⟨by omega, by omega⟩, hrl, ?_⟩
        generalize w.getD P 0 = W
        have hra : roomy (l ++ [W]).length := by unfold roomy; simp; omega
        have hgo2 : ∀ (R : List Int), (goOn W ⟨b, t, a, l, false⟩).refs = R → ∀ (o : Bool) (a' : Int), overB W ⟨b, t, a, l, false⟩ = o → (a' = if o = true then a else if downB t = true then IntKind.i64.wrap (a - 1) else IntKind.i64.wrap (a + 1)) → goOn W ⟨b, t, a, l, false⟩ = ⟨b, t, a', R, o⟩ := by
          rintro _ rfl _ _ rfl rfl; rfl
        by_cases hW : 0 < W
        · have hW1 : decide (W < 1) = false := decide_eq_false (by omega)
          have happ : ∀ K : Nat → Prop, True := fun _ => trivial
          by_cases hl0 : l.length = 0
          · have hd0 : decide ((l.length : Int) = 0) = true := decide_eq_true (by omega)
            have hgr : (goOn W ⟨b, t, a, l, false⟩).refs = l ++ [W] := by unfold goOn; simp [hW, hl0]
            simp only [hW, hW1, hd0, decide_true, seek_down.C, seek_look_up.K, seek_look_up.H, seek_look_fall.K, seek_look_fall.H, joinW_eq, joinW_eq, guard_tt, guard_tf, guard_ft, guard_ff, Int.reduceEq, Int.reduceLT, Int.reduceLE, decide_false, decide_true, Bool.not_false, Bool.not_true, Bool.not_not, not_true_eq_false, not_false_eq_true, true_implies, false_implies, implies_true, and_true, true_and, reduceCtorEq, Bool.and_self, Bool.or_self, Bool.and_true, Bool.true_and, Bool.false_eq_true, if_true, if_false, go_sem, Nat.reduceEqDiff, Nat.reduceLT, Nat.reduceAdd, Nat.reduceSub, Nat.reduceLeDiff, List.reduceReplicate, Int.reduceToNat]
            refine ⟨hra, fun hd => ⟨fun h => ?_, fun h => ?_⟩, fun hd => ⟨fun h => ?_, fun h => ?_⟩⟩
            · rw [hgo2 _ hgr false _ (by simp [overB, hd, h]) (by simp [hd]; rfl), decide_eq_false h]
              refine post_val ?_ rfl
              simp only [Sk.V, List.take_length, go_sem, Nat.reduceEqDiff, Nat.reduceLT, Nat.reduceAdd, Nat.reduceSub, Nat.reduceLeDiff, List.reduceReplicate, Int.reduceToNat]
            · rw [hgo2 _ hgr true _ (by simp [overB, hd, h]) (by simp; rfl), decide_eq_true h]
              refine post_val ?_ rfl
              simp only [Sk.V, List.take_length, go_sem, Nat.reduceEqDiff, Nat.reduceLT, Nat.reduceAdd, Nat.reduceSub, Nat.reduceLeDiff, List.reduceReplicate, Int.reduceToNat]
            · rw [hgo2 _ hgr false _ (by simp [overB, hd, h]; omega) (by simp [hd]; rfl), decide_eq_false h]
              refine post_val ?_ rfl
              simp only [Sk.V, List.take_length, go_sem, Nat.reduceEqDiff, Nat.reduceLT, Nat.reduceAdd, Nat.reduceSub, Nat.reduceLeDiff, List.reduceReplicate, Int.reduceToNat]
            · rw [hgo2 _ hgr true _ (by simp [overB, hd, h]) (by simp; rfl), decide_eq_true h]
              refine post_val ?_ rfl
              simp only [Sk.V, List.take_length, go_sem, Nat.reduceEqDiff, Nat.reduceLT, Nat.reduceAdd, Nat.reduceSub, Nat.reduceLeDiff, List.reduceReplicate, Int.reduceToNat]
          · have hd0 : decide ((l.length : Int) = 0) = false := decide_eq_false (by omega)
            by_cases hla : l.getD (l.length - 1) 0 = W
            · have hgr : (goOn W ⟨b, t, a, l, false⟩).refs = l := by
                unfold goOn
                simp only [hla, decide_true, Bool.not_true, Bool.or_false, decide_eq_false hl0, Bool.and_false]
                rw [if_neg (by decide)]
              simp only [hW, hW1, hd0, e3 hl0, hla, Int.toNat_natCast, decide_true, seek_down.C, seek_look_up.K, seek_look_up.H, seek_look_fall.K, seek_look_fall.H, joinW_eq, joinW_eq, guard_tt, guard_tf, guard_ft, guard_ff, Int.reduceEq, Int.reduceLT, Int.reduceLE, decide_false, decide_true, Bool.not_false, Bool.not_true, Bool.not_not, not_true_eq_false, not_false_eq_true, true_implies, false_implies, implies_true, and_true, true_and, reduceCtorEq, Bool.and_self, Bool.or_self, Bool.and_true, Bool.true_and, Bool.false_eq_true, if_true, if_false, go_sem, Nat.reduceEqDiff, Nat.reduceLT, Nat.reduceAdd, Nat.reduceSub, Nat.reduceLeDiff, List.reduceReplicate, Int.reduceToNat]
              refine ⟨⟨by omega, by omega⟩, fun hd => ⟨fun h => ?_, fun h => ?_⟩, fun hd => ⟨fun h => ?_, fun h => ?_⟩⟩
              · rw [hgo2 _ hgr false _ (by simp [overB, hd, h]) (by simp [hd]; rfl), decide_eq_false h]
                refine post_val ?_ rfl
                simp only [Sk.V, List.take_length, go_sem, Nat.reduceEqDiff, Nat.reduceLT, Nat.reduceAdd, Nat.reduceSub, Nat.reduceLeDiff, List.reduceReplicate, Int.reduceToNat]
              · rw [hgo2 _ hgr true _ (by simp [overB, hd, h]) (by simp; rfl), decide_eq_true h]
                refine post_val ?_ rfl
                simp only [Sk.V, List.take_length, go_sem, Nat.reduceEqDiff, Nat.reduceLT, Nat.reduceAdd, Nat.reduceSub, Nat.reduceLeDiff, List.reduceReplicate, Int.reduceToNat]
              · rw [hgo2 _ hgr false _ (by simp [overB, hd, h]; omega) (by simp [hd]; rfl), decide_eq_false h]
                refine post_val ?_ rfl
                simp only [Sk.V, List.take_length, go_sem, Nat.reduceEqDiff, Nat.reduceLT, Nat.reduceAdd, Nat.reduceSub, Nat.reduceLeDiff, List.reduceReplicate, Int.reduceToNat]
              · rw [hgo2 _ hgr true _ (by simp [overB, hd, h]) (by simp; rfl), decide_eq_true h]
                refine post_val ?_ rfl
                simp only [Sk.V, List.take_length, go_sem, Nat.reduceEqDiff, Nat.reduceLT, Nat.reduceAdd, Nat.reduceSub, Nat.reduceLeDiff, List.reduceReplicate, Int.reduceToNat]
            · have hgr : (goOn W ⟨b, t, a, l, false⟩).refs = l ++ [W] := by
                unfold goOn
                simp only [decide_eq_false hla, Bool.not_false, Bool.or_true, Bool.and_true, decide_eq_true hW, if_true]
              simp only [hW, hW1, hd0, e3 hl0, hla, Int.toNat_natCast, decide_true, decide_false, seek_down.C, seek_look_up.K, seek_look_up.H, seek_look_fall.K, seek_look_fall.H, joinW_eq, joinW_eq, guard_tt, guard_tf, guard_ft, guard_ff, Int.reduceEq, Int.reduceLT, Int.reduceLE, decide_false, decide_true, Bool.not_false, Bool.not_true, Bool.not_not, not_true_eq_false, not_false_eq_true, true_implies, false_implies, implies_true, and_true, true_and, reduceCtorEq, Bool.and_self, Bool.or_self, Bool.and_true, Bool.true_and, Bool.false_eq_true, if_true, if_false, go_sem, Nat.reduceEqDiff, Nat.reduceLT, Nat.reduceAdd, Nat.reduceSub, Nat.reduceLeDiff, List.reduceReplicate, Int.reduceToNat]
              refine ⟨⟨by omega, by omega⟩, hra, fun hd => ⟨fun h => ?_, fun h => ?_⟩, fun hd => ⟨fun h => ?_, fun h => ?_⟩⟩
              · rw [hgo2 _ hgr false _ (by simp [overB, hd, h]) (by simp [hd]; rfl), decide_eq_false h]
                refine post_val ?_ rfl
                simp only [Sk.V, List.take_length, go_sem, Nat.reduceEqDiff, Nat.reduceLT, Nat.reduceAdd, Nat.reduceSub, Nat.reduceLeDiff, List.reduceReplicate, Int.reduceToNat]
              · rw [hgo2 _ hgr true _ (by simp [overB, hd, h]) (by simp; rfl), decide_eq_true h]
                refine post_val ?_ rfl
                simp only [Sk.V, List.take_length, go_sem, Nat.reduceEqDiff, Nat.reduceLT, Nat.reduceAdd, Nat.reduceSub, Nat.reduceLeDiff, List.reduceReplicate, Int.reduceToNat]
              · rw [hgo2 _ hgr false _ (by simp [overB, hd, h]; omega) (by simp [hd]; rfl), decide_eq_false h]
                refine post_val ?_ rfl
                simp only [Sk.V, List.take_length, go_sem, Nat.reduceEqDiff, Nat.reduceLT, Nat.reduceAdd, Nat.reduceSub, Nat.reduceLeDiff, List.reduceReplicate, Int.reduceToNat]
              · rw [hgo2 _ hgr true _ (by simp [overB, hd, h]) (by simp; rfl), decide_eq_true h]
                refine post_val ?_ rfl
                simp only [Sk.V, List.take_length, go_sem, Nat.reduceEqDiff, Nat.reduceLT, Nat.reduceAdd, Nat.reduceSub, Nat.reduceLeDiff, List.reduceReplicate, Int.reduceToNat]
        · have hW1 : decide (W < 1) = true := decide_eq_true (by omega)
          have hgr : (goOn W ⟨b, t, a, l, false⟩).refs = l := by
            unfold goOn
            simp only [decide_eq_false hW, Bool.false_and]
            rw [if_neg (by decide)]
          simp only [hW, hW1, decide_true, decide_false, seek_down.C, seek_look_up.K, seek_look_up.H, seek_look_fall.K, seek_look_fall.H, joinW_eq, joinW_eq, guard_tt, guard_tf, guard_ft, guard_ff, Int.reduceEq, Int.reduceLT, Int.reduceLE, decide_false, decide_true, Bool.not_false, Bool.not_true, Bool.not_not, not_true_eq_false, not_false_eq_true, true_implies, false_implies, implies_true, and_true, true_and, reduceCtorEq, Bool.and_self, Bool.or_self, Bool.and_true, Bool.true_and, Bool.false_eq_true, if_true, if_false, go_sem, Nat.reduceEqDiff, Nat.reduceLT, Nat.reduceAdd, Nat.reduceSub, Nat.reduceLeDiff, List.reduceReplicate, Int.reduceToNat]
          refine ⟨fun hd => ⟨fun h => ?_, fun h => ?_⟩, fun hd => ?_⟩
          · rw [hgo2 _ hgr false _ (by simp [overB, hd, h]) (by simp [hd]; rfl), decide_eq_false h]
            refine post_val ?_ rfl
            simp only [Sk.V, List.take_length, go_sem, Nat.reduceEqDiff, Nat.reduceLT, Nat.reduceAdd, Nat.reduceSub, Nat.reduceLeDiff, List.reduceReplicate, Int.reduceToNat]
          · rw [hgo2 _ hgr true _ (by simp [overB, hd, h]) (by simp; rfl), decide_eq_true h]
            refine post_val ?_ rfl
            simp only [Sk.V, List.take_length, go_sem, Nat.reduceEqDiff, Nat.reduceLT, Nat.reduceAdd, Nat.reduceSub, Nat.reduceLeDiff, List.reduceReplicate, Int.reduceToNat]
          · rw [hgo2 _ hgr true _ (by simp [overB, hd]; omega) (by simp; rfl)]
            refine post_val ?_ rfl
            simp only [Sk.V, List.take_length, go_sem, Nat.reduceEqDiff, Nat.reduceLT, Nat.reduceAdd, Nat.reduceSub, Nat.reduceLeDiff, List.reduceReplicate, Int.reduceToNat]
end Lam
namespace Lam
open Go
set_option linter.unusedVariables false
set_option linter.unusedSimpArgs false
/-- what is seen, and one more -/
def seeR (refs : List Int) (W : Int) : List Int := if 0 < W ∧ refs.getLast? ≠ some W then refs ++ [W] else refs
theorem last_getD (l : List Int) (W : Int) : (decide (l.length = 0) || !decide (l.getD (l.length - 1) 0 = W)) = decide (l.getLast? ≠ some W) := by
  cases l with
  | nil => simp
  | cons a r =>
    rw [List.getLast?_eq_getElem?, List.getD_eq_getElem?_getD]
    have h : (a :: r).length - 1 < (a :: r).length := by simp
    rw [List.getElem?_eq_getElem h]
    simp
theorem goOn_refs (W : Int) (s : Sk) : (goOn W s).refs = seeR s.refs W := by
  unfold goOn seeR
  simp only [last_getD]
  by_cases h : 0 < W ∧ s.refs.getLast? ≠ some W
  · rw [if_pos h, if_pos (by simp only [Bool.and_eq_true, decide_eq_true_eq]; exact h)]
  · rw [if_neg h, if_neg (by simp only [Bool.and_eq_true, decide_eq_true_eq]; exact h)]
/-- there is a block to look at -/
def InW (w : List Int) (b : Int) : Prop := 0 ≤ b ∧ b < 256 ∧ b < ((w.length / 16 : Nat) : Int)
def slotW (w : List Int) (b : Int) (k : Nat) : Int := w.getD ((16 * b).toNat + 3 + k) 0
theorem stepS_go {w : List Int} {b t : Int} {k : Nat} {refs : List Int} (h : InW w b) (hk : k < 13) : stepS w ⟨b, t, k, refs, false⟩ = goOn (slotW w b k) ⟨b, t, k, refs, false⟩ := by
  obtain ⟨h0, h1, h2⟩ := h
  have hs : spotI w ⟨b, t, k, refs, false⟩ = 16 * b + 3 + k := by
    unfold spotI
    rw [if_pos (by simp only [Bool.and_eq_true, decide_eq_true_eq]; exact ⟨⟨h0, h1⟩, h2⟩)]
    show placeI (16 * b) k = _
    exact place_at ((node_iff (by omega)).2 ⟨by omega, by omega, by omega⟩) (by omega) (by show (0 : Int) ≤ k; omega) (by show (k : Int) < 13; omega)
  unfold stepS slotW
  rw [hs, decide_eq_false (by omega), if_neg (show ¬ (false || false) = true by decide)]
  rw [show (16 * b + 3 + (k : Int)).toNat = (16 * b).toNat + 3 + k by omega]
theorem stepS_over {w : List Int} {s : Sk} (h : s.over = true) : stepS w s = s := by unfold stepS; rw [h]; rfl
theorem stepS_up {w : List Int} {b t : Int} {k : Nat} {refs : List Int} (h : InW w b) (hk : k < 13) (hd : downB t = false) :
    stepS w ⟨b, t, k, refs, false⟩ = if slotW w b k < 1 ∨ k = 12 then ⟨b, t, k, seeR refs (slotW w b k), true⟩ else ⟨b, t, (k + 1 : Nat), seeR refs (slotW w b k), false⟩ := by
  rw [stepS_go h hk]
  have hr := goOn_refs (slotW w b k) ⟨b, t, k, refs, false⟩
  have ho : overB (slotW w b k) ⟨b, t, k, refs, false⟩ = decide (slotW w b k < 1 ∨ k = 12) := by
    unfold overB
    simp only [hd]
    rw [if_neg (by decide)]
    rw [show decide ((k : Int) = 12) = decide (k = 12) from decide_eq_decide.2 (by omega)]
    by_cases h1 : slotW w b k < 1 <;> by_cases h2 : k = 12 <;> simp [h1, h2]
  unfold goOn at hr ⊢
  simp only at hr
  rw [ho]
  simp only [hr]
  by_cases hc : slotW w b k < 1 ∨ k = 12
  · rw [if_pos hc, decide_eq_true hc]; simp
  · rw [if_neg hc, decide_eq_false hc]
    simp only [hd]
    rw [if_neg (by decide), if_neg (by decide), wnext (by omega)]
theorem stepS_down {w : List Int} {b t : Int} {k : Nat} {refs : List Int} (h : InW w b) (hk : k < 13) (hd : downB t = true) :
    stepS w ⟨b, t, k, refs, false⟩ = if k = 0 then ⟨b, t, k, seeR refs (slotW w b k), true⟩ else ⟨b, t, (k - 1 : Nat), seeR refs (slotW w b k), false⟩ := by
  rw [stepS_go h hk]
  have hr := goOn_refs (slotW w b k) ⟨b, t, k, refs, false⟩
  have ho : overB (slotW w b k) ⟨b, t, k, refs, false⟩ = decide (k = 0) := by
    unfold overB
    simp only [hd, if_true]
    exact decide_eq_decide.2 (by omega)
  unfold goOn at hr ⊢
  simp only at hr
  rw [ho]
  simp only [hr]
  by_cases hc : k = 0
  · rw [if_pos hc, decide_eq_true hc]; simp
  · rw [if_neg hc, decide_eq_false hc]
    simp only [hd, if_true]
    rw [if_neg (by decide)]
    rw [show IntKind.i64.wrap ((k : Int) - 1) = ((k - 1 : Nat) : Int) by rw [w64 (by omega) (by omega)]; omega]
theorem seeR_none {l : List Int} {W : Int} (h : ¬ 0 < W) : seeR l W = l := by unfold seeR; rw [if_neg (fun h' => h h'.1)]
end Lam
namespace Lam
open Go Go.Proofs
set_option linter.unusedVariables false
def lamplighterlaw13_mixed.loops : Nat → LInfo
  | 4 => ⟨[1, 10, 11], [false, false, false], [2, 3, 6, 8], [], [], []⟩
  | 6 => ⟨[], [], [], [(5, none), (3, some [33, 36])], [], []⟩
  | 8 => ⟨[], [], [], [(2, none), (2, some [47, 49])], [], []⟩
  | 13 => ⟨[14], [false], [3, 6, 8, 10], [], [], []⟩
  | _ => ⟨[], [], [], [], [], []⟩
def lamplighterlaw13_mixed.L1 (c : Ctx) (J1 : AV → AV → AV → AV → List AObj → Prop) (K : AOut → List AObj → Prop) (lv : List AV) (h0 : List AObj) (n0 : Nat) (c2 : AV) (c3 : AV) (c6 : AV) (c8 : AV) : Prop :=
  ∃ I : Nat → List AV → List AObj → Prop, (∃ n, I n lv h0) ∧ ∀ n h, ∀ t1, ∀ t10, ∀ t11, I n [t1, t10, t11] h →
    runD (lenD T_sl_bool h c2) h fun t25 h =>
    runD (binD T_int .lss t11 t25) h fun t26 h =>
    condW t26
    (runD (indexAddrD T_sl_bool h c2 t11) h fun t31 h =>
    runD (fitD T_bool (loadD h t31)) h fun t32 h =>
    joinW (fun (J2 : AV → AV → List AObj → Prop) =>
    guardW t32 true
    (runD (lenD T_sl_api_Micro h t1) h fun t35 h =>
      runD (binD T_int .gtr t35 (.int .i64 0)) h fun t36 h =>
      J2 (.bool true) t36 h)
    (J2 (.bool false) .und h))
    (fun t33 t36 h => runD (pickD t33 t36 (.bool false)) h fun t37 h =>
    joinW (fun (J3 : AV → AV → List AObj → Prop) =>
    condW t37
    (runD (fitD T_api_Mem (loadD h c3)) h fun t39 h =>
      runD (indexAddrD T_sl_api_Micro h t1 (.int .i64 0)) h fun t41 h =>
      runD (fitD T_api_Micro (loadD h t41)) h fun t42 h =>
      callW false c.noS (.fn (.func 79) [] []) [t39, t42] h (fun t43 h =>
      runD (extractD t43 0) h fun t44 h =>
      runD (extractD t43 1) h fun t45 h =>
      allocW T_api_Mem h fun t12 h =>
      runH (storeH T_api_Mem h t12 t44) h fun _ h =>
      joinW (fun (J4 : AV → AV → List AObj → Prop) =>
      guardW t10 true
      (runD (binD T_api_Errno .eql t45 (.int .i64 0)) h fun t49 h =>
        J4 (.bool true) t49 h)
      (J4 (.bool false) .und h))
      (fun t47 t49 h => runD (pickD t47 t49 (.bool false)) h fun t50 h =>
      runD (fitD T_api_Mem (loadD h t12)) h fun t51 h =>
      runH (storeH T_api_Mem h c3 t51) h fun _ h =>
      runD (sliceD T_sl_api_Micro h t1 (some (.int .i64 1)) none none) h fun t53 h =>
      J3 t53 t50 h))
      (fun _ _ => False))
    (runD (fieldAddrD T_api_Mem c3 0) h fun t54 h =>
      runD (fitD T_sl_int (loadD h t54)) h fun t55 h =>
      runD (fitD T_api_Seek (loadD h c8)) h fun t56 h =>
      callW false c (.fn (.func 28) [] []) [t55, t56] h (fun t57 h =>
      runH (storeH T_api_Seek h c8 t57) h fun _ h =>
      J3 t1 t10 h)
      (fun v h => K (.pan v) h)))
    (fun t1 t10 h => runD (binD T_int .add t11 (.int .i64 1)) h fun t28 h =>
    (∃ m, m < n ∧ I m (AV.norms n0 h [t1, t10, t28]) (normH n0 h)) ∧ AV.norms n0 h [c2, c3, c6, c8] = [c2, c3, c6, c8])))
    (J1 c3 c6 c8 t10 h)
def lamplighterlaw13_mixed.L2 (c : Ctx) (J5 : AV → AV → AV → List AObj → Prop) (K : AOut → List AObj → Prop) (lv : List AV) (h0 : List AObj) (n0 : Nat) (c3 : AV) (c6 : AV) (c8 : AV) (c10 : AV) : Prop :=
  ∃ I : Nat → List AV → List AObj → Prop, (∃ n, I n lv h0) ∧ ∀ n h, ∀ t14, I n [t14] h →
    runD (binD T_int .lss t14 (.int .i64 13)) h fun t59 h =>
    condW t59
    (runD (fieldAddrD T_api_Mem c3 0) h fun t62 h =>
    runD (fitD T_sl_int (loadD h t62)) h fun t63 h =>
    runD (fitD T_api_Seek (loadD h c8)) h fun t64 h =>
    callW false c (.fn (.func 28) [] []) [t63, t64] h (fun t65 h =>
    runH (storeH T_api_Seek h c8 t65) h fun _ h =>
    runD (binD T_int .add t14 (.int .i64 1)) h fun t61 h =>
    (∃ m, m < n ∧ I m (AV.norms n0 h [t61]) (normH n0 h)) ∧ AV.norms n0 h [c3, c6, c8, c10] = [c3, c6, c8, c10])
    (fun v h => K (.pan v) h))
    (J5 c6 c8 c10 h)
def lamplighterlaw13_mixed.H (c : Ctx) (t0 : AV) (t1 : AV) (t2 : AV) (h : List AObj) (K : AOut → List AObj → Prop) : Prop :=
  boxW T_api_Mem t0 h fun t3 h =>
  allocW T_api_Seek h fun t6 h =>
  runD (fieldAddrD T_api_Mem t3 0) h fun t16 h =>
  runD (fitD T_sl_int (loadD h t16)) h fun t17 h =>
  callW false c (.fn (.func 25) [] []) [t17, (.int .i64 1)] h (fun t18 h =>
  runD (extractD t18 0) h fun t19 h =>
  runD (extractD t18 1) h fun t20 h =>
  allocW T_api_Seek h fun t8 h =>
  runH (storeH T_api_Seek h t8 t19) h fun _ h =>
  runD (binD T_api_Errno .eql t20 (.int .i64 0)) h fun t22 h =>
  joinW (fun (J1 : AV → AV → AV → AV → List AObj → Prop) =>
  promV [false, false, false] [t1, t22, (.int .i64 0)] h fun lv h => lamplighterlaw13_mixed.L1 c J1 K (AV.norms h.length h lv) (normH h.length h) h.length (AV.norm h.length h t2) (AV.norm h.length h t3) (AV.norm h.length h t6) (AV.norm h.length h t8))
  (fun t3 t6 t8 t10 h => joinW (fun (J5 : AV → AV → AV → List AObj → Prop) =>
  promV [false] [(.int .i64 0)] h fun lv h => lamplighterlaw13_mixed.L2 c J5 K (AV.norms h.length h lv) (normH h.length h) h.length (AV.norm h.length h t3) (AV.norm h.length h t6) (AV.norm h.length h t8) (AV.norm h.length h t10))
  (fun t6 t8 t10 h => runD (fitD T_api_Seek (loadD h t8)) h fun t66 h =>
  joinW (fun (J6 : AV → AV → AV → List AObj → Prop) =>
  guardW t10 true
  (runD (fieldAddrD T_api_Seek t8 4) h fun t69 h =>
    runD (fitD T_bool (loadD h t69)) h fun t70 h =>
    J6 (.bool true) t69 t70 h)
  (J6 (.bool false) .und .und h))
  (fun t68 t69 t70 h => runD (pickD t68 t70 (.bool false)) h fun t71 h =>
  runH (storeH T_api_Seek h t6 t66) h fun _ h =>
  sepB t6 [t69] = true ∧ loadRes (fitD T_api_Seek (loadD h t6)) fun r0 => K (.ret (.tup [r0, t71])) h))))
  (fun v h => K (.pan v) h)
theorem lamplighterlaw13_mixed.eq (F : List (FuncId × Contract)) (S : List (FuncId × Con)) (t0 t1 t2 : AV) (h : List AObj) (K : AOut → List AObj → Prop) : funW (ctx F S lamplighterlaw13_mixed.loops) Try.f41 [t0, t1, t2] h K = lamplighterlaw13_mixed.H (ctx F S lamplighterlaw13_mixed.loops) t0 t1 t2 h K := by kernel_rfl
theorem lamplighterlaw13_mixed.at : Try.prog.funcs[41]? = some Try.f41 := by kernel_rfl
theorem lamplighterlaw13_mixed.nm : (Try.f41.name == "runtime.NumGoroutine") = false := by kernel_rfl
theorem lamplighterlaw13_mixed.bd : Try.f41.body.isNone = false := by kernel_rfl
end Lam
namespace Lam
set_option maxRecDepth 20000
open Go Go.Proofs
set_option linter.unusedVariables false
set_option linter.unnecessarySimpa false
set_option linter.unusedSimpArgs false
def mixR : Mm → List Mic → List Bool → Sk → Mm × List Mic × Sk
  | m, l, [], s => (m, l, s)
  | m, x :: l, true :: ps, s => mixR (stepM m x) l ps s
  | m, [], true :: ps, s => mixR m [] ps (stepS m.vol s)
  | m, l, false :: ps, s => mixR m l ps (stepS m.vol s)
def stepsW (w : List Int) (s : Sk) : Nat → Sk
  | 0 => s
  | k + 1 => stepS w (stepsW w s k)
def mixEnd (m : Mm) (l : List Mic) (ps : List Bool) (s : Sk) : Sk := stepsW (mixR m l ps s).1.vol (mixR m l ps s).2.2 13
def mixV (m : Mm) (l : List Mic) (ps : List Bool) (s : Sk) : AV := .tup [(mixEnd m l ps s).V, .bool (mixEnd m l ps s).over]
theorem stepS_len1 (w : List Int) (s : Sk) : (stepS w s).refs.length ≤ s.refs.length + 1 := by
  unfold stepS
  split
  · omega
  · unfold goOn
    simp only
    split
    · simp
    · omega
theorem stepsW_len (w : List Int) (s : Sk) : ∀ k, (stepsW w s k).refs.length ≤ s.refs.length + k
  | 0 => Nat.le_refl _
  | k + 1 => by
    have := stepsW_len w s k
    have := stepS_len1 w (stepsW w s k)
    unfold stepsW
    omega
theorem begin_refs {w : List Int} {b : Int} {s : Sk} (h : beginO w b = some s) : s.refs = [] := by
  unfold beginO at h
  split at h
  · split at h
    · cases h
    · cases h; rfl
  · cases h
def lamplighterlaw13_mixed.C : Contract
  | [.agg [.sl false (.ints .i64 vol), .sl false (.ints .i64 per), .sl false (.pends pend)], .sl _ (.mics l), .sl _ (.bools ps)] => some (false, pD (OkM vol per pend ∧ pend = [] ∧ vol.length ≤ 4096 ∧ l.length ≤ 1000 ∧ ps.length ≤ 1000 ∧ (∀ x ∈ l, MayN x vol.length) ∧ ∃ s, beginO vol 1 = some s ∧ smallM vol per pend) (mixV ⟨vol, per, pend⟩ l ps ((beginO vol 1).getD skZ)))
  | _ => none
set_option maxRecDepth 20000 in
theorem lamplighterlaw13_mixed.spec : FSpec Try.prog 41 lamplighterlaw13_mixed.C := by
  refine FSpec.of (ctx_ok (F := [(25, seek_Begin.C), (28, seek_Step.C), (79, micro_Do.C)]) (S := []) (by simpa using ⟨seek_Begin.spec, seek_Step.spec, micro_Do.spec⟩) (by simp) lamplighterlaw13_mixed.loops) lamplighterlaw13_mixed.at lamplighterlaw13_mixed.nm lamplighterlaw13_mixed.bd ?_
  intro vs b S v news e hS
  unfold lamplighterlaw13_mixed.C at e
  split at e
  rotate_left
  · cases e
  cases e
  rw [lamplighterlaw13_mixed.eq]
  unfold lamplighterlaw13_mixed.H
  simp (maxSteps := 4000000) only [go_sem, Nat.reduceEqDiff, Nat.reduceLT, Nat.reduceAdd, Nat.reduceSub, Nat.reduceLeDiff, List.reduceReplicate, Int.reduceToNat, seek_Begin.C, seek_Step.C, micro_Do.C]
  rename_i vol per pend _ l _ ps
  obtain ⟨hok, rfl, hv4, hl, hps, hmay, s0, hb, hsm⟩ := hS
  have hbv : beginV vol 1 = .tup [s0.V, .int .i64 0] := by unfold beginV; rw [hb]
  simp only [hbv, hb, Option.getD_some, Sk.V, joinW_eq, joinW_eq, guard_tt, guard_tf, guard_ft, guard_ff, Int.reduceEq, Int.reduceLT, Int.reduceLE, decide_false, decide_true, Bool.not_false, Bool.not_true, Bool.not_not, not_true_eq_false, not_false_eq_true, true_implies, false_implies, implies_true, and_true, true_and, reduceCtorEq, Bool.and_self, Bool.or_self, Bool.and_true, Bool.true_and, Bool.false_eq_true, if_true, if_false, go_sem, Nat.reduceEqDiff, Nat.reduceLT, Nat.reduceAdd, Nat.reduceSub, Nat.reduceLeDiff, List.reduceReplicate, Int.reduceToNat]
  have hr0 := begin_refs hb
  have hper := hsm.2.1
  refine ⟨hsm.1, ?_⟩
  unfold lamplighterlaw13_mixed.L1
  refine loop3 (σ := Mm × List Mic × Nat × Sk) (fun s => .sl false (.mics s.2.1)) (fun s => .bool true) (fun s => .int .i64 s.2.2.1) (fun s => [.box s.1.V, .box (.agg [.int .i64 0, .int .i64 0, .int .i64 0, .sl false (.ints .i64 []), .bool false]), .box s.2.2.2.V]) (fun s => ps.length - s.2.2.1)
    (fun s => s.2.2.1 ≤ ps.length ∧ mixR s.1 s.2.1 (ps.drop s.2.2.1) s.2.2.2 = mixR ⟨vol, per, []⟩ l ps s0 ∧ s.1.ok ∧ s.1.vol.length = vol.length ∧ s.1.per.length = per.length ∧ s.1.pend.length ≤ s.2.2.1 ∧ s.2.1.length ≤ 1000 ∧ (∀ x ∈ s.2.1, MayN x vol.length) ∧ s.2.2.2.refs.length ≤ s.2.2.1)
    (⟨vol, per, []⟩, l, 0, s0) rfl rfl ⟨Nat.zero_le _, by simp, hok, rfl, rfl, Nat.le_refl _, hl, hmay, by simp [hr0]⟩ ?_
  rintro I back ⟨m, l1, k, s⟩ ⟨hk, hm, hok1, hv1, hp1, hpe, hl1, hmay1, hrf⟩
  simp only at hk hm hok1 hv1 hp1 hpe hl1 hmay1 hrf ⊢
  by_cases hkl : k < ps.length
  · have hdr := drop_cons ps k false hkl
    have hstep : ∀ s' : Sk, s' = stepS m.vol s → mixR m l1 (ps.drop (k + 1)) s' = mixR ⟨vol, per, []⟩ l ps s0 → ∃ m_1, m_1 < ps.length - k ∧ I m_1 [.sl false (.mics l1), .bool true, .int .i64 ((k + 1 : Nat) : Int)] [.box m.V, .box (.agg [.int .i64 0, .int .i64 0, .int .i64 0, .sl false (.ints .i64 []), .bool false]), .box s'.V] := fun s' e h =>
      back (m, l1, k + 1, s') (by simp only; omega) rfl rfl ⟨by simp only; omega, h, hok1, hv1, hp1, by simp only; omega, hl1, hmay1, by have := stepS_len1 m.vol s; rw [e]; simp only; omega⟩
    obtain ⟨mv, mp, mpe⟩ := m
    simp only at hv1 hp1 hpe
    obtain ⟨b, t, a, r, o⟩ := s
    simp only at hrf
    have hgo : (ps.getD k false = true ∧ ∃ x l2, l1 = x :: l2) ∨ mixR ⟨mv, mp, mpe⟩ l1 (ps.drop (k + 1)) (stepS mv ⟨b, t, a, r, o⟩) = mixR ⟨vol, per, []⟩ l ps s0 ∧ (ps.getD k false && decide (0 < (l1.length : Int))) = false := by
      rw [hdr] at hm
      cases hpk : ps.getD k false with
      | false => rw [hpk] at hm; right; exact ⟨by rw [← hm]; cases l1 <;> rfl, rfl⟩
      | true =>
        cases l1 with
        | nil => rw [hpk] at hm; right; exact ⟨by rw [← hm]; rfl, rfl⟩
        | cons x l2 => left; exact ⟨rfl, x, l2, rfl⟩
    rcases hgo with ⟨hpk, x, l2, rfl⟩ | ⟨h, hc⟩
    · rw [hdr, hpk] at hm
      have hmx := hmay1 x (by simp)
      have hso : soundB ⟨mv, mp, mpe⟩ [x] = true := sound_iff.2 ⟨hok1, by simpa [hv1] using hmx⟩
      have hrun : runV ⟨mv, mp, mpe⟩ [x] = .tup [(stepM ⟨mv, mp, mpe⟩ x).V, .int .i64 0] := runV_ok hso
      have hb2 := back (stepM ⟨mv, mp, mpe⟩ x, l2, k + 1, ⟨b, t, a, r, o⟩) (n := ps.length - k) (by simp only; omega) rfl rfl ⟨by simp only; omega, hm, stepM_ok hok1 (by rw [hv1]; exact hmx), by simp only [stepM_len]; exact hv1, by simp only [stepM_per]; exact hp1, by have := runS_pend_le [x] ⟨mv, mp, mpe⟩; simp only [runS_cons, runS_nil, List.length_cons, List.length_nil] at this; simp only; omega, by simp only [List.length_cons] at hl1 ⊢; omega, fun y hy => hmay1 y (by simp [hy]), by simp only; omega⟩
      clear back hstep
      generalize stepM ⟨mv, mp, mpe⟩ x = m2 at *
      obtain ⟨mv2, mp2, mpe2⟩ := m2
      obtain ⟨x1, x2, x3⟩ := x
      simp only [Sk.V, Mm.V, memV, hpk, hrun, micro_Do.C, joinW_eq, wnext (show k < 4611686018427387904 by omega), joinW_eq, guard_tt, guard_tf, guard_ft, guard_ff, Int.reduceEq, Int.reduceLT, Int.reduceLE, decide_false, decide_true, Bool.not_false, Bool.not_true, Bool.not_not, not_true_eq_false, not_false_eq_true, true_implies, false_implies, implies_true, and_true, true_and, reduceCtorEq, Bool.and_self, Bool.or_self, Bool.and_true, Bool.true_and, Bool.false_eq_true, if_true, if_false, go_sem, Nat.reduceEqDiff, Nat.reduceLT, Nat.reduceAdd, Nat.reduceSub, Nat.reduceLeDiff, List.reduceReplicate, Int.reduceToNat] at hb2 ⊢
      have htk : List.take (l2.length + 1 - 1) (List.drop 1 ((⟨x1, x2, x3⟩ : Mic) :: l2)) = l2 := by simp
      have hsm1 : smallM mv mp mpe := ⟨by unfold roomy; omega, by rw [hp1]; exact hper, by unfold roomy; omega⟩
      rw [htk]
      exact ⟨fun _ => ⟨⟨by omega, by omega⟩, fun _ => ⟨by omega, ⟨hsm1, by omega⟩, by omega, hb2⟩, fun h => absurd h (by omega)⟩, fun h => absurd h (by omega)⟩
    · have hb2 := hstep _ rfl h
      clear back hstep
      generalize hs' : stepS mv ⟨b, t, a, r, o⟩ = s' at *
      obtain ⟨b', t', a', r', o'⟩ := s'
      simp only [Sk.V, Mm.V, memV, hc, hs', seek_Step.C, joinW_eq, wnext (show k < 4611686018427387904 by omega), joinW_eq, guard_tt, guard_tf, guard_ft, guard_ff, Int.reduceEq, Int.reduceLT, Int.reduceLE, decide_false, decide_true, Bool.not_false, Bool.not_true, Bool.not_not, not_true_eq_false, not_false_eq_true, true_implies, false_implies, implies_true, and_true, true_and, reduceCtorEq, Bool.and_self, Bool.or_self, Bool.and_true, Bool.true_and, Bool.false_eq_true, if_true, if_false, go_sem, Nat.reduceEqDiff, Nat.reduceLT, Nat.reduceAdd, Nat.reduceSub, Nat.reduceLeDiff, List.reduceReplicate, Int.reduceToNat] at hb2 ⊢
      have hw4 : mv.length ≤ 65536 := by omega
      have hr4 : r.length ≤ 65536 := by omega
      cases hpk : ps.getD k false with
      | false =>
        simp only [hpk, joinW_eq, guard_tt, guard_tf, guard_ft, guard_ff, Int.reduceEq, Int.reduceLT, Int.reduceLE, decide_false, decide_true, Bool.not_false, Bool.not_true, Bool.not_not, not_true_eq_false, not_false_eq_true, true_implies, false_implies, implies_true, and_true, true_and, reduceCtorEq, Bool.and_self, Bool.or_self, Bool.and_true, Bool.true_and, Bool.false_eq_true, if_true, if_false, go_sem, Nat.reduceEqDiff, Nat.reduceLT, Nat.reduceAdd, Nat.reduceSub, Nat.reduceLeDiff, List.reduceReplicate, Int.reduceToNat]
        exact ⟨fun _ => ⟨⟨by omega, by omega⟩, ⟨hw4, hr4⟩, hb2⟩, fun h => absurd h (by omega)⟩
      | true =>
        rw [hpk, Bool.true_and, decide_eq_false_iff_not] at hc
        simp only [hpk, hc, joinW_eq, guard_tt, guard_tf, guard_ft, guard_ff, Int.reduceEq, Int.reduceLT, Int.reduceLE, decide_false, decide_true, Bool.not_false, Bool.not_true, Bool.not_not, not_true_eq_false, not_false_eq_true, true_implies, false_implies, implies_true, and_true, true_and, reduceCtorEq, Bool.and_self, Bool.or_self, Bool.and_true, Bool.true_and, Bool.false_eq_true, if_true, if_false, go_sem, Nat.reduceEqDiff, Nat.reduceLT, Nat.reduceAdd, Nat.reduceSub, Nat.reduceLeDiff, List.reduceReplicate, Int.reduceToNat]
        exact ⟨fun _ => ⟨⟨by omega, by omega⟩, ⟨hw4, hr4⟩, hb2⟩, fun h => absurd h (by omega)⟩
  · obtain rfl : k = ps.length := by omega
    rw [List.drop_length] at hm
    have hend : mixEnd ⟨vol, per, []⟩ l ps s0 = stepsW m.vol s 13 := by
      unfold mixEnd
      rw [← hm]
      cases l1 <;> rfl
    have hmv : mixV ⟨vol, per, []⟩ l ps s0 = .tup [(stepsW m.vol s 13).V, .bool (stepsW m.vol s 13).over] := by unfold mixV; rw [hend]
    clear back
    obtain ⟨mv, mp, mpe⟩ := m
    simp only at hv1 hmv
    obtain ⟨b, t, a, r, o⟩ := s
    simp only at hrf
    simp only [Sk.V, Mm.V, memV, joinW_eq, guard_tt, guard_tf, guard_ft, guard_ff, Int.reduceEq, Int.reduceLT, Int.reduceLE, decide_false, decide_true, Bool.not_false, Bool.not_true, Bool.not_not, not_true_eq_false, not_false_eq_true, true_implies, false_implies, implies_true, and_true, true_and, reduceCtorEq, Bool.and_self, Bool.or_self, Bool.and_true, Bool.true_and, Bool.false_eq_true, if_true, if_false, go_sem, Nat.reduceEqDiff, Nat.reduceLT, Nat.reduceAdd, Nat.reduceSub, Nat.reduceLeDiff, List.reduceReplicate, Int.reduceToNat]
    refine ⟨fun h => absurd h (by omega), fun _ => ?_⟩
    unfold lamplighterlaw13_mixed.L2
    refine loop1 (σ := Nat) (fun k => .int .i64 k) (fun k => [.box (.agg [.sl false (.ints .i64 mv), .sl false (.ints .i64 mp), .sl false (.pends mpe)]), .box (.agg [.int .i64 0, .int .i64 0, .int .i64 0, .sl false (.ints .i64 []), .bool false]), .box (stepsW mv ⟨b, t, a, r, o⟩ k).V]) (fun k => 13 - k) (fun k => k ≤ 13) 0 rfl rfl (by decide) ?_
    intro I2 back2 k hk2
    by_cases hk3 : k < 13
    · have hb2 := @back2 (13 - k) [.int .i64 ((k + 1 : Nat) : Int)] [.box (.agg [.sl false (.ints .i64 mv), .sl false (.ints .i64 mp), .sl false (.pends mpe)]), .box (.agg [.int .i64 0, .int .i64 0, .int .i64 0, .sl false (.ints .i64 []), .bool false]), .box (stepS mv (stepsW mv ⟨b, t, a, r, o⟩ k)).V] (k + 1) (by omega) rfl rfl (by omega)
      have hsl := stepsW_len mv ⟨b, t, a, r, o⟩ k
      simp only at hsl
      clear back2 hmv hend
      generalize stepsW mv ⟨b, t, a, r, o⟩ k = s' at *
      obtain ⟨b', t', a', r', o'⟩ := s'
      simp only at hsl
      have d1 : decide ((k : Int) < 13) = true := decide_eq_true (by omega)
      generalize hs' : stepS mv ⟨b', t', a', r', o'⟩ = s2 at *
      obtain ⟨b2, t2, a2, r2, o2⟩ := s2
      simp only [Sk.V, d1, seek_Step.C, hs', wnext (show k < 4611686018427387904 by omega), joinW_eq, guard_tt, guard_tf, guard_ft, guard_ff, Int.reduceEq, Int.reduceLT, Int.reduceLE, decide_false, decide_true, Bool.not_false, Bool.not_true, Bool.not_not, not_true_eq_false, not_false_eq_true, true_implies, false_implies, implies_true, and_true, true_and, reduceCtorEq, Bool.and_self, Bool.or_self, Bool.and_true, Bool.true_and, Bool.false_eq_true, if_true, if_false, go_sem, Nat.reduceEqDiff, Nat.reduceLT, Nat.reduceAdd, Nat.reduceSub, Nat.reduceLeDiff, List.reduceReplicate, Int.reduceToNat] at hb2 ⊢
      exact ⟨⟨by omega, by omega⟩, hb2⟩
    · obtain rfl : k = 13 := by omega
      clear back2
      rw [hmv]
      generalize stepsW mv ⟨b, t, a, r, o⟩ 13 = s'
      obtain ⟨b', t', a', r', o'⟩ := s'
      simp only [Sk.V, joinW_eq, guard_tt, guard_tf, guard_ft, guard_ff, Int.reduceEq, Int.reduceLT, Int.reduceLE, decide_false, decide_true, Bool.not_false, Bool.not_true, Bool.not_not, not_true_eq_false, not_false_eq_true, true_implies, false_implies, implies_true, and_true, true_and, reduceCtorEq, Bool.and_self, Bool.or_self, Bool.and_true, Bool.true_and, Bool.false_eq_true, if_true, if_false, go_sem, Nat.reduceEqDiff, Nat.reduceLT, Nat.reduceAdd, Nat.reduceSub, Nat.reduceLeDiff, List.reduceReplicate, Int.reduceToNat]
      exact ⟨rfl, post_val rfl rfl⟩
end Lam
namespace Lam
open Go
set_option linter.unusedVariables false
set_option linter.unusedSimpArgs false
/-- what stands at the slots of block 1 -/
def AtZ (w : List Int) (Z : List Int) : Prop := InW w 1 ∧ ∀ k, k < 13 → slotW w 1 k = Z.getD k 0
/-- slots, by stores -/
def Chain (S : List SlotT) (Zs : Nat → List Int) : Prop := inSlots S ∧ ∀ j, j < S.length → ∀ k, k < 13 → (Zs (j + 1)).getD k 0 = if (k : Int) = (S.getD j ⟨0, 0⟩).at_ then (S.getD j ⟨0, 0⟩).val else (Zs j).getD k 0
theorem at_store {m : Mm} {x : Mic} {Z Z' : List Int} {s : SlotT} (h : AtZ m.vol Z) (h32 : m.vol.length = 32) (hs : 0 ≤ s.at_ ∧ s.at_ < 13) (hx : x.at_ = 16 + 3 + s.at_) (hv : x.val = s.val) (hk : x.kind = 1) (hZ : ∀ k, k < 13 → Z'.getD k 0 = if (k : Int) = s.at_ then s.val else Z.getD k 0) : AtZ (stepM m x).vol Z' := by
  obtain ⟨h1, h2⟩ := h
  refine ⟨by unfold InW at *; rw [stepM_len]; exact h1, fun k hk13 => ?_⟩
  rw [hZ k hk13]
  have e : (stepM m x).vol = m.vol.set x.at_.toNat x.val := by unfold stepM; rw [if_pos hk]; rfl
  unfold slotW at *
  rw [e, getD_set]
  have h2 := h2 k hk13
  by_cases hc : (k : Int) = s.at_
  · rw [if_pos hc, if_pos ⟨by omega, by omega⟩, hv]
  · rw [if_neg hc, if_neg (by omega)]; exact h2
theorem at_persist {m : Mm} {x : Mic} {Z : List Int} (h : AtZ m.vol Z) (hk : x.kind ≠ 1) : AtZ (stepM m x).vol Z := by
  have e : (stepM m x).vol = m.vol := by unfold stepM; rw [if_neg hk]; rfl
  rw [e]; exact h
/-- what holds of a look, whatever was done -/
theorem mix_inv {S : List SlotT} {Zs : Nat → List Int} (hc : Chain S Zs) {Inv : Nat → Sk → Prop} (hstep : ∀ w j s, j ≤ S.length → AtZ w (Zs j) → Inv j s → Inv j (stepS w s)) (hstore : ∀ j s, j < S.length → Inv j s → Inv (j + 1) s) :
    ∀ (ps : List Bool) (m : Mm) (l : List Mic) (s : Sk) (j : Nat), j ≤ S.length → m.vol.length = 32 → AtZ m.vol (Zs j) → storesOf l = (S.drop j).map (pendOf 16) → Inv j s →
      ∃ j', j' ≤ S.length ∧ (mixR m l ps s).1.vol.length = 32 ∧ AtZ (mixR m l ps s).1.vol (Zs j') ∧ Inv j' (mixR m l ps s).2.2
  | [], m, l, s, j, hj, h32, ha, hl, hi => by
    have e : mixR m l [] s = (m, l, s) := by cases l <;> rfl
    rw [e]; exact ⟨j, hj, h32, ha, hi⟩
  | false :: ps, m, l, s, j, hj, h32, ha, hl, hi => by
    have e : mixR m l (false :: ps) s = mixR m l ps (stepS m.vol s) := by cases l <;> rfl
    rw [e]
    exact mix_inv hc hstep hstore ps m l _ j hj h32 ha hl (hstep _ _ _ hj ha hi)
  | true :: ps, m, [], s, j, hj, h32, ha, hl, hi => by
    have e : mixR m [] (true :: ps) s = mixR m [] ps (stepS m.vol s) := rfl
    rw [e]
    exact mix_inv hc hstep hstore ps m [] _ j hj h32 ha hl (hstep _ _ _ hj ha hi)
  | true :: ps, m, x :: l, s, j, hj, h32, ha, hl, hi => by
    have e : mixR m (x :: l) (true :: ps) s = mixR (stepM m x) l ps s := rfl
    rw [e]
    by_cases hk : x.kind = 1
    · have hs : storesOf (x :: l) = ⟨x.at_, x.val, false⟩ :: storesOf l := by unfold storesOf; rw [List.filter_cons]; simp [isS, hk]
      rw [hs] at hl
      have hjl : j < S.length := by
        rcases Nat.lt_or_ge j S.length with h | h
        · exact h
        · rw [List.drop_of_length_le h] at hl; cases hl
      rw [drop_cons S j ⟨0, 0⟩ hjl, List.map_cons, List.cons.injEq] at hl
      obtain ⟨h1, h2⟩ := hl
      have hx : x.at_ = 16 + 3 + (S.getD j ⟨0, 0⟩).at_ ∧ x.val = (S.getD j ⟨0, 0⟩).val := by
        unfold pendOf at h1
        simp only [Pend.mk.injEq] at h1
        exact ⟨h1.1, h1.2.1⟩
      exact mix_inv hc hstep hstore ps _ l s (j + 1) hjl (by rw [stepM_len]; exact h32) (at_store ha h32 (hc.1.get hjl) hx.1 hx.2 hk (hc.2 j hjl)) h2 (hstore j s hjl hi)
    · have hs : storesOf (x :: l) = storesOf l := by unfold storesOf; rw [List.filter_cons]; simp [isS, hk]
      rw [hs] at hl
      exact mix_inv hc hstep hstore ps _ l s j hj (by rw [stepM_len]; exact h32) (at_persist ha hk) hl hi
/-- what holds of it, while nothing is done any more -/
theorem steps_inv {w : List Int} {P : Sk → Prop} (h : ∀ s, P s → P (stepS w s)) : ∀ (k : Nat) {s : Sk}, P s → P (stepsW w s k)
  | 0, _, hp => hp
  | k + 1, _, hp => h _ (steps_inv h k hp)
/-- thirteen steps are enough -/
theorem up_over {w : List Int} {t : Int} (h : InW w 1) (hd : downB t = false) : ∀ (k : Nat) {s : Sk}, s.block = 1 → s.turn = t → (∃ a : Nat, s.at_ = a ∧ a ≤ 12) → (stepsW w s k).block = 1 ∧ (stepsW w s k).turn = t ∧ ((stepsW w s k).over = true ∨ ∃ a : Nat, (stepsW w s k).at_ = a ∧ a ≤ 12 ∧ k ≤ a)
  | 0, s, hb, ht, ⟨a, ha, h12⟩ => ⟨hb, ht, .inr ⟨a, ha, h12, Nat.zero_le _⟩⟩
  | k + 1, s, hb, ht, ha => by
    obtain ⟨h1, h2, h3⟩ := up_over h hd k hb ht ha
    generalize hs : stepsW w s k = s' at *
    have e : stepsW w s (k + 1) = stepS w s' := by show stepS w (stepsW w s k) = _; rw [hs]
    rw [e]
    rcases h3 with ho | ⟨a, e1, e2, e3⟩
    · rw [stepS_over ho]; exact ⟨h1, h2, .inl ho⟩
    · obtain ⟨b, t', a', r, o⟩ := s'
      simp only at h1 h2 e1
      subst h1 h2 e1
      cases o with
      | true => rw [stepS_over rfl]; exact ⟨rfl, rfl, .inl rfl⟩
      | false =>
        rw [stepS_up h (by omega) hd]
        split
        · exact ⟨rfl, rfl, .inl rfl⟩
        · rename_i hc
          exact ⟨rfl, rfl, .inr ⟨a + 1, rfl, by omega, by omega⟩⟩
end Lam
namespace Lam
open Go
set_option linter.unusedVariables false
set_option linter.unnecessarySimpa false
set_option linter.unusedSimpArgs false
theorem cutK_get (l : List Int) {k i : Nat} (h : i < k) : (cutK l k).getD i ⟨0, 0⟩ = ⟨(l.length - 1 - i : Nat), 0⟩ := by
  unfold cutK
  rw [List.getD_eq_getElem?_getD, List.getElem?_map, List.getElem?_range h]; rfl
end Lam
namespace Lam
open Go
set_option linter.unusedVariables false
set_option linter.unusedSimpArgs false
end Lam
namespace Lam
open Go
set_option linter.unusedVariables false
set_option linter.unusedSimpArgs false
theorem down_over {w : List Int} {t : Int} (h : InW w 1) (hd : downB t = true) : ∀ (k : Nat) {s : Sk}, s.block = 1 → s.turn = t → (∃ a : Nat, s.at_ = a ∧ a ≤ 12) → (stepsW w s k).block = 1 ∧ (stepsW w s k).turn = t ∧ ((stepsW w s k).over = true ∨ ∃ a : Nat, (stepsW w s k).at_ = a ∧ a + k ≤ 12)
  | 0, s, hb, ht, ⟨a, ha, h12⟩ => ⟨hb, ht, .inr ⟨a, ha, h12⟩⟩
  | k + 1, s, hb, ht, ha => by
    obtain ⟨h1, h2, h3⟩ := down_over h hd k hb ht ha
    generalize hs : stepsW w s k = s' at *
    have e : stepsW w s (k + 1) = stepS w s' := by show stepS w (stepsW w s k) = _; rw [hs]
    rw [e]
    rcases h3 with ho | ⟨a, e1, e2⟩
    · rw [stepS_over ho]; exact ⟨h1, h2, .inl ho⟩
    · obtain ⟨b, t', a', r, o⟩ := s'
      simp only at h1 h2 e1
      subst h1 h2 e1
      cases o with
      | true => rw [stepS_over rfl]; exact ⟨rfl, rfl, .inl rfl⟩
      | false =>
        rw [stepS_down h (by omega) hd]
        split
        · exact ⟨rfl, rfl, .inl rfl⟩
        · rename_i hc
          exact ⟨rfl, rfl, .inr ⟨a - 1, rfl, by omega⟩⟩
end Lam
namespace Lam
open Go
set_option linter.unusedVariables false
set_option linter.unusedSimpArgs false
theorem see_keep {r : List Int} {W x : Int} (h : x ∈ r) : x ∈ seeR r W := by
  unfold seeR; split
  · exact List.mem_append_left _ h
  · exact h
theorem see_new {r : List Int} {W : Int} (h : 0 < W) : W ∈ seeR r W := by
  unfold seeR
  split
  · simp
  · rename_i hc
    have h1 : r.getLast? = some W := Decidable.byContradiction fun h2 => hc ⟨h, h2⟩
    exact List.mem_of_getLast? h1
theorem see_only {r : List Int} {W x : Int} (h : x ∈ seeR r W) : x ∈ r ∨ (x = W ∧ 0 < W) := by
  unfold seeR at h
  split at h
  · rename_i hc
    rcases List.mem_append.1 h with h | h
    · exact .inl h
    · rw [List.mem_singleton] at h; exact .inr ⟨h, hc.1⟩
  · exact .inl h
theorem see_len (r : List Int) (W : Int) : (seeR r W).length ≤ r.length + 1 ∧ (¬ 0 < W → seeR r W = r) := by
  refine ⟨?_, fun h => seeR_none h⟩
  unfold seeR
  split
  · simp
  · omega
/-- what slots come to, whatever was stored: K stay, with what W says of them; nothing but P is there; N are all -/
def Held (Zs : Nat → List Int) (J N : Nat) (W : Nat → Int → Prop) (P : Int → Prop) (K : Nat → Prop) : Prop :=
  (∀ j i, j ≤ J → K i → i < 13 ∧ 0 < (Zs j).getD i 0 ∧ W i ((Zs j).getD i 0)) ∧
  (∀ j i, j ≤ J → 0 < (Zs j).getD i 0 → P ((Zs j).getD i 0) ∧ i < N) ∧
  (∀ j k i, j ≤ J → ¬ 0 < (Zs j).getD k 0 → K i → i < k)
def LookInv (t : Int) (N : Nat) (W : Nat → Int → Prop) (P : Int → Prop) (K : Nat → Prop) (s : Sk) : Prop :=
  s.block = 1 ∧ s.turn = t ∧ (∀ x ∈ s.refs, P x) ∧
  (∃ k : Nat, s.at_ = k ∧ k ≤ 12 ∧ (s.over = false →
    (downB t = false → s.refs.length ≤ k ∧ s.refs.length ≤ N ∧ ∀ i, K i → i < k → ∃ v ∈ s.refs, W i v) ∧
    (downB t = true → s.refs.length ≤ N - (k + 1) ∧ ∀ i, K i → k < i → ∃ v ∈ s.refs, W i v))) ∧
  (s.over = true → s.refs.length ≤ N ∧ ∀ i, K i → ∃ v ∈ s.refs, W i v)
theorem look_step {t : Int} {Zs : Nat → List Int} {J N : Nat} {W : Nat → Int → Prop} {P : Int → Prop} {K : Nat → Prop} (hH : Held Zs J N W P K) {w : List Int} {j : Nat} {s : Sk} (hj : j ≤ J) (ha : AtZ w (Zs j)) (h : LookInv t N W P K s) : LookInv t N W P K (stepS w s) := by
  obtain ⟨c1, c2, c3⟩ := hH
  obtain ⟨h1, h2, hP, ⟨k, h3, h4, h5⟩, h6⟩ := h
  obtain ⟨b, t', a, r, o⟩ := s
  simp only at h1 h2 h3 h5 h6 hP
  subst h1 h2 h3
  cases o with
  | true => rw [stepS_over rfl]; exact ⟨rfl, rfl, hP, ⟨k, rfl, h4, fun h => by cases h⟩, h6⟩
  | false =>
    have hk13 : k < 13 := by omega
    obtain ⟨hup, hdn⟩ := h5 rfl
    have hv := ha.2 k hk13
    generalize hV : (Zs j).getD k 0 = V at *
    have hP' : ∀ x ∈ seeR r V, P x := fun x hx => by
      rcases see_only hx with h | ⟨h, h0⟩
      · exact hP x h
      · rw [h, ← hV]; exact (c2 j k hj (by rw [hV]; exact h0)).1
    have hl := see_len r V
    have hN : 0 < V → k < N := fun h => (c2 j k hj (by rw [hV]; exact h)).2
    have hW : K k → ∃ v ∈ seeR r V, W k v := fun hK => by
      have := c1 j k hj hK
      rw [hV] at this
      exact ⟨V, see_new this.2.1, this.2.2⟩
    have hold : ∀ i, (∃ v ∈ r, W i v) → ∃ v ∈ seeR r V, W i v := fun i ⟨v, hv, hw⟩ => ⟨v, see_keep hv, hw⟩
    cases hd : downB t' with
    | false =>
      obtain ⟨u1, u2, u3⟩ := hup hd
      have hlen : (seeR r V).length ≤ k + 1 ∧ (seeR r V).length ≤ N := by
        by_cases h0 : 0 < V
        · have := hN h0; omega
        · rw [hl.2 h0]; omega
      rw [stepS_up ha.1 hk13 hd, hv]
      by_cases hc : V < 1 ∨ k = 12
      · rw [if_pos hc]
        refine ⟨rfl, rfl, hP', ⟨k, rfl, h4, fun h => by cases h⟩, fun _ => ⟨hlen.2, fun i hK => ?_⟩⟩
        rcases Nat.lt_trichotomy i k with hi | rfl | hi
        · exact hold i (u3 i hK hi)
        · exact hW hK
        · exfalso
          rcases hc with hc | hc
          · have := c3 j k i hj (by rw [hV]; omega) hK; omega
          · have := (c1 j i hj hK).1; omega
      · rw [if_neg hc]
        refine ⟨rfl, rfl, hP', ⟨k + 1, rfl, by omega, fun _ => ⟨fun _ => ⟨hlen.1, hlen.2, fun i hK hi => ?_⟩, fun h => by rw [hd] at h; cases h⟩⟩, fun h => by cases h⟩
        rcases Nat.lt_or_ge i k with hi' | hi'
        · exact hold i (u3 i hK hi')
        · obtain rfl : i = k := by omega
          exact hW hK
    | true =>
      obtain ⟨u1, u2⟩ := hdn hd
      have hlen : (seeR r V).length ≤ N - k := by
        by_cases h0 : 0 < V
        · have := hN h0; omega
        · rw [hl.2 h0]; omega
      have hall : ∀ i, K i → k ≤ i → ∃ v ∈ seeR r V, W i v := fun i hK hi => by
        rcases Nat.lt_or_ge k i with hi' | hi'
        · exact hold i (u2 i hK hi')
        · obtain rfl : i = k := by omega
          exact hW hK
      rw [stepS_down ha.1 hk13 hd, hv]
      by_cases hk0 : k = 0
      · rw [if_pos hk0]
        exact ⟨rfl, rfl, hP', ⟨k, rfl, h4, fun h => by cases h⟩, fun _ => ⟨by simp only; omega, fun i hK => hall i hK (by omega)⟩⟩
      · rw [if_neg hk0]
        exact ⟨rfl, rfl, hP', ⟨k - 1, rfl, by omega, fun _ => ⟨(fun h => by rw [hd] at h; cases h), fun _ => ⟨by simp only; omega, fun i hK hi => hall i hK (by omega)⟩⟩⟩, fun h => by cases h⟩
/-- at the end it is over, and has seen what stays -/
theorem look_end {t : Int} {Zs : Nat → List Int} {S : List SlotT} {N : Nat} {W : Nat → Int → Prop} {P : Int → Prop} {K : Nat → Prop} (hc : Chain S Zs) (hH : Held Zs S.length N W P K) {m : Mm} {M : List Mic} (h32 : m.vol.length = 32) (ha : AtZ m.vol (Zs 0)) (hM : storesOf M = S.map (pendOf 16)) (ps : List Bool) (a : Nat) (ha0 : a = if downB t then 12 else 0) :
    (mixEnd m M ps ⟨1, t, a, [], false⟩).over = true ∧ (∀ x ∈ (mixEnd m M ps ⟨1, t, a, [], false⟩).refs, P x) ∧ (mixEnd m M ps ⟨1, t, a, [], false⟩).refs.length ≤ N ∧ ∀ i, K i → ∃ v ∈ (mixEnd m M ps ⟨1, t, a, [], false⟩).refs, W i v := by
  have ha12 : a ≤ 12 := by rw [ha0]; split <;> omega
  have h0 : LookInv t N W P K ⟨1, t, a, [], false⟩ := by
    refine ⟨rfl, rfl, (fun x hx => by cases hx), ⟨a, rfl, ha12, fun _ => ⟨fun hd => ?_, fun hd => ?_⟩⟩, fun h => by cases h⟩
    · rw [hd] at ha0
      exact ⟨Nat.zero_le _, Nat.zero_le _, fun i _ hi => absurd hi (by rw [ha0]; simp)⟩
    · rw [hd] at ha0
      refine ⟨Nat.zero_le _, fun i hK hi => ?_⟩
      have := (hH.1 0 i (Nat.zero_le _) hK).1
      rw [ha0] at hi; simp at hi; omega
  obtain ⟨j, hj, h32', ha', hi⟩ := mix_inv hc (Inv := fun _ => LookInv t N W P K) (fun w j s hj ha h => look_step hH hj ha h) (fun j s _ h => h) ps m M ⟨1, t, a, [], false⟩ 0 (Nat.zero_le _) h32 ha (by rw [List.drop_zero]; exact hM) h0
  have hfin : LookInv t N W P K (mixEnd m M ps ⟨1, t, a, [], false⟩) := steps_inv (P := LookInv t N W P K) (fun s h => look_step hH hj ha' h) 13 hi
  obtain ⟨i1, i2, _, ⟨k, i3, i4, _⟩, _⟩ := hi
  have hover : (mixEnd m M ps ⟨1, t, a, [], false⟩).over = true := by
    cases hd : downB t with
    | false =>
      rcases (up_over ha'.1 hd 13 i1 i2 ⟨k, i3, i4⟩).2.2 with h | ⟨a, _, h1, h2⟩
      · exact h
      · omega
    | true =>
      rcases (down_over ha'.1 hd 13 i1 i2 ⟨k, i3, i4⟩).2.2 with h | ⟨a, _, h1⟩
      · exact h
      · omega
  exact ⟨hover, hfin.2.2.1, hfin.2.2.2.2 hover⟩
def cutZs (l : List Int) (j : Nat) : List Int := l.take (l.length - j)
theorem cut_chain {l : List Int} (hl : l.length ≤ 13) {k : Nat} (hk : k ≤ l.length) : Chain (cutK l k) (cutZs l) := by
  refine ⟨cutK_in hl hk, fun j hj i hi => ?_⟩
  rw [cutK_len] at hj
  rw [cutK_get l hj]
  unfold cutZs
  rw [getD_take, getD_take]
  show _ = if (i : Int) = ((l.length - 1 - j : Nat) : Int) then 0 else _
  by_cases e : i = l.length - 1 - j
  · rw [if_neg (by omega), if_pos (by omega)]
  · rw [if_neg (c := (i : Int) = _) (by omega)]
    by_cases h : i < l.length - j
    · rw [if_pos (by omega), if_pos h]
    · rw [if_neg (by omega), if_neg h]
theorem cut_held {l : List Int} (hl : l.length ≤ 13) (hpos : ∀ x ∈ l, 0 < x) {n : Nat} (hn : n ≤ l.length) : Held (cutZs l) (l.length - n) l.length (fun i v => v = l.getD i 0) (fun x => x ∈ l) (fun i => i < n) := by
  have hg : ∀ j i, 0 < (cutZs l j).getD i 0 → i < l.length - j ∧ (cutZs l j).getD i 0 = l.getD i 0 := fun j i h => by
    unfold cutZs at h ⊢
    rw [getD_take] at h ⊢
    split at h
    · rename_i hc; rw [if_pos hc]; exact ⟨hc, rfl⟩
    · omega
  refine ⟨fun j i hj hi => ?_, fun j i hj h => ?_, fun j k i hj h hi => ?_⟩
  · unfold cutZs
    rw [getD_take, if_pos (by omega)]
    exact ⟨by omega, hpos _ (getD_mem l i 0 (by omega)), rfl⟩
  · obtain ⟨h1, h2⟩ := hg j i h
    rw [h2]; exact ⟨getD_mem l i 0 (by omega), by omega⟩
  · rcases Nat.lt_or_ge i k with h' | h'
    · exact h'
    · exfalso; apply h
      unfold cutZs
      rw [getD_take, if_pos (by omega)]
      exact hpos _ (getD_mem l k 0 (by omega))
def swapZs (l : List Int) (n : Nat) (ref : Int) (j : Nat) : List Int := if j = 0 then l else l.set n ref
theorem swapZs_get (l : List Int) (n : Nat) (ref : Int) (hn : n < l.length) (j i : Nat) : (swapZs l n ref j).getD i 0 = if j ≠ 0 ∧ i = n then ref else l.getD i 0 := by
  unfold swapZs
  by_cases h : j = 0
  · rw [if_pos h, if_neg (by omega)]
  · rw [if_neg h, getD_set]
    by_cases e : i = n
    · rw [if_pos (by omega), if_pos (by omega)]
    · rw [if_neg (by omega), if_neg (by omega)]
theorem swap_chain {l : List Int} (hl : l.length ≤ 13) {n : Nat} (hn : n < l.length) (ref : Int) : Chain [⟨(n : Int), ref⟩] (swapZs l n ref) := by
  refine ⟨fun s hs => ?_, fun j hj i hi => ?_⟩
  · rw [List.mem_singleton] at hs; subst hs
    exact ⟨by simp only; omega, by simp only; omega⟩
  · have hj0 : j = 0 := by simpa using hj
    subst hj0
    rw [swapZs_get l n ref hn, swapZs_get l n ref hn]
    show _ = if (i : Int) = (n : Int) then ref else _
    by_cases e : i = n
    · rw [if_pos (by omega), if_pos (by omega)]
    · rw [if_neg (by omega), if_neg (by omega), if_neg (by omega)]
theorem swap_held {l : List Int} (hl : l.length ≤ 13) (hpos : ∀ x ∈ l, 0 < x) {n : Nat} (hn : n < l.length) {ref : Int} (hr : 0 < ref) : Held (swapZs l n ref) 1 l.length (fun i v => v = l.getD i 0 ∨ (i = n ∧ v = ref)) (fun _ => True) (fun i => i < l.length) := by
  have hp : ∀ j i, i < l.length → 0 < (swapZs l n ref j).getD i 0 := fun j i hi => by
    rw [swapZs_get l n ref hn]
    split
    · exact hr
    · exact hpos _ (getD_mem l i 0 hi)
  refine ⟨fun j i hj hi => ⟨by omega, hp j i hi, ?_⟩, fun j i hj h => ⟨trivial, ?_⟩, fun j k i hj h hi => ?_⟩
  · rw [swapZs_get l n ref hn]
    split
    · rename_i hc; exact .inr ⟨hc.2, rfl⟩
    · exact .inl rfl
  · rcases Nat.lt_or_ge i l.length with h' | h'
    · exact h'
    · rw [swapZs_get l n ref hn, if_neg (by omega), getD_none h'] at h; omega
  · rcases Nat.lt_or_ge k l.length with h' | h'
    · exact absurd (hp j k h') h
    · omega
end Lam
namespace Lam
open Go
set_option linter.unusedVariables false
set_option linter.unusedSimpArgs false
def memW (n : Nd) : List Int := 0 :: 0 :: 0 :: 0 :: 0 :: 0 :: 0 :: 0 :: 0 :: 0 :: 0 :: 0 :: 0 :: 0 :: 0 :: 0 :: wordsNd n
theorem memW_eq (n : Nd) : memW n = List.replicate 16 0 ++ wordsNd n := rfl
theorem memW_len {n : Nd} (h : n.ok) : (memW n).length = 32 := by rw [memW_eq, List.length_append, List.length_replicate, words_len h]
theorem memW_block {n : Nd} (h : n.ok) : blockAt (memW n) 1 = wordsNd n := by
  unfold blockAt; rw [memW_eq, List.drop_append_of_le_length (by simp), List.drop_of_length_le (by simp), List.nil_append]; exact List.take_of_length_le (Nat.le_of_eq (words_len h))
theorem memW_begin {n : Nd} (h : n.ok) : beginO (memW n) 1 = some ⟨1, n.turn, if downB n.turn = true then 12 else 0, [], false⟩ := by
  have hnode : nodeO (memW n) 1 = some n := by
    unfold nodeO; rw [if_neg (by rw [memW_len h]; decide)]
    show readN (blockAt (memW n) 1) = _
    rw [memW_block h, readN_ok h]
  unfold beginO; rw [hnode]; simp only
  rw [if_neg (by decide)]
theorem memW_at {n : Nd} (h : n.ok) : AtZ (memW n) n.slots := by
  refine ⟨⟨by decide, by decide, by rw [memW_len h]; decide⟩, fun k hk => ?_⟩
  have h13 : n.slots.length ≤ 13 := h.2.2.2.2.2.2.1
  have e1 : slotW (memW n) 1 k = (wordsNd n).getD (k + 1 + 1 + 1) 0 := by
    unfold slotW
    rw [← memW_block h]
    unfold blockAt
    rw [getD_take, if_pos (by omega), getD_drop]
    congr 1; show 16 + 3 + k = 16 * 1 + (k + 1 + 1 + 1); omega
  rw [e1]
  unfold wordsNd
  rw [List.getD_cons_succ, List.getD_cons_succ, List.getD_cons_succ, getD_app2]
  split
  · rfl
  · rename_i hc
    rw [getD_none (l := n.slots) (by omega), getD_rep]
theorem memW_mix {n : Nd} (h : n.ok) {S : List SlotT} {Zs : Nat → List Int} {N : Nat} {W : Nat → Int → Prop} {P : Int → Prop} {K : Nat → Prop} (hc : Chain S Zs) (hH : Held Zs S.length N W P K) (h0 : Zs 0 = n.slots) (hS : S.length ≤ 400) (ps : List Bool) :
    ∃ (b t a : Int) (R : List Int), mixV ⟨memW n, memW n, []⟩ (storedV 16 S) ps ((beginO (memW n) 1).getD skZ) = .tup [Sk.V ⟨b, t, a, R, true⟩, .bool true] ∧ (∀ x ∈ R, P x) ∧ R.length ≤ N ∧ (∀ i, K i → ∃ v ∈ R, W i v) ∧ (storedV 16 S).length ≤ 1000 ∧ (∀ x ∈ storedV 16 S, MayN x (memW n).length) := by
  have hnb : nodeB 16 = true := (node_iff (by decide)).2 (by decide)
  have hst := stored_checked hnb (by decide) hc.1
  have hM : storesOf (storedV 16 S) = S.map (pendOf 16) := by
    rw [hst, stores_all hnb (by decide) hc.1 _ (Nat.le_refl _), List.take_length]
  have hMl : (storedV 16 S).length ≤ 1000 := by
    rw [hst]
    have := storedN_len 16 S S.length
    omega
  have hMay : ∀ x ∈ storedV 16 S, MayN x (memW n).length := by
    rw [hst, memW_len h]; exact stored_may hnb (by decide) hc.1 (by decide) (by decide) _ (Nat.le_refl _)
  have hat : AtZ (⟨memW n, memW n, []⟩ : Mm).vol (Zs 0) := by rw [h0]; exact memW_at h
  obtain ⟨q1, q2, q3, q4⟩ := look_end (t := n.turn) hc hH (m := ⟨memW n, memW n, []⟩) (memW_len h) hat hM ps (if downB n.turn = true then 12 else 0) rfl
  rw [memW_begin h, Option.getD_some]
  have ecast : (((if downB n.turn = true then 12 else 0 : Nat)) : Int) = if downB n.turn = true then 12 else 0 := by split <;> rfl
  rw [ecast] at q1 q2 q3 q4
  unfold mixV
  generalize mixEnd ⟨memW n, memW n, []⟩ (storedV 16 S) ps ⟨1, n.turn, if downB n.turn = true then 12 else 0, [], false⟩ = E at *
  obtain ⟨b, t, a, R, o⟩ := E
  simp only at q1 q2 q3 q4
  subst q1
  exact ⟨b, t, a, R, rfl, q2, q3, q4, hMl, hMay⟩
end Lam
namespace Lam
set_option maxRecDepth 20000
open Go Go.Proofs
set_option linter.unusedVariables false
set_option linter.unnecessarySimpa false
set_option linter.unusedSimpArgs false
def rcT (x : Rc) : RecT := ⟨x.kind, x.key, x.val, x.child⟩
def hitS (w : List Int) (out : List RecT) (r : Int) : List RecT := match recO w r with
  | none => out
  | some x => if x.key ∈ out.map (·.key) then out else out ++ [rcT x]
def hitsOf (w refs : List Int) : List RecT := refs.foldl (hitS w) []
theorem hitS_len (w : List Int) (out : List RecT) (r : Int) : (hitS w out r).length ≤ out.length + 1 := by
  unfold hitS
  split
  · omega
  · split
    · omega
    · simp
theorem hitS_nodup {w : List Int} {out : List RecT} {r : Int} (h : (out.map (·.key)).Nodup) : ((hitS w out r).map (·.key)).Nodup := by
  unfold hitS
  split
  · exact h
  · split
    · exact h
    · rename_i x _ hx
      rw [List.map_append, List.nodup_append]
      refine ⟨h, by simp, fun a ha b hb => ?_⟩
      simp only [List.map_cons, List.map_nil, List.mem_singleton] at hb
      subst hb
      rintro rfl
      exact hx ha
theorem hits_fold {w : List Int} : ∀ {refs : List Int} {out : List RecT}, (out.map (·.key)).Nodup → ((refs.foldl (hitS w) out).map (·.key)).Nodup ∧ (refs.foldl (hitS w) out).length ≤ out.length + refs.length
  | [], out, h => ⟨h, by simp⟩
  | r :: refs, out, h => by
    obtain ⟨h1, h2⟩ := hits_fold (refs := refs) (hitS_nodup (r := r) (w := w) h)
    have := hitS_len w out r
    exact ⟨h1, by simp only [List.foldl_cons, List.length_cons]; omega⟩
def insR (x : RecT) : List RecT → List RecT
  | [] => [x]
  | y :: l => if ltB x.key y.key = true then x :: y :: l else y :: insR x l
def sortR (l : List RecT) : List RecT := l.foldr insR []
theorem insR_perm (x : RecT) : ∀ l : List RecT, (insR x l).Perm (x :: l)
  | [] => .refl _
  | y :: l => by
    unfold insR
    split
    · exact .refl _
    · exact ((insR_perm x l).cons y).trans (.swap x y l)
theorem sortR_perm : ∀ l : List RecT, (sortR l).Perm l
  | [] => .refl _
  | x :: l => (insR_perm x _).trans ((sortR_perm l).cons x)
def ltR (x y : RecT) : Prop := ltB x.key y.key = true
theorem insR_rises {x : RecT} : ∀ {l : List RecT}, l.Pairwise ltR → (∀ y ∈ l, y.key ≠ x.key) → (insR x l).Pairwise ltR
  | [], _, _ => by simp [insR]
  | y :: l, h, hx => by
    rw [List.pairwise_cons] at h
    unfold insR
    split
    · rename_i hl
      rw [List.pairwise_cons]
      refine ⟨fun z hz => ?_, List.pairwise_cons.2 h⟩
      rcases List.mem_cons.1 hz with rfl | hz
      · exact hl
      · exact ltB_trans hl (h.1 z hz)
    · rename_i hl
      rw [List.pairwise_cons]
      refine ⟨fun z hz => ?_, insR_rises h.2 fun z hz => hx z (by simp [hz])⟩
      rcases List.mem_cons.1 ((insR_perm x l).mem_iff.1 hz) with rfl | hz
      · exact lt_of_le_ne (by unfold leB; simpa using hl) (hx y (by simp))
      · exact h.1 z hz
theorem sortR_rises : ∀ {l : List RecT}, (l.map (·.key)).Nodup → (sortR l).Pairwise ltR
  | [], _ => List.Pairwise.nil
  | x :: l, h => by
    rw [List.map_cons, List.nodup_cons] at h
    refine insR_rises (sortR_rises h.2) fun y hy he => h.1 ?_
    rw [← he]
    exact List.mem_map_of_mem (f := (·.key)) ((sortR_perm l).mem_iff.1 hy)
theorem rises_eq : ∀ {l l' : List RecT}, l.Pairwise ltR → l'.Pairwise ltR → l.Perm l' → l = l'
  | [], l', _, _, p => p.nil_eq
  | x :: l, [], _, _, p => by have := p.length_eq; simp at this
  | x :: l, y :: l', h, h', p => by
    rw [List.pairwise_cons] at h h'
    have e : x = y := by
      rcases List.mem_cons.1 (p.mem_iff.1 (List.mem_cons_self (a := x))) with e | hx
      · exact e
      · rcases List.mem_cons.1 (p.mem_iff.2 (List.mem_cons_self (a := y))) with e | hy
        · exact e.symm
        · have := ltB_trans (h.1 y hy) (h'.1 x hx)
          rw [ltB_self] at this; cases this
    subst e
    rw [rises_eq h.2 h'.2 (List.Perm.cons_inv p)]
theorem sorted_is {l l' : List RecT} (hp : l'.Perm l) (hs : SegS 0 l.length l') (hn : (l.map (·.key)).Nodup) : l' = sortR l := by
  refine rises_eq ?_ (sortR_rises hn) (hp.trans (sortR_perm l).symm)
  have hn' : (l'.map (·.key)).Nodup := (hp.map _).nodup_iff.2 hn
  rw [List.pairwise_iff_getElem]
  intro i j hi hj hij
  have h1 := hs i j (Nat.zero_le _) hij (by rw [← hp.length_eq]; exact hj)
  unfold kyL at h1
  rw [List.getD_eq_getElem?_getD, List.getD_eq_getElem?_getD, List.getElem?_eq_getElem hi, List.getElem?_eq_getElem hj] at h1
  refine lt_of_le_ne h1 fun e => ?_
  have := List.pairwise_iff_getElem.1 hn' i j (by simpa using hi) (by simpa using hj) hij
  apply this
  simpa using e
def seek_Hits.C : Contract
  | [.sl _ (.ints .i64 w), .agg [.int .i64 b, .int .i64 t, .int .i64 a, .sl _ (.ints .i64 l), .bool o]] => some (false, pD (roomy w.length ∧ l.length ≤ 13) (.sl false (.recs (sortR (hitsOf w l)))))
  | _ => none
set_option maxRecDepth 20000 in
theorem seek_Hits.spec : FSpec Try.prog 33 seek_Hits.C := by
  refine FSpec.of (ctx_ok (F := [(37, rec_Read.C)]) (S := [(67, slices_SortFunc_sl_api_Rec_api_Rec.K)]) (by simpa using rec_Read.spec) (by simpa using slices_SortFunc_sl_api_Rec_api_Rec.spec) seek_Hits.loops) seek_Hits.at seek_Hits.nm seek_Hits.bd ?_
  intro vs b S v news e hS
  unfold seek_Hits.C at e
  split at e
  rotate_left
  · cases e
  cases e
  rw [seek_Hits.eq]
  unfold seek_Hits.H
  simp (maxSteps := 4000000) only [go_sem, Nat.reduceEqDiff, Nat.reduceLT, Nat.reduceAdd, Nat.reduceSub, Nat.reduceLeDiff, List.reduceReplicate, Int.reduceToNat, rec_Read.C]
  rename_i _ w b t a x l o
  obtain ⟨hw, hl⟩ := hS
  rw [joinW_eq]
  unfold seek_Hits.L1
  refine loop2 (σ := Nat) (fun k => .sref false 2 (hitsOf w (l.take k)).length 0 (hitsOf w (l.take k)).length) (fun k => .int .i64 k) (fun k => [.box (Sk.V ⟨b, t, a, l, o⟩), .map (.sb fun s => decide (s ∈ (hitsOf w (l.take k)).map (·.key))), .row .own (hitsOf w (l.take k)).length (.recs (hitsOf w (l.take k)))]) (fun k => l.length - k) (fun k => k ≤ l.length) 0 rfl (by simp [hitsOf, Sk.V]) (Nat.zero_le _) ?_
  intro I back k hk
  have hnext : k < l.length → hitsOf w (l.take (k + 1)) = hitS w (hitsOf w (l.take k)) (l.getD k 0) := fun h => by
    unfold hitsOf; rw [take_next l k 0 h, List.foldl_append]; rfl
  obtain ⟨hnd, hol⟩ := hits_fold (w := w) (refs := l.take k) (out := []) (by simp)
  have hnd : ((hitsOf w (l.take k)).map (·.key)).Nodup := hnd
  have hol : (hitsOf w (l.take k)).length ≤ k := by
    have : (hitsOf w (l.take k)).length ≤ 0 + (l.take k).length := hol
    rw [List.length_take] at this; omega
  by_cases hlt : k < l.length
  · have hb : ∀ (n : Nat) (lv : List AV) (h : List AObj), _ := fun n lv h => @back n lv h (k + 1)
    rw [hnext hlt] at hb
    clear back hnext
    generalize hitsOf w (l.take k) = out at *
    cases hx : recO w (l.getD k 0) with
    | none =>
      obtain ⟨e, he, hr⟩ := rreadV_no hx
      have hs : hitS w out (l.getD k 0) = out := by unfold hitS; rw [hx]
      rw [hs] at hb
      simp only [rec_Read.C, hr, zeroRc, he, decide_false, joinW_eq, Sk.V, joinW_eq, guard_tt, guard_tf, guard_ft, guard_ff, Int.reduceEq, Int.reduceLT, Int.reduceLE, decide_false, decide_true, Bool.not_false, Bool.not_true, Bool.not_not, not_true_eq_false, not_false_eq_true, true_implies, false_implies, implies_true, and_true, true_and, reduceCtorEq, Bool.and_self, Bool.or_self, Bool.and_true, Bool.true_and, Bool.false_eq_true, if_true, if_false, go_sem, Nat.reduceEqDiff, Nat.reduceLT, Nat.reduceAdd, Nat.reduceSub, Nat.reduceLeDiff, List.reduceReplicate, Int.reduceToNat]
      exact ⟨fun _ => ⟨⟨by omega, by omega⟩, hw, hb _ _ _ (by omega) (by rw [wnext (by omega)]) rfl (by omega)⟩, fun h => absurd h (by omega)⟩
    | some y =>
      obtain ⟨y1, y2, y3, y4⟩ := y
      by_cases hin : y2 ∈ out.map (·.key)
      · have hs : hitS w out (l.getD k 0) = out := by unfold hitS; rw [hx]; simp only [hin, if_true]
        rw [hs] at hb
        simp only [rec_Read.C, rreadV_so hx, hin, decide_true, joinW_eq, Sk.V, joinW_eq, guard_tt, guard_tf, guard_ft, guard_ff, Int.reduceEq, Int.reduceLT, Int.reduceLE, decide_false, decide_true, Bool.not_false, Bool.not_true, Bool.not_not, not_true_eq_false, not_false_eq_true, true_implies, false_implies, implies_true, and_true, true_and, reduceCtorEq, Bool.and_self, Bool.or_self, Bool.and_true, Bool.true_and, Bool.false_eq_true, if_true, if_false, go_sem, Nat.reduceEqDiff, Nat.reduceLT, Nat.reduceAdd, Nat.reduceSub, Nat.reduceLeDiff, List.reduceReplicate, Int.reduceToNat]
        exact ⟨fun _ => ⟨⟨by omega, by omega⟩, hw, hb _ _ _ (by omega) (by rw [wnext (by omega)]) rfl (by omega)⟩, fun h => absurd h (by omega)⟩
      · have hs : hitS w out (l.getD k 0) = out ++ [⟨y1, y2, y3, y4⟩] := by unfold hitS; rw [hx]; simp only [hin, if_false]; rfl
        rw [hs] at hb
        have hmap : (fun j => if j = y2 then true else decide (j ∈ out.map (·.key))) = fun j => decide (j ∈ (out ++ [(⟨y1, y2, y3, y4⟩ : RecT)]).map (·.key)) := by
          funext j
          rw [List.map_append, show decide (j ∈ out.map (·.key) ++ [(⟨y1, y2, y3, y4⟩ : RecT)].map (·.key)) = decide (j ∈ out.map (·.key) ∨ j = y2) from decide_eq_decide.2 (by simp)]
          by_cases e : j = y2
          · simp [e]
          · simp [e]
        simp only [rec_Read.C, rreadV_so hx, hin, decide_false, joinW_eq, Sk.V, joinW_eq, guard_tt, guard_tf, guard_ft, guard_ff, Int.reduceEq, Int.reduceLT, Int.reduceLE, decide_false, decide_true, Bool.not_false, Bool.not_true, Bool.not_not, not_true_eq_false, not_false_eq_true, true_implies, false_implies, implies_true, and_true, true_and, reduceCtorEq, Bool.and_self, Bool.or_self, Bool.and_true, Bool.true_and, Bool.false_eq_true, if_true, if_false, go_sem, Nat.reduceEqDiff, Nat.reduceLT, Nat.reduceAdd, Nat.reduceSub, Nat.reduceLeDiff, List.reduceReplicate, Int.reduceToNat]
        have hl1 : (out ++ [(⟨y1, y2, y3, y4⟩ : RecT)]).length = out.length + 1 := by simp
        refine ⟨fun _ => ⟨⟨by omega, by omega⟩, hw, by rw [hl1]; unfold roomy; omega, hb _ _ _ (by omega) (by rw [wnext (by omega), hl1]) (by rw [hmap, hl1]; rfl) (by omega)⟩, fun h => absurd h (by omega)⟩
  · obtain rfl : k = l.length := by omega
    rw [List.take_length] at hnd hol ⊢
    clear back hnext
    simp only [Sk.V, joinW_eq, guard_tt, guard_tf, guard_ft, guard_ff, Int.reduceEq, Int.reduceLT, Int.reduceLE, decide_false, decide_true, Bool.not_false, Bool.not_true, Bool.not_not, not_true_eq_false, not_false_eq_true, true_implies, false_implies, implies_true, and_true, true_and, reduceCtorEq, Bool.and_self, Bool.or_self, Bool.and_true, Bool.true_and, Bool.false_eq_true, if_true, if_false, go_sem, Nat.reduceEqDiff, Nat.reduceLT, Nat.reduceAdd, Nat.reduceSub, Nat.reduceLeDiff, List.reduceReplicate, Int.reduceToNat]
    refine ⟨fun h => absurd h (by omega), fun _ => ?_⟩
    refine sort_K ⟨b, t, a, l, o⟩ _ _ (hitsOf w l) _ rfl (by omega) _ fun l' tl hp hs => ?_
    simp only [hpS, SkT.V, joinW_eq, guard_tt, guard_tf, guard_ft, guard_ff, Int.reduceEq, Int.reduceLT, Int.reduceLE, decide_false, decide_true, Bool.not_false, Bool.not_true, Bool.not_not, not_true_eq_false, not_false_eq_true, true_implies, false_implies, implies_true, and_true, true_and, reduceCtorEq, Bool.and_self, Bool.or_self, Bool.and_true, Bool.true_and, Bool.false_eq_true, if_true, if_false, go_sem, Nat.reduceEqDiff, Nat.reduceLT, Nat.reduceAdd, Nat.reduceSub, Nat.reduceLeDiff, List.reduceReplicate, Int.reduceToNat]
    have e := sorted_is hp hs hnd
    rw [← e]
    refine post_val ?_ rfl
    simp only [List.take_of_length_le (Nat.le_of_eq hp.length_eq), go_sem, Nat.reduceEqDiff, Nat.reduceLT, Nat.reduceAdd, Nat.reduceSub, Nat.reduceLeDiff, List.reduceReplicate, Int.reduceToNat]
end Lam
namespace Lam
open Go Go.Proofs
set_option linter.unusedVariables false
def lamplighterref02_Numbers.loops : Nat → LInfo
  | 4 => ⟨[5], [false], [0, 1], [], [], []⟩
  | _ => ⟨[], [], [], [], [], []⟩
def lamplighterref02_Numbers.L1 (c : Ctx) (J1 : List AObj → Prop) (K : AOut → List AObj → Prop) (lv : List AV) (h0 : List AObj) (n0 : Nat) (c0 : AV) (c1 : AV) : Prop :=
  ∃ I : Nat → List AV → List AObj → Prop, (∃ n, I n lv h0) ∧ ∀ n h, ∀ t5, I n [t5] h →
    runD (lenD T_sl_int h c0) h fun t13 h =>
    runD (binD T_int .lss t5 t13) h fun t14 h =>
    condW t14
    (runD (indexAddrD T_sl_int h c0 t5) h fun t19 h =>
    runD (fitD T_int (loadD h t19)) h fun t20 h =>
    runD (indexAddrD T_sl_int h c1 t5) h fun t23 h =>
    runD (fitD T_int (loadD h t23)) h fun t24 h =>
    runD (binD T_int .neq t20 t24) h fun t25 h =>
    condW t25
    (K (.ret (.bool false)) h)
    (runD (binD T_int .add t5 (.int .i64 1)) h fun t16 h =>
    (∃ m, m < n ∧ I m (AV.norms n0 h [t16]) (normH n0 h)) ∧ AV.norms n0 h [c0, c1] = [c0, c1]))
    (J1 h)
def lamplighterref02_Numbers.H (c : Ctx) (t0 : AV) (t1 : AV) (h : List AObj) (K : AOut → List AObj → Prop) : Prop :=
  runD (lenD T_sl_int h t0) h fun t7 h =>
  runD (lenD T_sl_int h t1) h fun t9 h =>
  runD (binD T_int .neq t7 t9) h fun t10 h =>
  condW t10
  (K (.ret (.bool false)) h)
  (joinW (fun (J1 : List AObj → Prop) =>
  promV [false] [(.int .i64 0)] h fun lv h => lamplighterref02_Numbers.L1 c J1 K (AV.norms h.length h lv) (normH h.length h) h.length (AV.norm h.length h t0) (AV.norm h.length h t1))
  (fun h => K (.ret (.bool true)) h))
theorem lamplighterref02_Numbers.eq (F : List (FuncId × Contract)) (S : List (FuncId × Con)) (t0 t1 : AV) (h : List AObj) (K : AOut → List AObj → Prop) : funW (ctx F S lamplighterref02_Numbers.loops) Try.f20 [t0, t1] h K = lamplighterref02_Numbers.H (ctx F S lamplighterref02_Numbers.loops) t0 t1 h K := by kernel_rfl
theorem lamplighterref02_Numbers.at : Try.prog.funcs[20]? = some Try.f20 := by kernel_rfl
theorem lamplighterref02_Numbers.nm : (Try.f20.name == "runtime.NumGoroutine") = false := by kernel_rfl
theorem lamplighterref02_Numbers.bd : Try.f20.body.isNone = false := by kernel_rfl
end Lam
namespace Lam
open Go Go.Proofs
set_option linter.unusedVariables false
set_option linter.unnecessarySimpa false
set_option linter.unusedSimpArgs false
def lamplighterref02_Numbers.C : Contract
  | [.sl _ (.ints .i64 a), .sl _ (.ints .i64 b)] => some (false, pD (roomy a.length) (.bool (decide (a = b))))
  | _ => none
set_option maxRecDepth 20000 in
theorem lamplighterref02_Numbers.spec : FSpec Try.prog 20 lamplighterref02_Numbers.C := by
  refine FSpec.of (ctx_ok (F := []) (S := []) (by simp) (by simp) lamplighterref02_Numbers.loops) lamplighterref02_Numbers.at lamplighterref02_Numbers.nm lamplighterref02_Numbers.bd ?_
  intro vs b S v news e hS
  unfold lamplighterref02_Numbers.C at e
  split at e
  rotate_left
  · cases e
  cases e
  rw [lamplighterref02_Numbers.eq]
  unfold lamplighterref02_Numbers.H
  simp (maxSteps := 4000000) only [go_sem, Nat.reduceEqDiff, Nat.reduceLT, Nat.reduceAdd, Nat.reduceSub, Nat.reduceLeDiff, List.reduceReplicate, Int.reduceToNat]
  rename_i a _ b
  unfold roomy at hS
  refine ⟨fun hne => ?_, fun heq => ?_⟩
  · have : decide (a = b) = false := by rw [decide_eq_false_iff_not]; rintro rfl; exact hne rfl
    rw [this]; exact post_val rfl rfl
  rw [joinW_eq]
  unfold lamplighterref02_Numbers.L1
  have hlen : a.length = b.length := by omega
  refine loop1 (fun k : Nat => .int .i64 k) (fun _ => []) (fun k => a.length - k) (fun k => k ≤ a.length ∧ ∀ i, i < k → a.getD i 0 = b.getD i 0) 0 rfl rfl ⟨Nat.zero_le _, fun i hi => absurd hi (Nat.not_lt_zero i)⟩ ?_
  rintro I back k ⟨hk, hall⟩
  simp only [go_sem, Nat.reduceEqDiff, Nat.reduceLT, Nat.reduceAdd, Nat.reduceSub, Nat.reduceLeDiff, List.reduceReplicate, Int.reduceToNat]
  refine ⟨fun hlt => ⟨by omega, by omega, fun h0 => ?_, fun h0 => ?_⟩, fun hge => ?_⟩
  · have : decide (a = b) = false := by rw [decide_eq_false_iff_not]; rintro rfl; exact h0 rfl
    rw [this]; exact post_val rfl rfl
  · refine back (k + 1) (by omega) (by rw [wnext (by omega)]) rfl ⟨by omega, fun i hi => ?_⟩
    by_cases e : i = k
    · subst e; exact h0
    · exact hall i (by omega)
  · rw [decide_eq_true (ext_d 0 hlen fun i hi => hall i (by omega))]; exact post_val rfl rfl
end Lam
namespace Lam
open Go Go.Proofs
set_option linter.unusedVariables false
def lamplighterlaw13_awake.loops : Nat → LInfo
  | 4 => ⟨[5], [false], [1, 3, 4], [], [], []⟩
  | 10 => ⟨[], [], [], [(3, none), (2, some [45, 47]), (2, none), (4, some [49, 53]), (2, none), (2, some [55, 57]), (2, none), (3, some [59, 62]), (2, none), (5, some [64, 69]), (2, none), (3, some [71, 74]), (2, none), (4, some [76, 80])], [], []⟩
  | _ => ⟨[], [], [], [], [], []⟩
def lamplighterlaw13_awake.L1 (c : Ctx) (J1 : AV → AV → AV → List AObj → Prop) (K : AOut → List AObj → Prop) (lv : List AV) (h0 : List AObj) (n0 : Nat) (c1 : AV) (c3 : AV) (c4 : AV) : Prop :=
  ∃ I : Nat → List AV → List AObj → Prop, (∃ n, I n lv h0) ∧ ∀ n h, ∀ t5, I n [t5] h →
    runD (binD T_int .lss t5 (.int .i64 13)) h fun t23 h =>
    condW t23
    (runD (fitD T_api_Seek (loadD h c3)) h fun t27 h =>
    callW false c (.fn (.func 28) [] []) [c1, t27] h (fun t28 h =>
    runH (storeH T_api_Seek h c3 t28) h fun _ h =>
    runD (binD T_int .add t5 (.int .i64 1)) h fun t25 h =>
    (∃ m, m < n ∧ I m (AV.norms n0 h [t25]) (normH n0 h)) ∧ AV.norms n0 h [c1, c3, c4] = [c1, c3, c4])
    (fun v h => K (.pan v) h))
    (J1 c1 c3 c4 h)
def lamplighterlaw13_awake.H (c : Ctx) (h : List AObj) (K : AOut → List AObj → Prop) : Prop :=
  runD (buildSliceD T_sl_int 3 [(0, (.int .i64 5)), (1, (.int .i64 5)), (2, (.int .i64 6))] h.length) h fun t12 h =>
  runD (buildD T_api_Node [(1, (.int .i64 1)), (4, t12)]) h fun t13 h =>
  callW false c (.fn (.func 35) [] []) [t13] h (fun t14 h =>
  runD (extractD t14 0) h fun t15 h =>
  runD (extractD t14 1) h fun t16 h =>
  callW false c (.fn (.func 25) [] []) [t15, (.int .i64 0)] h (fun t19 h =>
  runD (extractD t19 0) h fun t20 h =>
  runD (extractD t19 1) h fun t21 h =>
  allocW T_api_Seek h fun t3 h =>
  runH (storeH T_api_Seek h t3 t20) h fun _ h =>
  joinW (fun (J1 : AV → AV → AV → List AObj → Prop) =>
  promV [false] [(.int .i64 0)] h fun lv h => lamplighterlaw13_awake.L1 c J1 K (AV.norms h.length h lv) (normH h.length h) h.length (AV.norm h.length h t15) (AV.norm h.length h t3) (AV.norm h.length h t21))
  (fun t1 t3 t4 h => callW false c (.fn (.func 25) [] []) [t1, (.int .i64 1)] h (fun t31 h =>
  runD (extractD t31 0) h fun t32 h =>
  runD (extractD t31 1) h fun t33 h =>
  allocW T_api_Seek h fun t6 h =>
  runH (storeH T_api_Seek h t6 t32) h fun _ h =>
  runD (buildD T_api_Rec [(0, (.int .i64 1)), (1, (.str [97]))]) h fun t35 h =>
  callW false c (.fn (.func 60) [] []) [t35] h (fun t36 h =>
  runD (extractD t36 0) h fun t37 h =>
  runD (extractD t36 1) h fun t38 h =>
  runD (buildSliceD T_sl_int 3 [(0, (.int .i64 0)), (1, (.int .i64 1)), (2, (.int .i64 0))] h.length) h fun t40 h =>
  runD (buildD T_api_Seek [(3, t40)]) h fun t41 h =>
  callW false c (.fn (.func 33) [] []) [t37, t41] h (fun t42 h =>
  runD (binD T_api_Errno .eql t4 (.int .i64 0)) h fun t44 h =>
  joinW (fun (J2 : AV → AV → List AObj → Prop) =>
  guardW t44 true
  (runD (fieldAddrD T_api_Seek t3 4) h fun t46 h =>
    runD (fitD T_bool (loadD h t46)) h fun t47 h =>
    J2 (.bool true) t47 h)
  (J2 (.bool false) .und h))
  (fun t45 t47 h => runD (pickD t45 t47 (.bool false)) h fun t48 h =>
  joinW (fun (J3 : AV → AV → List AObj → Prop) =>
  guardW t48 true
  (runD (fieldAddrD T_api_Seek t3 3) h fun t50 h =>
    runD (fitD T_sl_int (loadD h t50)) h fun t51 h =>
    runD (buildSliceD T_sl_int 2 [(0, (.int .i64 6)), (1, (.int .i64 5))] h.length) h fun t52 h =>
    callW false c (.fn (.func 20) [] []) [t51, t52] h (fun t53 h =>
    J3 (.bool true) t53 h)
    (fun v h => K (.pan v) h))
  (J3 (.bool false) .und h))
  (fun t49 t53 h => runD (pickD t49 t53 (.bool false)) h fun t54 h =>
  joinW (fun (J4 : AV → AV → List AObj → Prop) =>
  guardW t54 true
  (runD (binD T_api_Errno .eql t33 (.int .i64 90)) h fun t57 h =>
    J4 (.bool true) t57 h)
  (J4 (.bool false) .und h))
  (fun t55 t57 h => runD (pickD t55 t57 (.bool false)) h fun t58 h =>
  joinW (fun (J5 : AV → AV → List AObj → Prop) =>
  guardW t58 true
  (runD (lenD T_sl_api_Rec h t42) h fun t61 h =>
    runD (binD T_int .eql t61 (.int .i64 1)) h fun t62 h =>
    J5 (.bool true) t62 h)
  (J5 (.bool false) .und h))
  (fun t59 t62 h => runD (pickD t59 t62 (.bool false)) h fun t63 h =>
  joinW (fun (J6 : AV → AV → List AObj → Prop) =>
  guardW t63 true
  (runD (indexAddrD T_sl_api_Rec h t42 (.int .i64 0)) h fun t66 h =>
    runD (fieldAddrD T_api_Rec t66 1) h fun t67 h =>
    runD (fitD T_string (loadD h t67)) h fun t68 h =>
    runD (binD T_string .eql t68 (.str [97])) h fun t69 h =>
    J6 (.bool true) t69 h)
  (J6 (.bool false) .und h))
  (fun t64 t69 h => runD (pickD t64 t69 (.bool false)) h fun t70 h =>
  joinW (fun (J7 : AV → AV → List AObj → Prop) =>
  guardW t70 true
  (runD (fitD T_api_Seek (loadD h t3)) h fun t73 h =>
    callW false c (.fn (.func 30) [] []) [t1, t73] h (fun t74 h =>
    J7 (.bool true) t74 h)
    (fun v h => K (.pan v) h))
  (J7 (.bool false) .und h))
  (fun t71 t74 h => runD (pickD t71 t74 (.bool false)) h fun t75 h =>
  joinW (fun (J8 : AV → AV → List AObj → Prop) =>
  guardW t75 true
  (runD (buildD T_api_Seek []) h fun t78 h =>
    callW false c (.fn (.func 30) [] []) [t1, t78] h (fun t79 h =>
    runD (unD .not t79) h fun t80 h =>
    J8 (.bool true) t80 h)
    (fun v h => K (.pan v) h))
  (J8 (.bool false) .und h))
  (fun t76 t80 h => runD (pickD t76 t80 (.bool false)) h fun t81 h =>
  K (.ret t81) h))))))))
  (fun v h => K (.pan v) h))
  (fun v h => K (.pan v) h))
  (fun v h => K (.pan v) h)))
  (fun v h => K (.pan v) h))
  (fun v h => K (.pan v) h)
theorem lamplighterlaw13_awake.eq (F : List (FuncId × Contract)) (S : List (FuncId × Con)) (h : List AObj) (K : AOut → List AObj → Prop) : funW (ctx F S lamplighterlaw13_awake.loops) Try.f24 [] h K = lamplighterlaw13_awake.H (ctx F S lamplighterlaw13_awake.loops)  h K := by kernel_rfl
theorem lamplighterlaw13_awake.at : Try.prog.funcs[24]? = some Try.f24 := by kernel_rfl
theorem lamplighterlaw13_awake.nm : (Try.f24.name == "runtime.NumGoroutine") = false := by kernel_rfl
theorem lamplighterlaw13_awake.bd : Try.f24.body.isNone = false := by kernel_rfl
end Lam
namespace Lam
set_option maxRecDepth 20000
open Go Go.Proofs
set_option linter.unusedVariables false
set_option linter.unnecessarySimpa false
set_option linter.unusedSimpArgs false
def N13 : List Int := wordsNd ⟨0, 1, 0, 0, [5, 5, 6]⟩
def A13 : List Int := formR ⟨1, [97], [], 0⟩
def stepsN (w : List Int) (s : Sk) : Nat → Sk
  | 0 => s
  | k + 1 => stepS w (stepsN w s k)
def s13 : Sk := ⟨0, 1, 12, [], false⟩
theorem stepS_len (w : List Int) (s : Sk) : (stepS w s).refs.length ≤ s.refs.length + 1 := by
  unfold stepS
  split
  · omega
  · unfold goOn
    simp only
    split
    · simp
    · omega
theorem stepsN_len (w : List Int) (s : Sk) : ∀ k, (stepsN w s k).refs.length ≤ s.refs.length + k
  | 0 => Nat.le_refl _
  | k + 1 => by
    have := stepsN_len w s k
    have := stepS_len w (stepsN w s k)
    unfold stepsN
    omega
theorem aw13_0 : wordsV ⟨0, 1, 0, 0, [5, 5, 6]⟩ = .tup [.sl false (.ints .i64 N13), .int .i64 0] := by unfold wordsV; rw [if_pos (by decide +kernel)]; rfl
theorem aw13_1 : beginV N13 0 = .tup [s13.V, .int .i64 0] := by
  unfold beginV
  rw [show beginO N13 0 = some s13 from by
    unfold beginO
    rw [show nodeO N13 0 = some ⟨0, 1, 0, 0, [5, 5, 6]⟩ from by decide +kernel]
    rfl]
theorem aw13_2 : beginV N13 1 = .tup [skZ.V, .int .i64 90] := by
  unfold beginV
  rw [show beginO N13 1 = none from by
    unfold beginO
    rw [show nodeO N13 1 = none from by decide +kernel]]
theorem aw13_3 : rwordsV ⟨1, [97], [], 0⟩ = .tup [.sl false (.ints .i64 A13), .int .i64 0] := by unfold rwordsV; rw [if_pos (by decide +kernel)]; rfl
theorem aw13_4 : sortR (hitsOf A13 [0, 1, 0]) = [⟨1, [97], [], 0⟩] := by decide +kernel
theorem aw13_5 : holdsB N13 0 1 = true := by
  unfold holdsB
  rw [show nodeO N13 0 = some ⟨0, 1, 0, 0, [5, 5, 6]⟩ from by decide +kernel]; rfl
theorem aw13_6 : holdsB N13 0 0 = false := by
  unfold holdsB
  rw [show nodeO N13 0 = some ⟨0, 1, 0, 0, [5, 5, 6]⟩ from by decide +kernel]; rfl
theorem aw13_7 : stepsN N13 s13 13 = ⟨0, 1, 0, [6, 5], true⟩ := by rfl
def lamplighterlaw13_awake.C : Contract
  | [] => some (false, pD True (.bool true))
  | _ => none
set_option maxRecDepth 20000 in
theorem lamplighterlaw13_awake.spec : FSpec Try.prog 24 lamplighterlaw13_awake.C := by
  refine FSpec.of (ctx_ok (F := [(35, node_Words.C), (60, rec_Words.C), (25, seek_Begin.C), (28, seek_Step.C), (33, seek_Hits.C), (30, seek_Holds.C), (20, lamplighterref02_Numbers.C)]) (S := []) (by simpa using ⟨node_Words.spec, rec_Words.spec, seek_Begin.spec, seek_Step.spec, seek_Hits.spec, seek_Holds.spec, lamplighterref02_Numbers.spec⟩) (by simp) lamplighterlaw13_awake.loops) lamplighterlaw13_awake.at lamplighterlaw13_awake.nm lamplighterlaw13_awake.bd ?_
  intro vs b S v news e hS
  unfold lamplighterlaw13_awake.C at e
  split at e
  rotate_left
  · cases e
  cases e
  rw [lamplighterlaw13_awake.eq]
  unfold lamplighterlaw13_awake.H
  simp (maxSteps := 4000000) only [go_sem, Nat.reduceEqDiff, Nat.reduceLT, Nat.reduceAdd, Nat.reduceSub, Nat.reduceLeDiff, List.reduceReplicate, Int.reduceToNat, node_Words.C, rec_Words.C, seek_Begin.C, seek_Step.C, seek_Hits.C, seek_Holds.C, lamplighterref02_Numbers.C, aw13_0, aw13_1, aw13_2, aw13_3, aw13_4]
  have rN : roomy N13.length := by unfold roomy; decide
  simp only [seek_Begin.C, aw13_0, aw13_1, s13, Sk.V, joinW_eq, guard_tt, guard_tf, guard_ft, guard_ff, Int.reduceEq, Int.reduceLT, Int.reduceLE, decide_false, decide_true, Bool.not_false, Bool.not_true, Bool.not_not, not_true_eq_false, not_false_eq_true, true_implies, false_implies, implies_true, and_true, true_and, reduceCtorEq, Bool.and_self, Bool.or_self, Bool.and_true, Bool.true_and, Bool.false_eq_true, if_true, if_false, go_sem, Nat.reduceEqDiff, Nat.reduceLT, Nat.reduceAdd, Nat.reduceSub, Nat.reduceLeDiff, List.reduceReplicate, Int.reduceToNat]
  refine ⟨rN, ?_⟩
  unfold lamplighterlaw13_awake.L1
  refine loop1 (σ := Nat) (fun k => .int .i64 k) (fun k => [.row .fro 0 (.ints .i64 [5, 5, 6]), .box (stepsN N13 s13 k).V]) (fun k => 13 - k) (fun k => k ≤ 13) 0 rfl rfl (by decide) ?_
  intro I back k hk
  by_cases hlt : k < 13
  · have hb := @back (13 - k) [.int .i64 ((k + 1 : Nat) : Int)] [.row .fro 0 (.ints .i64 [5, 5, 6]), .box (stepS N13 (stepsN N13 s13 k)).V] (k + 1) (by omega) rfl rfl (by omega)
    have hl := stepsN_len N13 s13 k
    rw [show s13.refs.length = 0 from rfl] at hl
    clear back
    generalize stepsN N13 s13 k = s at *
    obtain ⟨b, t, a, l, o⟩ := s
    simp only at hl
    have d1 : decide ((k : Int) < 13) = true := decide_eq_true (by omega)
    generalize hs : stepS N13 ⟨b, t, a, l, o⟩ = s' at *
    obtain ⟨b', t', a', l', o'⟩ := s'
    simp only [Sk.V, d1, seek_Step.C, hs, wnext (show k < 4611686018427387904 by omega), joinW_eq, guard_tt, guard_tf, guard_ft, guard_ff, Int.reduceEq, Int.reduceLT, Int.reduceLE, decide_false, decide_true, Bool.not_false, Bool.not_true, Bool.not_not, not_true_eq_false, not_false_eq_true, true_implies, false_implies, implies_true, and_true, true_and, reduceCtorEq, Bool.and_self, Bool.or_self, Bool.and_true, Bool.true_and, Bool.false_eq_true, if_true, if_false, go_sem, Nat.reduceEqDiff, Nat.reduceLT, Nat.reduceAdd, Nat.reduceSub, Nat.reduceLeDiff, List.reduceReplicate, Int.reduceToNat] at hb ⊢
    exact ⟨⟨by decide, by omega⟩, hb⟩
  · obtain rfl : k = 13 := by omega
    clear back
    rw [aw13_7]
    simp only [Sk.V, seek_Begin.C, aw13_2, seek_Hits.C, aw13_4, aw13_5, aw13_6, seek_Holds.C, skZ, lamplighterref02_Numbers.C, decide_true, decide_false, joinW_eq, guard_tt, guard_tf, guard_ft, guard_ff, Int.reduceEq, Int.reduceLT, Int.reduceLE, decide_false, decide_true, Bool.not_false, Bool.not_true, Bool.not_not, not_true_eq_false, not_false_eq_true, true_implies, false_implies, implies_true, and_true, true_and, reduceCtorEq, Bool.and_self, Bool.or_self, Bool.and_true, Bool.true_and, Bool.false_eq_true, if_true, if_false, go_sem, Nat.reduceEqDiff, Nat.reduceLT, Nat.reduceAdd, Nat.reduceSub, Nat.reduceLeDiff, List.reduceReplicate, Int.reduceToNat]
    exact ⟨rN, by unfold roomy; decide, by unfold roomy; omega, rN, rN, post_val rfl rfl⟩
end Lam
namespace Lam
open Go Go.Proofs
set_option linter.unusedVariables false
def lamplighterref10_In.loops : Nat → LInfo
  | 2 => ⟨[5], [false], [0, 1], [], [], []⟩
  | _ => ⟨[], [], [], [], [], []⟩
def lamplighterref10_In.L1 (c : Ctx) (J1 : List AObj → Prop) (K : AOut → List AObj → Prop) (lv : List AV) (h0 : List AObj) (n0 : Nat) (c0 : AV) (c1 : AV) : Prop :=
  ∃ I : Nat → List AV → List AObj → Prop, (∃ n, I n lv h0) ∧ ∀ n h, ∀ t5, I n [t5] h →
    runD (lenD T_sl_int h c0) h fun t8 h =>
    runD (binD T_int .lss t5 t8) h fun t9 h =>
    condW t9
    (runD (indexAddrD T_sl_int h c0 t5) h fun t14 h =>
    runD (fitD T_int (loadD h t14)) h fun t15 h =>
    runD (binD T_int .eql t15 c1) h fun t17 h =>
    condW t17
    (K (.ret (.bool true)) h)
    (runD (binD T_int .add t5 (.int .i64 1)) h fun t11 h =>
    (∃ m, m < n ∧ I m (AV.norms n0 h [t11]) (normH n0 h)) ∧ AV.norms n0 h [c0, c1] = [c0, c1]))
    (J1 h)
def lamplighterref10_In.H (c : Ctx) (t0 : AV) (t1 : AV) (h : List AObj) (K : AOut → List AObj → Prop) : Prop :=
  joinW (fun (J1 : List AObj → Prop) =>
  promV [false] [(.int .i64 0)] h fun lv h => lamplighterref10_In.L1 c J1 K (AV.norms h.length h lv) (normH h.length h) h.length (AV.norm h.length h t0) (AV.norm h.length h t1))
  (fun h => K (.ret (.bool false)) h)
theorem lamplighterref10_In.eq (F : List (FuncId × Contract)) (S : List (FuncId × Con)) (t0 t1 : AV) (h : List AObj) (K : AOut → List AObj → Prop) : funW (ctx F S lamplighterref10_In.loops) Try.f21 [t0, t1] h K = lamplighterref10_In.H (ctx F S lamplighterref10_In.loops) t0 t1 h K := by kernel_rfl
theorem lamplighterref10_In.at : Try.prog.funcs[21]? = some Try.f21 := by kernel_rfl
theorem lamplighterref10_In.nm : (Try.f21.name == "runtime.NumGoroutine") = false := by kernel_rfl
theorem lamplighterref10_In.bd : Try.f21.body.isNone = false := by kernel_rfl
end Lam
namespace Lam
open Go Go.Proofs
set_option linter.unusedVariables false
set_option linter.unnecessarySimpa false
set_option linter.unusedSimpArgs false
def lamplighterref10_In.C : Contract
  | [.sl _ (.ints .i64 l), .int .i64 v] => some (false, pD (roomy l.length) (.bool (decide (v ∈ l))))
  | _ => none
set_option maxRecDepth 20000 in
theorem lamplighterref10_In.spec : FSpec Try.prog 21 lamplighterref10_In.C := by
  refine FSpec.of (ctx_ok (F := []) (S := []) (by simp) (by simp) lamplighterref10_In.loops) lamplighterref10_In.at lamplighterref10_In.nm lamplighterref10_In.bd ?_
  intro vs b S v news e hS
  unfold lamplighterref10_In.C at e
  split at e
  rotate_left
  · cases e
  cases e
  rw [lamplighterref10_In.eq]
  unfold lamplighterref10_In.H
  simp (maxSteps := 4000000) only [go_sem, Nat.reduceEqDiff, Nat.reduceLT, Nat.reduceAdd, Nat.reduceSub, Nat.reduceLeDiff, List.reduceReplicate, Int.reduceToNat]
  rename_i _ l v
  rw [joinW_eq]
  unfold lamplighterref10_In.L1
  have hr := hS
  unfold roomy at hr
  refine loop1 (σ := Nat) (fun k => .int .i64 k) (fun k => []) (fun k => l.length - k) (fun k => k ≤ l.length ∧ v ∉ l.take k) 0 rfl rfl ⟨Nat.zero_le _, by simp⟩ ?_
  rintro I back k ⟨hk, hall⟩
  simp only [go_sem, Nat.reduceEqDiff, Nat.reduceLT, Nat.reduceAdd, Nat.reduceSub, Nat.reduceLeDiff, List.reduceReplicate, Int.reduceToNat]
  refine ⟨fun hlt => ⟨by omega, fun h => ?_, fun h => ?_⟩, fun hge => ?_⟩
  · have : v ∈ l := by rw [← h]; exact getD_mem l k 0 (by omega)
    rw [decide_eq_true this]; exact post_val rfl rfl
  · refine back (k + 1) (by omega) (by rw [wnext (by omega)]) rfl ⟨by omega, fun hm => ?_⟩
    rw [take_next l k 0 (by omega), List.mem_append, List.mem_singleton] at hm
    rcases hm with hm | hm
    · exact hall hm
    · exact h hm.symm
  · obtain rfl : k = l.length := by omega
    rw [List.take_length] at hall
    rw [decide_eq_false hall]; exact post_val rfl rfl
end Lam
namespace Lam
open Go Go.Proofs
set_option linter.unusedVariables false
end Lam
namespace Lam
open Go Go.Proofs
set_option linter.unusedVariables false
def lamplighterlaw13_unlike.loops : Nat → LInfo
  | 2 => ⟨[5], [false], [0, 1], [], [], []⟩
  | _ => ⟨[], [], [], [], [], []⟩
def lamplighterlaw13_unlike.L1 (c : Ctx) (J1 : List AObj → Prop) (K : AOut → List AObj → Prop) (lv : List AV) (h0 : List AObj) (n0 : Nat) (c0 : AV) (c1 : AV) : Prop :=
  ∃ I : Nat → List AV → List AObj → Prop, (∃ n, I n lv h0) ∧ ∀ n h, ∀ t5, I n [t5] h →
    runD (lenD T_sl_int h c0) h fun t8 h =>
    runD (binD T_int .lss t5 t8) h fun t9 h =>
    condW t9
    (runD (indexAddrD T_sl_int h c0 t5) h fun t14 h =>
    runD (fitD T_int (loadD h t14)) h fun t15 h =>
    runD (binD T_int .lss t15 (.int .i64 1)) h fun t16 h =>
    joinW (fun (J2 : AV → AV → List AObj → Prop) =>
    guardW t16 false
    (runD (indexAddrD T_sl_int h c0 t5) h fun t20 h =>
      runD (fitD T_int (loadD h t20)) h fun t21 h =>
      runD (binD T_int .gtr t21 (.int .i64 255)) h fun t22 h =>
      J2 (.bool false) t22 h)
    (J2 (.bool true) .und h))
    (fun t17 t22 h => runD (pickD t17 (.bool true) t22) h fun t23 h =>
    joinW (fun (J3 : AV → AV → List AObj → Prop) =>
    guardW t23 false
    (runD (indexAddrD T_sl_int h c0 t5) h fun t27 h =>
      runD (fitD T_int (loadD h t27)) h fun t28 h =>
      runD (binD T_int .eql t28 c1) h fun t30 h =>
      J3 (.bool false) t30 h)
    (J3 (.bool true) .und h))
    (fun t24 t30 h => runD (pickD t24 (.bool true) t30) h fun t31 h =>
    joinW (fun (J4 : AV → AV → List AObj → Prop) =>
    guardW t31 false
    (runD (sliceD T_sl_int h c0 none (some t5) none) h fun t35 h =>
      runD (indexAddrD T_sl_int h c0 t5) h fun t38 h =>
      runD (fitD T_int (loadD h t38)) h fun t39 h =>
      callW false c.noS (.fn (.func 21) [] []) [t35, t39] h (fun t40 h =>
      J4 (.bool false) t40 h)
      (fun _ _ => False))
    (J4 (.bool true) .und h))
    (fun t32 t40 h => runD (pickD t32 (.bool true) t40) h fun t41 h =>
    condW t41
    (K (.ret (.bool false)) h)
    (runD (binD T_int .add t5 (.int .i64 1)) h fun t11 h =>
    (∃ m, m < n ∧ I m (AV.norms n0 h [t11]) (normH n0 h)) ∧ AV.norms n0 h [c0, c1] = [c0, c1])))))
    (J1 h)
def lamplighterlaw13_unlike.H (c : Ctx) (t0 : AV) (t1 : AV) (h : List AObj) (K : AOut → List AObj → Prop) : Prop :=
  joinW (fun (J1 : List AObj → Prop) =>
  promV [false] [(.int .i64 0)] h fun lv h => lamplighterlaw13_unlike.L1 c J1 K (AV.norms h.length h lv) (normH h.length h) h.length (AV.norm h.length h t0) (AV.norm h.length h t1))
  (fun h => K (.ret (.bool true)) h)
theorem lamplighterlaw13_unlike.eq (F : List (FuncId × Contract)) (S : List (FuncId × Con)) (t0 t1 : AV) (h : List AObj) (K : AOut → List AObj → Prop) : funW (ctx F S lamplighterlaw13_unlike.loops) Try.f38 [t0, t1] h K = lamplighterlaw13_unlike.H (ctx F S lamplighterlaw13_unlike.loops) t0 t1 h K := by kernel_rfl
theorem lamplighterlaw13_unlike.at : Try.prog.funcs[38]? = some Try.f38 := by kernel_rfl
theorem lamplighterlaw13_unlike.nm : (Try.f38.name == "runtime.NumGoroutine") = false := by kernel_rfl
theorem lamplighterlaw13_unlike.bd : Try.f38.body.isNone = false := by kernel_rfl
end Lam
