/- What functions of the program come to, each proved from its code. -/
import Derived.Test.YtmbmfnmjjelmkaaLm6
namespace Lam
open Go Go.Proofs
set_option linter.unusedVariables false
set_option linter.unnecessarySimpa false
set_option linter.unusedSimpArgs false
def notX (x y : Int) : Bool := !decide (y = x)
def amongB : List Int → List Int → Bool
  | [], _ => true
  | x :: l, all => match all.dropWhile (notX x) with
    | [] => false
    | _ :: r => amongB l r
theorem dw_next {all : List Int} {k : Nat} {x : Int} (hk : k < all.length) : (all.drop k).dropWhile (notX x) = if all.getD k 0 = x then all.drop k else (all.drop (k + 1)).dropWhile (notX x) := by
  rw [drop_cons all k 0 hk, List.dropWhile_cons]
  unfold notX
  by_cases h : all.getD k 0 = x
  · simp [h]
  · simp [h]
theorem among_sub : ∀ {l all : List Int}, l.Sublist all → amongB l all = true
  | [], _, _ => rfl
  | x :: l, [], h => by cases h
  | x :: l, y :: all, h => by
    unfold amongB
    rw [List.dropWhile_cons]
    by_cases e : y = x
    · subst e
      have : l.Sublist all := by
        cases h with
        | cons _ h => exact (List.sublist_cons_self _ _).trans h
        | cons_cons _ h => exact h
      simp only [notX, decide_true, Bool.not_true, if_false]
      exact among_sub this
    · have h' : (x :: l).Sublist all := by
        cases h with
        | cons _ h => exact h
        | cons_cons _ h => exact absurd rfl e
      have := among_sub h'
      unfold amongB at this
      simp only [notX, e, decide_false, Bool.not_false, if_true]
      exact this
def lamplighterlaw13_among.C : Contract
  | [.sl _ (.ints .i64 l), .sl _ (.ints .i64 all)] => some (false, pD (roomy l.length ∧ roomy all.length) (.bool (amongB l all)))
  | _ => none
set_option maxRecDepth 20000 in
theorem lamplighterlaw13_among.spec : FSpec Try.prog 42 lamplighterlaw13_among.C := by
  refine FSpec.of (ctx_ok (F := []) (S := []) (by simp) (by simp) lamplighterlaw13_among.loops) lamplighterlaw13_among.at lamplighterlaw13_among.nm lamplighterlaw13_among.bd ?_
  intro vs b S v news e hS
  unfold lamplighterlaw13_among.C at e
  split at e
  rotate_left
  · cases e
  cases e
  rw [lamplighterlaw13_among.eq]
  unfold lamplighterlaw13_among.H
  simp (maxSteps := 4000000) only [go_sem, Nat.reduceEqDiff, Nat.reduceLT, Nat.reduceAdd, Nat.reduceSub, Nat.reduceLeDiff, List.reduceReplicate, Int.reduceToNat]
  rename_i _ l _ all
  obtain ⟨hr1, hr2⟩ := hS
  unfold roomy at hr1 hr2
  rw [joinW_eq]
  unfold lamplighterlaw13_among.L1
  refine loop2 (σ := Nat × Nat) (fun s => .int .i64 s.1) (fun s => .int .i64 s.2) (fun s => []) (fun s => l.length - s.2) (fun s => s.1 ≤ all.length ∧ s.2 ≤ l.length ∧ amongB l all = amongB (l.drop s.2) (all.drop s.1)) (0, 0) rfl rfl ⟨Nat.zero_le _, Nat.zero_le _, by simp⟩ ?_
  rintro I back ⟨k, i⟩ ⟨hk, hi, he⟩
  simp only at hk hi he ⊢
  by_cases hil : i < l.length
  · have d1 : decide ((i : Int) < (l.length : Int)) = true := decide_eq_true (by omega)
    rw [drop_cons l i 0 hil] at he
    simp only [joinW_eq, joinW_eq, guard_tt, guard_tf, guard_ft, guard_ff, Int.reduceEq, Int.reduceLT, Int.reduceLE, decide_false, decide_true, Bool.not_false, Bool.not_true, Bool.not_not, not_true_eq_false, not_false_eq_true, true_implies, false_implies, implies_true, and_true, true_and, reduceCtorEq, Bool.and_self, Bool.or_self, Bool.and_true, Bool.true_and, Bool.false_eq_true, if_true, if_false, go_sem, Nat.reduceEqDiff, Nat.reduceLT, Nat.reduceAdd, Nat.reduceSub, Nat.reduceLeDiff, List.reduceReplicate, Int.reduceToNat]
    refine ⟨fun _ => ?_, fun h => absurd h (by omega)⟩
    unfold lamplighterlaw13_among.L2
    refine loop1 (σ := Nat) (fun k => .int .i64 k) (fun s => []) (fun k => all.length - k) (fun j => j ≤ all.length ∧ (all.drop k).dropWhile (notX (l.getD i 0)) = (all.drop j).dropWhile (notX (l.getD i 0))) k rfl rfl ⟨hk, rfl⟩ ?_
    rintro I2 back2 j ⟨hj, hd⟩
    by_cases hjl : j < all.length
    · have d2 : decide ((j : Int) < (all.length : Int)) = true := decide_eq_true (by omega)
      have hnx := dw_next (x := l.getD i 0) hjl
      by_cases hx : all.getD j 0 = l.getD i 0
      · rw [if_pos hx] at hnx
        have hne : ¬ (j : Int) = (all.length : Int) := by omega
        simp only [joinW_eq, d2, hx, hne, decide_true, decide_false, joinW_eq, guard_tt, guard_tf, guard_ft, guard_ff, Int.reduceEq, Int.reduceLT, Int.reduceLE, decide_false, decide_true, Bool.not_false, Bool.not_true, Bool.not_not, not_true_eq_false, not_false_eq_true, true_implies, false_implies, implies_true, and_true, true_and, reduceCtorEq, Bool.and_self, Bool.or_self, Bool.and_true, Bool.true_and, Bool.false_eq_true, if_true, if_false, go_sem, Nat.reduceEqDiff, Nat.reduceLT, Nat.reduceAdd, Nat.reduceSub, Nat.reduceLeDiff, List.reduceReplicate, Int.reduceToNat]
        refine ⟨⟨by omega, by omega⟩, ⟨by omega, by omega⟩, ?_⟩
        refine back (j + 1, i + 1) (by simp only; omega) (by simp only; rw [wnext (by omega), wnext (by omega)]) rfl ⟨by simp only; omega, by simp only; omega, ?_⟩
        rw [he]
        simp only [amongB, hd, hnx]
        rw [drop_cons all j 0 hjl]
      · rw [if_neg hx] at hnx
        simp only [joinW_eq, d2, hx, decide_false, joinW_eq, guard_tt, guard_tf, guard_ft, guard_ff, Int.reduceEq, Int.reduceLT, Int.reduceLE, decide_false, decide_true, Bool.not_false, Bool.not_true, Bool.not_not, not_true_eq_false, not_false_eq_true, true_implies, false_implies, implies_true, and_true, true_and, reduceCtorEq, Bool.and_self, Bool.or_self, Bool.and_true, Bool.true_and, Bool.false_eq_true, if_true, if_false, go_sem, Nat.reduceEqDiff, Nat.reduceLT, Nat.reduceAdd, Nat.reduceSub, Nat.reduceLeDiff, List.reduceReplicate, Int.reduceToNat]
        refine ⟨⟨by omega, by omega⟩, ⟨by omega, by omega⟩, ?_⟩
        exact back2 (j + 1) (by omega) (by rw [wnext (by omega)]) rfl ⟨by omega, by rw [hd, hnx]⟩
    · obtain rfl : j = all.length := by omega
      have d2 : decide ((all.length : Int) < (all.length : Int)) = false := decide_eq_false (by omega)
      have hf : amongB l all = false := by
        rw [he]
        simp only [amongB, hd, List.drop_length, List.dropWhile_nil]
      simp only [joinW_eq, d2, decide_true, hf, joinW_eq, guard_tt, guard_tf, guard_ft, guard_ff, Int.reduceEq, Int.reduceLT, Int.reduceLE, decide_false, decide_true, Bool.not_false, Bool.not_true, Bool.not_not, not_true_eq_false, not_false_eq_true, true_implies, false_implies, implies_true, and_true, true_and, reduceCtorEq, Bool.and_self, Bool.or_self, Bool.and_true, Bool.true_and, Bool.false_eq_true, if_true, if_false, go_sem, Nat.reduceEqDiff, Nat.reduceLT, Nat.reduceAdd, Nat.reduceSub, Nat.reduceLeDiff, List.reduceReplicate, Int.reduceToNat]
      exact post_val rfl rfl
  · obtain rfl : i = l.length := by omega
    have hf : amongB l all = true := by rw [he, List.drop_length]; rfl
    simp only [hf, joinW_eq, guard_tt, guard_tf, guard_ft, guard_ff, Int.reduceEq, Int.reduceLT, Int.reduceLE, decide_false, decide_true, Bool.not_false, Bool.not_true, Bool.not_not, not_true_eq_false, not_false_eq_true, true_implies, false_implies, implies_true, and_true, true_and, reduceCtorEq, Bool.and_self, Bool.or_self, Bool.and_true, Bool.true_and, Bool.false_eq_true, if_true, if_false, go_sem, Nat.reduceEqDiff, Nat.reduceLT, Nat.reduceAdd, Nat.reduceSub, Nat.reduceLeDiff, List.reduceReplicate, Int.reduceToNat]
    exact ⟨fun h => absurd h (by omega), fun _ => post_val rfl rfl⟩
/-- slots that are blocks, unlike one another and another one -/
def u13 (l : List Int) (ref : Int) : Bool := l.all (fun x => decide (1 ≤ x) && decide (x ≤ 255) && !decide (x = ref)) && decide l.Nodup
theorem u13_iff {l : List Int} {ref : Int} : u13 l ref = true ↔ (∀ x ∈ l, 1 ≤ x ∧ x ≤ 255 ∧ x ≠ ref) ∧ l.Nodup := by
  unfold u13
  simp only [Bool.and_eq_true, List.all_eq_true, decide_eq_true_eq, Bool.not_eq_true', decide_eq_false_iff_not, and_assoc]
theorem u13_no {l : List Int} {ref : Int} {k : Nat} (hk : k < l.length) (h : l.getD k 0 < 1 ∨ 255 < l.getD k 0 ∨ l.getD k 0 = ref ∨ l.getD k 0 ∈ l.take k) : u13 l ref = false := by
  rw [Bool.eq_false_iff]
  intro hu
  obtain ⟨h1, h2⟩ := u13_iff.1 hu
  have := h1 _ (getD_mem l k 0 hk)
  rcases h with h | h | h | h
  · omega
  · omega
  · exact this.2.2 h
  · obtain ⟨j, hj, e⟩ := List.getElem_of_mem h
    rw [List.length_take] at hj
    rw [List.getElem_take] at e
    have hp := List.pairwise_iff_getElem.1 h2 j k (by omega) hk (by omega)
    apply hp
    rw [e, List.getD_eq_getElem?_getD, List.getElem?_eq_getElem hk]; rfl
def lamplighterlaw13_unlike.C : Contract
  | [.sl _ (.ints .i64 l), .int .i64 ref] => some (false, pD (roomy l.length) (.bool (u13 l ref)))
  | _ => none
set_option maxRecDepth 20000 in
theorem lamplighterlaw13_unlike.spec : FSpec Try.prog 38 lamplighterlaw13_unlike.C := by
  refine FSpec.of (ctx_ok (F := [(21, lamplighterref10_In.C)]) (S := []) (by simpa using lamplighterref10_In.spec) (by simp) lamplighterlaw13_unlike.loops) lamplighterlaw13_unlike.at lamplighterlaw13_unlike.nm lamplighterlaw13_unlike.bd ?_
  intro vs b S v news e hS
  unfold lamplighterlaw13_unlike.C at e
  split at e
  rotate_left
  · cases e
  cases e
  rw [lamplighterlaw13_unlike.eq]
  unfold lamplighterlaw13_unlike.H
  simp (maxSteps := 4000000) only [go_sem, Nat.reduceEqDiff, Nat.reduceLT, Nat.reduceAdd, Nat.reduceSub, Nat.reduceLeDiff, List.reduceReplicate, Int.reduceToNat, lamplighterref10_In.C]
  rename_i _ l ref
  have hr := hS
  unfold roomy at hr
  rw [joinW_eq]
  unfold lamplighterlaw13_unlike.L1
  refine loop1 (σ := Nat) (fun k => .int .i64 k) (fun k => []) (fun k => l.length - k) (fun k => k ≤ l.length ∧ u13 (l.take k) ref = true) 0 rfl rfl ⟨Nat.zero_le _, by simp [u13]⟩ ?_
  rintro I back k ⟨hk, hu⟩
  by_cases hkl : k < l.length
  · have d0 : decide ((k : Int) < (l.length : Int)) = true := decide_eq_true (by omega)
    have hrk : roomy (l.take k).length := by unfold roomy; rw [List.length_take]; omega
    by_cases h1 : l.getD k 0 < 1
    · have hf := u13_no (ref := ref) hkl (.inl h1)
      simp only [joinW_eq, h1, hf, lamplighterref10_In.C, decide_true, joinW_eq, guard_tt, guard_tf, guard_ft, guard_ff, Int.reduceEq, Int.reduceLT, Int.reduceLE, decide_false, decide_true, Bool.not_false, Bool.not_true, Bool.not_not, not_true_eq_false, not_false_eq_true, true_implies, false_implies, implies_true, and_true, true_and, reduceCtorEq, Bool.and_self, Bool.or_self, Bool.and_true, Bool.true_and, Bool.false_eq_true, if_true, if_false, go_sem, Nat.reduceEqDiff, Nat.reduceLT, Nat.reduceAdd, Nat.reduceSub, Nat.reduceLeDiff, List.reduceReplicate, Int.reduceToNat]
      exact ⟨fun _ => ⟨⟨by omega, by omega⟩, post_val rfl rfl⟩, fun h => absurd h (by omega)⟩
    · by_cases h2 : 255 < l.getD k 0
      · have hf := u13_no (ref := ref) hkl (.inr (.inl h2))
        simp only [joinW_eq, h1, h2, hf, lamplighterref10_In.C, decide_true, decide_false, joinW_eq, guard_tt, guard_tf, guard_ft, guard_ff, Int.reduceEq, Int.reduceLT, Int.reduceLE, decide_false, decide_true, Bool.not_false, Bool.not_true, Bool.not_not, not_true_eq_false, not_false_eq_true, true_implies, false_implies, implies_true, and_true, true_and, reduceCtorEq, Bool.and_self, Bool.or_self, Bool.and_true, Bool.true_and, Bool.false_eq_true, if_true, if_false, go_sem, Nat.reduceEqDiff, Nat.reduceLT, Nat.reduceAdd, Nat.reduceSub, Nat.reduceLeDiff, List.reduceReplicate, Int.reduceToNat]
        exact ⟨fun _ => ⟨⟨by omega, by omega⟩, ⟨by omega, by omega⟩, post_val rfl rfl⟩, fun h => absurd h (by omega)⟩
      · by_cases h3 : l.getD k 0 = ref
        · have hf := u13_no (ref := ref) hkl (.inr (.inr (.inl h3)))
          have e1 : decide (ref < 1) = false := decide_eq_false (by omega)
          have e2 : decide (255 < ref) = false := decide_eq_false (by omega)
          simp only [joinW_eq, h3, e1, e2, hf, lamplighterref10_In.C, decide_true, decide_false, joinW_eq, guard_tt, guard_tf, guard_ft, guard_ff, Int.reduceEq, Int.reduceLT, Int.reduceLE, decide_false, decide_true, Bool.not_false, Bool.not_true, Bool.not_not, not_true_eq_false, not_false_eq_true, true_implies, false_implies, implies_true, and_true, true_and, reduceCtorEq, Bool.and_self, Bool.or_self, Bool.and_true, Bool.true_and, Bool.false_eq_true, if_true, if_false, go_sem, Nat.reduceEqDiff, Nat.reduceLT, Nat.reduceAdd, Nat.reduceSub, Nat.reduceLeDiff, List.reduceReplicate, Int.reduceToNat]
          exact ⟨fun _ => ⟨⟨by omega, by omega⟩, ⟨by omega, by omega⟩, ⟨by omega, by omega⟩, post_val rfl rfl⟩, fun h => absurd h (by omega)⟩
        · by_cases h4 : l.getD k 0 ∈ l.take k
          · have hf := u13_no (ref := ref) hkl (.inr (.inr (.inr h4)))
            simp only [joinW_eq, h1, h2, h3, h4, hf, lamplighterref10_In.C, decide_true, decide_false, joinW_eq, guard_tt, guard_tf, guard_ft, guard_ff, Int.reduceEq, Int.reduceLT, Int.reduceLE, decide_false, decide_true, Bool.not_false, Bool.not_true, Bool.not_not, not_true_eq_false, not_false_eq_true, true_implies, false_implies, implies_true, and_true, true_and, reduceCtorEq, Bool.and_self, Bool.or_self, Bool.and_true, Bool.true_and, Bool.false_eq_true, if_true, if_false, go_sem, Nat.reduceEqDiff, Nat.reduceLT, Nat.reduceAdd, Nat.reduceSub, Nat.reduceLeDiff, List.reduceReplicate, Int.reduceToNat]
            exact ⟨fun _ => ⟨⟨by omega, by omega⟩, ⟨by omega, by omega⟩, ⟨by omega, by omega⟩, ⟨by omega, by omega⟩, ⟨by omega, by omega⟩, hrk, post_val rfl rfl⟩, fun h => absurd h (by omega)⟩
          · have hn : u13 (l.take (k + 1)) ref = true := by
              obtain ⟨a, b⟩ := u13_iff.1 hu
              rw [take_next l k 0 hkl, u13_iff]
              refine ⟨fun x hx => ?_, ?_⟩
              · rcases List.mem_append.1 hx with hx | hx
                · exact a x hx
                · rw [List.mem_singleton] at hx; subst hx; exact ⟨by omega, by omega, h3⟩
              · rw [List.nodup_append]
                refine ⟨b, by simp, fun x hx y hy => ?_⟩
                rw [List.mem_singleton] at hy; subst hy
                rintro rfl
                exact h4 hx
            simp only [joinW_eq, h1, h2, h3, h4, lamplighterref10_In.C, decide_true, decide_false, joinW_eq, guard_tt, guard_tf, guard_ft, guard_ff, Int.reduceEq, Int.reduceLT, Int.reduceLE, decide_false, decide_true, Bool.not_false, Bool.not_true, Bool.not_not, not_true_eq_false, not_false_eq_true, true_implies, false_implies, implies_true, and_true, true_and, reduceCtorEq, Bool.and_self, Bool.or_self, Bool.and_true, Bool.true_and, Bool.false_eq_true, if_true, if_false, go_sem, Nat.reduceEqDiff, Nat.reduceLT, Nat.reduceAdd, Nat.reduceSub, Nat.reduceLeDiff, List.reduceReplicate, Int.reduceToNat]
            exact ⟨fun _ => ⟨⟨by omega, by omega⟩, ⟨by omega, by omega⟩, ⟨by omega, by omega⟩, ⟨by omega, by omega⟩, ⟨by omega, by omega⟩, hrk, back (k + 1) (by omega) (by rw [wnext (by omega)]) rfl ⟨by omega, hn⟩⟩, fun h => absurd h (by omega)⟩
  · obtain rfl : k = l.length := by omega
    rw [List.take_length] at hu
    simp only [hu, joinW_eq, guard_tt, guard_tf, guard_ft, guard_ff, Int.reduceEq, Int.reduceLT, Int.reduceLE, decide_false, decide_true, Bool.not_false, Bool.not_true, Bool.not_not, not_true_eq_false, not_false_eq_true, true_implies, false_implies, implies_true, and_true, true_and, reduceCtorEq, Bool.and_self, Bool.or_self, Bool.and_true, Bool.true_and, Bool.false_eq_true, if_true, if_false, go_sem, Nat.reduceEqDiff, Nat.reduceLT, Nat.reduceAdd, Nat.reduceSub, Nat.reduceLeDiff, List.reduceReplicate, Int.reduceToNat]
    exact ⟨fun h => absurd h (by omega), fun _ => post_val rfl rfl⟩
end Lam
namespace Lam
open Go Go.Proofs
set_option linter.unusedVariables false
def lamplighterref06_Without.loops : Nat → LInfo
  | _ => ⟨[], [], [], [], [], []⟩
def lamplighterref06_Without.H (c : Ctx) (t0 : AV) (t1 : AV) (h : List AObj) (K : AOut → List AObj → Prop) : Prop :=
  runD (buildSliceD T_sl_int 0 [] h.length) h fun t5 h =>
  runD (sliceD T_sl_int h t0 none (some t1) none) h fun t8 h =>
  runDM (appendD T_sl_int h t5 t8 h.length) (appendH T_sl_int h t5 t8) h fun t9 h =>
  runD (binD T_int .add t1 (.int .i64 1)) h fun t12 h =>
  runD (sliceD T_sl_int h t0 (some t12) none none) h fun t13 h =>
  runDM (appendD T_sl_int h t9 t13 h.length) (appendH T_sl_int h t9 t13) h fun t14 h =>
  sepB t5 [t0, t12] = true ∧ K (.ret t14) h
theorem lamplighterref06_Without.eq (F : List (FuncId × Contract)) (S : List (FuncId × Con)) (t0 t1 : AV) (h : List AObj) (K : AOut → List AObj → Prop) : funW (ctx F S lamplighterref06_Without.loops) Try.f43 [t0, t1] h K = lamplighterref06_Without.H (ctx F S lamplighterref06_Without.loops) t0 t1 h K := by kernel_rfl
theorem lamplighterref06_Without.at : Try.prog.funcs[43]? = some Try.f43 := by kernel_rfl
theorem lamplighterref06_Without.nm : (Try.f43.name == "runtime.NumGoroutine") = false := by kernel_rfl
theorem lamplighterref06_Without.bd : Try.f43.body.isNone = false := by kernel_rfl
end Lam
namespace Lam
open Go Go.Proofs
set_option linter.unusedVariables false
set_option linter.unnecessarySimpa false
set_option linter.unusedSimpArgs false
def lamplighterref06_Without.C : Contract
  | [.sl _ (.ints .i64 l), .int .i64 p] => some (false, pD (roomy l.length ∧ 0 ≤ p ∧ p < (l.length : Int) ∧ l.length ≤ 1000) (.sl false (.ints .i64 (withoutL l p.toNat))))
  | _ => none
set_option maxRecDepth 20000 in
theorem lamplighterref06_Without.spec : FSpec Try.prog 43 lamplighterref06_Without.C := by
  refine FSpec.of (ctx_ok (F := []) (S := []) (by simp) (by simp) lamplighterref06_Without.loops) lamplighterref06_Without.at lamplighterref06_Without.nm lamplighterref06_Without.bd ?_
  intro vs b S v news e hS
  unfold lamplighterref06_Without.C at e
  split at e
  rotate_left
  · cases e
  cases e
  rw [lamplighterref06_Without.eq]
  unfold lamplighterref06_Without.H
  simp (maxSteps := 4000000) only [go_sem, Nat.reduceEqDiff, Nat.reduceLT, Nat.reduceAdd, Nat.reduceSub, Nat.reduceLeDiff, List.reduceReplicate, Int.reduceToNat]
  rename_i l p
  obtain ⟨hr, h0, h1, h2⟩ := hS
  have e1 : (IntKind.i64.wrap (p + 1)).toNat = p.toNat + 1 := by rw [w64 (by omega) (by omega)]; omega
  have e : l.take p.toNat ++ (l.drop (p.toNat + 1)).take (l.length - (p.toNat + 1)) = withoutL l p.toNat := by
    rw [take_len (l.drop (p.toNat + 1)) (by simp)]; rfl
  have hlen := without_len l (p := p.toNat) (by omega)
  rw [e1, e, hlen, w64 (n := p + 1) (by omega) (by omega)]
  refine ⟨⟨h0, by omega⟩, by unfold roomy; simp; omega, ⟨by omega, by omega⟩, by unfold roomy; omega, rfl, post_val ?_ rfl⟩
  simp only [go_sem, Nat.reduceEqDiff, Nat.reduceLT, Nat.reduceAdd, Nat.reduceSub, Nat.reduceLeDiff, List.reduceReplicate, Int.reduceToNat]
  rw [take_len _ (Nat.le_of_eq hlen)]
end Lam
namespace Lam
open Go Go.Proofs
set_option linter.unusedVariables false
def lamplighterlaw13_SeekDeletes.loops : Nat → LInfo
  | 2 => ⟨[], [], [], [(4, none), (3, some [24, 27]), (2, none), (3, some [29, 32])], [], []⟩
  | 6 => ⟨[], [], [], [(3, none), (2, some [53, 55])], [], []⟩
  | 12 => ⟨[18, 19], [true, false], [0, 1, 9, 16, 17], [], [], []⟩
  | 15 => ⟨[], [], [], [(2, none), (1, some [89, 90]), (2, none), (5, some [92, 97]), (2, none), (3, some [99, 102])], [], []⟩
  | _ => ⟨[], [], [], [], [], []⟩
def lamplighterlaw13_SeekDeletes.L1 (c : Ctx) (J4 : AV → AV → AV → AV → AV → List AObj → Prop) (K : AOut → List AObj → Prop) (lv : List AV) (h0 : List AObj) (n0 : Nat) (c0 : AV) (c1 : AV) (c9 : AV) (c16 : AV) (c17 : AV) : Prop :=
  ∃ I : Nat → List AV → List AObj → Prop, (∃ n, I n lv h0) ∧ ∀ n h, ∀ t18, ∀ t19, I n [t18, t19] h →
    runD (binD T_int .geq t19 (.int .i64 0)) h fun t77 h =>
    condW t77
    (runD (fieldAddrD T_api_Seek c16 3) h fun t81 h =>
    runD (fitD T_sl_int (loadD h t81)) h fun t82 h =>
    runD (indexAddrD T_sl_int h t82 t19) h fun t84 h =>
    runD (fitD T_int (loadD h t84)) h fun t85 h =>
    runD (buildSliceD T_sl_int 1 [(0, t85)] h.length) h fun t86 h =>
    runDM (appendD T_sl_int h t18 t86 h.length) (appendH T_sl_int h t18 t86) h fun t87 h =>
    runD (binD T_int .sub t19 (.int .i64 1)) h fun t79 h =>
    (∃ m, m < n ∧ I m (AV.norms n0 h [t87, t79]) (normH n0 h)) ∧ AV.norms n0 h [c0, c1, c9, c16, c17] = [c0, c1, c9, c16, c17])
    (J4 c0 c1 c9 c17 t18 h)
def lamplighterlaw13_SeekDeletes.H (c : Ctx) (t0 : AV) (t1 : AV) (t2 : AV) (t3 : AV) (h : List AObj) (K : AOut → List AObj → Prop) : Prop :=
  callW false c (.fn (.func 24) [] []) [] h (fun t20 h =>
  runD (lenD T_sl_int h t0) h fun t22 h =>
  runD (binD T_int .gtr t22 (.int .i64 20)) h fun t23 h =>
  joinW (fun (J1 : AV → AV → List AObj → Prop) =>
  guardW t23 false
  (runD (lenD T_sl_bool h t3) h fun t26 h =>
    runD (binD T_int .gtr t26 (.int .i64 60)) h fun t27 h =>
    J1 (.bool false) t27 h)
  (J1 (.bool true) .und h))
  (fun t24 t27 h => runD (pickD t24 (.bool true) t27) h fun t28 h =>
  joinW (fun (J2 : AV → AV → List AObj → Prop) =>
  guardW t28 false
  (callW false c (.fn (.func 38) [] []) [t0, (.int .i64 0)] h (fun t31 h =>
    runD (unD .not t31) h fun t32 h =>
    J2 (.bool false) t32 h)
    (fun v h => K (.pan v) h))
  (J2 (.bool true) .und h))
  (fun t29 t32 h => runD (pickD t29 (.bool true) t32) h fun t33 h =>
  condW t33
  (K (.ret t20) h)
  (runD (convD h T_uint8 T_int t2) h fun t37 h =>
  runD (binD T_int .mul (.int .i64 2) t37) h fun t38 h =>
  runD (binD T_int .add t38 (.int .i64 1)) h fun t39 h =>
  runD (buildD T_api_Node [(1, t39), (4, t0)]) h fun t41 h =>
  callW false c (.fn (.func 35) [] []) [t41] h (fun t42 h =>
  runD (extractD t42 0) h fun t43 h =>
  runD (extractD t42 1) h fun t44 h =>
  callW false c (.fn (.func 39) [] []) [(.int .i64 16), t0, t1] h (fun t48 h =>
  runD (extractD t48 0) h fun t49 h =>
  runD (extractD t48 1) h fun t50 h =>
  runD (binD T_api_Errno .neq t44 (.int .i64 0)) h fun t52 h =>
  joinW (fun (J3 : AV → AV → List AObj → Prop) =>
  guardW t52 false
  (runD (binD T_api_Errno .neq t50 (.int .i64 0)) h fun t55 h =>
    J3 (.bool false) t55 h)
  (J3 (.bool true) .und h))
  (fun t53 t55 h => runD (pickD t53 (.bool true) t55) h fun t56 h =>
  condW t56
  (K (.ret t20) h)
  (runD (makeSliceD T_sl_int (.int .i64 16) (.int .i64 16) h.length) h fun t59 h =>
  runDM (appendD T_sl_int h t59 t43 h.length) (appendH T_sl_int h t59 t43) h fun t61 h =>
  callW false c (.fn (.func 40) [] []) [t61] h (fun t62 h =>
  runD (extractD t62 0) h fun t63 h =>
  runD (extractD t62 1) h fun t64 h =>
  allocW T_api_Mem h fun t14 h =>
  runH (storeH T_api_Mem h t14 t63) h fun _ h =>
  runD (fitD T_api_Mem (loadD h t14)) h fun t66 h =>
  callW false c (.fn (.func 41) [] []) [t66, t49, t3] h (fun t69 h =>
  runD (extractD t69 0) h fun t70 h =>
  runD (extractD t69 1) h fun t71 h =>
  allocW T_api_Seek h fun t16 h =>
  runH (storeH T_api_Seek h t16 t70) h fun _ h =>
  runD (fieldAddrD T_api_Seek t16 3) h fun t72 h =>
  runD (fitD T_sl_int (loadD h t72)) h fun t73 h =>
  runD (lenD T_sl_int h t73) h fun t74 h =>
  runD (binD T_int .sub t74 (.int .i64 1)) h fun t75 h =>
  joinW (fun (J4 : AV → AV → AV → AV → AV → List AObj → Prop) =>
  promV [true, false] [(.sl true (.ints .i64 [])), t75] h fun lv h => lamplighterlaw13_SeekDeletes.L1 c J4 K (AV.norms h.length h lv) (normH h.length h) h.length (AV.norm h.length h t0) (AV.norm h.length h t1) (AV.norm h.length h t20) (AV.norm h.length h t16) (AV.norm h.length h t71))
  (fun t0 t1 t9 t17 t18 h => joinW (fun (J5 : AV → AV → List AObj → Prop) =>
  guardW t9 true
  (J5 (.bool true) t17 h)
  (J5 (.bool false) .und h))
  (fun t89 t90 h => runD (pickD t89 t90 (.bool false)) h fun t91 h =>
  joinW (fun (J6 : AV → AV → List AObj → Prop) =>
  guardW t91 true
  (callW false c (.fn (.func 43) [] []) [t0, t1] h (fun t95 h =>
    callW false c (.fn (.func 42) [] []) [t95, t18] h (fun t97 h =>
    J6 (.bool true) t97 h)
    (fun v h => K (.pan v) h))
    (fun v h => K (.pan v) h))
  (J6 (.bool false) .und h))
  (fun t92 t97 h => runD (pickD t92 t97 (.bool false)) h fun t98 h =>
  joinW (fun (J7 : AV → AV → List AObj → Prop) =>
  guardW t98 true
  (callW false c (.fn (.func 42) [] []) [t18, t0] h (fun t102 h =>
    J7 (.bool true) t102 h)
    (fun v h => K (.pan v) h))
  (J7 (.bool false) .und h))
  (fun t99 t102 h => runD (pickD t99 t102 (.bool false)) h fun t103 h =>
  K (.ret t103) h)))))
  (fun v h => K (.pan v) h))
  (fun v h => K (.pan v) h))))
  (fun v h => K (.pan v) h))
  (fun v h => K (.pan v) h)))))
  (fun v h => K (.pan v) h)
theorem lamplighterlaw13_SeekDeletes.eq (F : List (FuncId × Contract)) (S : List (FuncId × Con)) (t0 t1 t2 t3 : AV) (h : List AObj) (K : AOut → List AObj → Prop) : funW (ctx F S lamplighterlaw13_SeekDeletes.loops) Try.f12 [t0, t1, t2, t3] h K = lamplighterlaw13_SeekDeletes.H (ctx F S lamplighterlaw13_SeekDeletes.loops) t0 t1 t2 t3 h K := by kernel_rfl
end Lam
namespace Lam
open Go Go.Proofs
set_option linter.unusedVariables false
set_option linter.unnecessarySimpa false
set_option linter.unusedSimpArgs false
abbrev SeekDeletes_ctx : Ctx := ctx [(24, lamplighterlaw13_awake.C), (38, lamplighterlaw13_unlike.C), (41, lamplighterlaw13_mixed.C), (42, lamplighterlaw13_among.C), (35, node_Words.C), (39, fast_Delete.C), (40, pmem_New.C), (43, lamplighterref06_Without.C)] [] lamplighterlaw13_SeekDeletes.loops
set_option maxRecDepth 20000 in
set_option maxHeartbeats 1000000 in
theorem SeekDeletes_vc (l : List Int) (pos : Int) (turn : Int) (picks : List Bool) (w_l : wfL (.ints .i64 l)) (n_l : l.length ≤ maxLen) (w_pos : (Lit.int .i64 pos).wf = true) (w_turn : (Lit.int .u8 turn).wf = true) (w_picks : wfL (.bools picks)) (n_picks : picks.length ≤ maxLen) : lamplighterlaw13_SeekDeletes.H SeekDeletes_ctx (.sl false (.ints .i64 l)) (.int .i64 pos) (.int .u8 turn) (.sl false (.bools picks)) [] Told := by
  unfold lamplighterlaw13_SeekDeletes.H
  simp (maxSteps := 4000000) only [go_sem, Nat.reduceEqDiff, Nat.reduceLT, Nat.reduceAdd, Nat.reduceSub, Nat.reduceLeDiff, List.reduceReplicate, Int.reduceToNat, lamplighterlaw13_awake.C, lamplighterlaw13_unlike.C, lamplighterlaw13_mixed.C, lamplighterlaw13_among.C, node_Words.C, fast_Delete.C, pmem_New.C, lamplighterref06_Without.C]
  have htn := wf_u8 w_turn
  have et : IntKind.i64.wrap (IntKind.i64.wrap (2 * IntKind.i64.wrap turn) + 1) = 2 * turn + 1 := by rw [w64 (n := turn) (by omega) (by omega), w64 (n := 2 * turn) (by omega) (by omega)]; exact w64 (by omega) (by omega)
  refine ⟨fun h => ?_, fun _ => rfl, fun hg => ?_⟩
  · simp only [Bool.or_eq_false_iff, decide_eq_false_iff_not] at h
    unfold roomy; omega
  simp only [Bool.or_eq_false_iff, decide_eq_false_iff_not, Bool.not_eq_false'] at hg
  obtain ⟨⟨g1, g2⟩, g4⟩ := hg
  rw [et]
  obtain ⟨hu1, hu2⟩ := u13_iff.1 g4
  have hrl : roomy l.length := by unfold roomy; omega
  generalize hn : (⟨0, 2 * turn + 1, 0, 0, l⟩ : Nd) = n
  cases h1 : ndB n with
  | false =>
    have hwv : wordsV n = .tup [.sl false (.ints .i64 []), .int .i64 90] := by unfold wordsV; rw [if_neg (by rw [h1]; decide)]
    obtain ⟨L, e, hiv⟩ : ∃ (L : List Mic) (e : Int), deleteV 16 l pos = .tup [.sl false (.mics L), .int .i64 e] := by
      unfold deleteV; split
      · exact ⟨_, _, rfl⟩
      · exact ⟨_, _, rfl⟩
    simp only [hwv, hiv, joinW_eq, decide_true, joinW_eq, guard_tt, guard_tf, guard_ft, guard_ff, Int.reduceEq, Int.reduceLT, Int.reduceLE, decide_false, decide_true, Bool.not_false, Bool.not_true, Bool.not_not, not_true_eq_false, not_false_eq_true, true_implies, false_implies, implies_true, and_true, true_and, reduceCtorEq, Bool.and_self, Bool.or_self, Bool.and_true, Bool.true_and, Bool.false_eq_true, if_true, if_false, go_sem, Nat.reduceEqDiff, Nat.reduceLT, Nat.reduceAdd, Nat.reduceSub, Nat.reduceLeDiff, List.reduceReplicate, Int.reduceToNat]
    exact ⟨hrl, rfl⟩
  | true =>
    have hok := nd_iff.1 h1
    have h13 : l.length ≤ 13 := by have := hok.2.2.2.2.2.2.1; rw [← hn] at this; exact this
    have hwv : wordsV n = .tup [.sl false (.ints .i64 (wordsNd n)), .int .i64 0] := by unfold wordsV; rw [if_pos h1]
    by_cases hc : (fmayB 16 l && decide (0 ≤ pos) && decide (pos < (l.length : Int))) = true
    rotate_left
    · obtain ⟨L, e, he, hiv⟩ : ∃ (L : List Mic) (e : Int), e ≠ 0 ∧ deleteV 16 l pos = .tup [.sl false (.mics L), .int .i64 e] := by
        unfold deleteV
        rw [if_neg hc]; exact ⟨_, _, by decide, rfl⟩
      simp only [hwv, hiv, he, joinW_eq, decide_true, decide_false, joinW_eq, guard_tt, guard_tf, guard_ft, guard_ff, Int.reduceEq, Int.reduceLT, Int.reduceLE, decide_false, decide_true, Bool.not_false, Bool.not_true, Bool.not_not, not_true_eq_false, not_false_eq_true, true_implies, false_implies, implies_true, and_true, true_and, reduceCtorEq, Bool.and_self, Bool.or_self, Bool.and_true, Bool.true_and, Bool.false_eq_true, if_true, if_false, go_sem, Nat.reduceEqDiff, Nat.reduceLT, Nat.reduceAdd, Nat.reduceSub, Nat.reduceLeDiff, List.reduceReplicate, Int.reduceToNat]
      exact ⟨hrl, rfl⟩
    · have hiv : deleteV 16 l pos = .tup [.sl false (.mics (storedV 16 (delS l pos.toNat))), .int .i64 0] := by unfold deleteV; rw [if_pos hc]
      simp only [Bool.and_eq_true, decide_eq_true_eq] at hc
      obtain ⟨⟨_, c2⟩, c3⟩ := hc
      have hwl := words_len hok
      simp only [hwv, hiv, joinW_eq, decide_true, decide_false, joinW_eq, guard_tt, guard_tf, guard_ft, guard_ff, Int.reduceEq, Int.reduceLT, Int.reduceLE, decide_false, decide_true, Bool.not_false, Bool.not_true, Bool.not_not, not_true_eq_false, not_false_eq_true, true_implies, false_implies, implies_true, and_true, true_and, reduceCtorEq, Bool.and_self, Bool.or_self, Bool.and_true, Bool.true_and, Bool.false_eq_true, if_true, if_false, go_sem, Nat.reduceEqDiff, Nat.reduceLT, Nat.reduceAdd, Nat.reduceSub, Nat.reduceLeDiff, List.reduceReplicate, Int.reduceToNat]
      generalize hW : (0 :: 0 :: 0 :: 0 :: 0 :: 0 :: 0 :: 0 :: 0 :: 0 :: 0 :: 0 :: 0 :: 0 :: 0 :: 0 :: wordsNd n) = W
      have hWe : W = List.replicate 16 0 ++ wordsNd n := by rw [← hW]; rfl
      have hWl : W.length = 32 := by rw [hWe, List.length_append, List.length_replicate, hwl]
      have hnew : newM W = .tup [memV W W [], .int .i64 0] := by unfold newM; rw [show szB W.length = true from by rw [hWl]; decide]; rfl
      have hblk : blockAt W 1 = wordsNd n := by
        unfold blockAt; rw [hWe, List.drop_append_of_le_length (by simp), List.drop_of_length_le (by simp), List.nil_append]; exact List.take_of_length_le (Nat.le_of_eq hwl)
      have hnode : nodeO W 1 = some n := by
        unfold nodeO; rw [if_neg (by rw [hWl]; decide)]
        show readN (blockAt W 1) = _
        rw [hblk, readN_ok hok]
      have htu : n.turn = 2 * turn + 1 := by rw [← hn]
      have hsl : n.slots = l := by rw [← hn]
      have hdn : downB (2 * turn + 1) = true := by unfold downB; rw [bit0 (by omega) (by omega)]; exact decide_eq_true (by omega)
      have hbeg : beginO W 1 = some ⟨1, 2 * turn + 1, 12, [], false⟩ := by
        unfold beginO; rw [hnode]; simp only
        rw [if_neg (by decide), htu, hdn]; rfl
      have hp : pos.toNat < l.length := by omega
      have hnb : nodeB 16 = true := (node_iff (by decide)).2 (by decide)
      have hin := delS_in (l := l) (by omega) hp
      have hst := stored_checked hnb (by decide) hin
      have hM : storesOf (storedV 16 (delS l pos.toNat)) = (delS l pos.toNat).map (pendOf 16) := by
        rw [hst, stores_all hnb (by decide) hin _ (Nat.le_refl _), List.take_length]
      have hMl : (storedV 16 (delS l pos.toNat)).length ≤ 1000 := by
        rw [hst]
        have := storedN_len 16 (delS l pos.toNat) (delS l pos.toNat).length
        rw [delS_len hp] at this ⊢; omega
      have hMay : ∀ x ∈ storedV 16 (delS l pos.toNat), MayN x W.length := by
        rw [hst, hWl]; exact stored_may hnb (by decide) hin (by decide) (by decide) _ (Nat.le_refl _)
      have hat : AtZ W l := by
        refine ⟨⟨by decide, by decide, by rw [hWl]; decide⟩, fun k hk => ?_⟩
        have e1 : slotW W 1 k = (wordsNd n).getD (k + 1 + 1 + 1) 0 := by
          unfold slotW
          rw [← hblk]
          unfold blockAt
          rw [getD_take, if_pos (by omega), getD_drop]
          congr 1; show 16 + 3 + k = 16 * 1 + (k + 1 + 1 + 1); omega
        rw [e1]
        unfold wordsNd
        rw [List.getD_cons_succ, List.getD_cons_succ, List.getD_cons_succ, hsl, getD_app2]
        split
        · rfl
        · rename_i h
          rw [getD_none (l := l) (by omega), getD_rep]
      obtain ⟨z1, z2⟩ := del_end (m := ⟨W, W, []⟩) hdn (by omega) hp hu2 (fun x hx => by have := hu1 x hx; omega) hWl hat hM picks
      have hsub : (withoutL l pos.toNat).Sublist l := without_sub l pos.toNat
      have hwlen := without_len l hp
      generalize hE : mixEnd ⟨W, W, []⟩ (storedV 16 (delS l pos.toNat)) picks ⟨1, 2 * turn + 1, 12, [], false⟩ = E at *
      obtain ⟨eb, et2, ea, eR, eo⟩ := E
      simp only at z1 z2
      subst z1
      have hmx : mixV ⟨W, W, []⟩ (storedV 16 (delS l pos.toNat)) picks ⟨1, 2 * turn + 1, 12, [], false⟩ = .tup [Sk.V ⟨eb, et2, ea, eR, true⟩, .bool true] := by unfold mixV; rw [hE]
      have a1 : amongB (withoutL l pos.toNat) eR.reverse = true := by
        rcases z2 with rfl | rfl
        · rw [List.reverse_reverse]; exact among_sub hsub
        · rw [List.reverse_reverse]; exact among_sub (List.Sublist.refl _)
      have a2 : amongB eR.reverse l = true := by
        rcases z2 with rfl | rfl
        · rw [List.reverse_reverse]; exact among_sub (List.Sublist.refl _)
        · rw [List.reverse_reverse]; exact among_sub hsub
      have hRl : eR.length ≤ 14 := by rcases z2 with rfl | rfl <;> (rw [List.length_reverse]; omega)
      have hokM : OkM W W [] := (begun_new (w := W) (by omega) (by omega)).ok
      simp only [pmem_New.C, hnew, memV, lamplighterlaw13_mixed.C, hbeg, Option.getD_some, hmx, Sk.V, joinW_eq, guard_tt, guard_tf, guard_ft, guard_ff, Int.reduceEq, Int.reduceLT, Int.reduceLE, decide_false, decide_true, Bool.not_false, Bool.not_true, Bool.not_not, not_true_eq_false, not_false_eq_true, true_implies, false_implies, implies_true, and_true, true_and, reduceCtorEq, Bool.and_self, Bool.or_self, Bool.and_true, Bool.true_and, Bool.false_eq_true, if_true, if_false, go_sem, Nat.reduceEqDiff, Nat.reduceLT, Nat.reduceAdd, Nat.reduceSub, Nat.reduceLeDiff, List.reduceReplicate, Int.reduceToNat]
      refine ⟨hrl, by unfold roomy; omega, by unfold roomy; omega, by unfold roomy; omega, ⟨hokM, by omega, hMl, by omega, hMay, ⟨_, rfl, hokM.small (by decide)⟩⟩, ?_⟩
      unfold lamplighterlaw13_SeekDeletes.L1
      refine loop2 (σ := Nat) (fun j => .sref false 3 j 0 j) (fun j => .int .i64 ((eR.length : Int) - 1 - j)) (fun j => [.row .fro 1 (.ints .i64 W), .box (.agg [.sl false (.ints .i64 W), .sl false (.ints .i64 W), .sl false (.pends [])]), .box (.agg [.int .i64 eb, .int .i64 et2, .int .i64 ea, .sl false (.ints .i64 eR), .bool true]), .row .own j (.ints .i64 (eR.reverse.take j))]) (fun j => eR.length - j) (fun j => j ≤ eR.length) 0 ?_ rfl (Nat.zero_le _) ?_
      · rw [w64 (by omega) (by omega)]; simp
      intro I2 back2 j hj
      by_cases hjl : j < eR.length
      · have hb : ∀ (n : Nat) (lv : List AV) (h : List AObj), _ := fun n lv h => @back2 n lv h (j + 1)
        have ej : (eR.length : Int) - 1 - j = ((eR.length - 1 - j : Nat) : Int) := by omega
        have hg : eR.reverse.getD j 0 = eR.getD (eR.length - 1 - j) 0 := by
          rw [List.getD_eq_getElem?_getD, List.getElem?_reverse hjl, ← List.getD_eq_getElem?_getD]
        have e1 : IntKind.i64.wrap (((eR.length - 1 - j : Nat) : Int) - 1) = (eR.length : Int) - 1 - ((j + 1 : Nat) : Int) := by rw [w64 (by omega) (by omega)]; omega
        rw [take_next eR.reverse j 0 (by simpa using hjl), hg] at hb
        have hl1 : (eR.reverse.take j ++ [eR.getD (eR.length - 1 - j) 0]).length = j + 1 := by simp; omega
        rw [ej]
        simp only [e1, Int.toNat_natCast, joinW_eq, guard_tt, guard_tf, guard_ft, guard_ff, Int.reduceEq, Int.reduceLT, Int.reduceLE, decide_false, decide_true, Bool.not_false, Bool.not_true, Bool.not_not, not_true_eq_false, not_false_eq_true, true_implies, false_implies, implies_true, and_true, true_and, reduceCtorEq, Bool.and_self, Bool.or_self, Bool.and_true, Bool.true_and, Bool.false_eq_true, if_true, if_false, go_sem, Nat.reduceEqDiff, Nat.reduceLT, Nat.reduceAdd, Nat.reduceSub, Nat.reduceLeDiff, List.reduceReplicate, Int.reduceToNat] at hb ⊢
        refine ⟨fun _ => ⟨⟨by omega, by omega⟩, ⟨by simp; omega, by rw [hl1]; unfold roomy; omega⟩, hb _ _ _ (by omega) (by rw [hl1]) rfl (by omega)⟩, fun h => absurd h (by omega)⟩
      · obtain rfl : j = eR.length := by omega
        have ej : (eR.length : Int) - 1 - eR.length = -1 := by omega
        have hrv : (eR.reverse.take eR.length).take eR.length = eR.reverse := by rw [List.take_of_length_le (by simp), List.take_of_length_le (by simp)]
        rw [ej]
        simp only [hrv, lamplighterref06_Without.C, lamplighterlaw13_among.C, a1, a2, joinW_eq, guard_tt, guard_tf, guard_ft, guard_ff, Int.reduceEq, Int.reduceLT, Int.reduceLE, decide_false, decide_true, Bool.not_false, Bool.not_true, Bool.not_not, not_true_eq_false, not_false_eq_true, true_implies, false_implies, implies_true, and_true, true_and, reduceCtorEq, Bool.and_self, Bool.or_self, Bool.and_true, Bool.true_and, Bool.false_eq_true, if_true, if_false, go_sem, Nat.reduceEqDiff, Nat.reduceLT, Nat.reduceAdd, Nat.reduceSub, Nat.reduceLeDiff, List.reduceReplicate, Int.reduceToNat]
        exact ⟨⟨hrl, c2, c3, by omega⟩, ⟨by unfold roomy; omega, by rw [List.length_reverse]; unfold roomy; omega⟩, ⟨by rw [List.length_reverse]; unfold roomy; omega, hrl⟩, rfl⟩
theorem SeekDeletes_ok : Ok Try.prog SeekDeletes_ctx := ctx_ok (by simpa using ⟨lamplighterlaw13_awake.spec, lamplighterlaw13_unlike.spec, lamplighterlaw13_mixed.spec, lamplighterlaw13_among.spec, node_Words.spec, fast_Delete.spec, pmem_New.spec, lamplighterref06_Without.spec⟩) (by simp) _
theorem SeekDeletes_law (l : Lst) (pos : Int) (turn : Int) (picks : Lst) (k_l : l.kind = (.int .i64)) (w_l : wfL l) (n_l : l.len ≤ maxLen) (w_pos : (Lit.int .i64 pos).wf = true) (w_turn : (Lit.int .u8 turn).wf = true) (k_picks : picks.kind = .bool) (w_picks : wfL picks) (n_picks : picks.len ≤ maxLen) : funW SeekDeletes_ctx Try.f12 [(.sl false l), (.int .i64 pos), (.int .u8 turn), (.sl false picks)] [] Told := by
  obtain ⟨l, rfl⟩ := gkind_ints k_l
  obtain ⟨picks, rfl⟩ := gkind_bools k_picks
  rw [SeekDeletes_ctx, lamplighterlaw13_SeekDeletes.eq]
  exact SeekDeletes_vc l pos turn picks w_l n_l w_pos w_turn w_picks n_picks
end Lam
