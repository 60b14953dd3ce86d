/- What functions of the program come to, each proved from its code. -/
import Derived.Test.YtdnhjeoacanbcacLm5
import Derived.WideLaws
namespace Lam
set_option maxRecDepth 20000
open Go Go.Proofs
set_option linter.unusedVariables false
set_option linter.unnecessarySimpa false
set_option linter.unusedSimpArgs false
theorem readV_so {w : List Int} {b : Int} {n : Nd} (h : nodeO w b = some n) : readV w b = .tup [n.V, .int .i64 0] := by
  unfold nodeO at h
  unfold readV
  split at h
  · cases h
  · rename_i hb; rw [if_neg hb, h]
theorem readV_no {w : List Int} {b : Int} (h : nodeO w b = none) : ∃ e, e ≠ 0 ∧ readV w b = .tup [zeroNd.V, .int .i64 e] := by
  unfold nodeO at h
  unfold readV
  split at h
  · rename_i hb; rw [if_pos hb]; exact ⟨1, by decide, rfl⟩
  · rename_i hb; rw [if_neg hb, h]; exact ⟨90, by decide, rfl⟩
theorem rreadV_so {w : List Int} {b : Int} {n : Rc} (h : recO w b = some n) : rreadV w b = .tup [n.V, .int .i64 0] := by
  unfold recO at h
  unfold rreadV
  split at h
  · cases h
  · rename_i hb; rw [if_neg hb, h]
theorem rreadV_no {w : List Int} {b : Int} (h : recO w b = none) : ∃ e, e ≠ 0 ∧ rreadV w b = .tup [zeroRc.V, .int .i64 e] := by
  unfold recO at h
  unfold rreadV
  split at h
  · rename_i hb; rw [if_pos hb]; exact ⟨1, by decide, rfl⟩
  · rename_i hb; rw [if_neg hb, h]; exact ⟨70, by decide, rfl⟩
structure Sk where
  block : Int
  turn : Int
  at_ : Int
  refs : List Int
  over : Bool
def Sk.V (s : Sk) : AV := .agg [.int .i64 s.block, .int .i64 s.turn, .int .i64 s.at_, .sl false (.ints .i64 s.refs), .bool s.over]
def downB (t : Int) : Bool := decide (andI .i64 t 1 = 1)
def seek_down.C : Contract
  | [.agg [.int .i64 _, .int .i64 t, .int .i64 _, .sl _ (.ints .i64 _), .bool _]] => some (false, pD True (.bool (downB t)))
  | _ => none
set_option maxRecDepth 20000 in
theorem seek_down.spec : FSpec Try.prog 61 seek_down.C := by
  refine FSpec.of (ctx_ok (F := []) (S := []) (by simp) (by simp) seek_down.loops) seek_down.at seek_down.nm seek_down.bd ?_
  intro vs b S v news e hS
  unfold seek_down.C at e
  split at e
  rotate_left
  · cases e
  cases e
  rw [seek_down.eq]
  unfold seek_down.H
  simp (maxSteps := 4000000) only [go_sem, Nat.reduceEqDiff, Nat.reduceLT, Nat.reduceAdd, Nat.reduceSub, Nat.reduceLeDiff, List.reduceReplicate, Int.reduceToNat]
  exact post_val rfl rfl
def skZ : Sk := ⟨0, 0, 0, [], false⟩
def beginO (w : List Int) (b : Int) : Option Sk := match nodeO w b with
  | some n => if 256 ≤ b then none else some ⟨b, n.turn, if downB n.turn = true then 12 else 0, [], false⟩
  | none => none
def beginV (w : List Int) (b : Int) : AV := match beginO w b with
  | some s => .tup [s.V, .int .i64 0]
  | none => .tup [skZ.V, .int .i64 90]
def seek_Begin.C : Contract
  | [.sl _ (.ints .i64 w), .int .i64 b] => some (false, pD (roomy w.length) (beginV w b))
  | _ => none
set_option maxRecDepth 20000 in
theorem seek_Begin.spec : FSpec Try.prog 25 seek_Begin.C := by
  refine FSpec.of (ctx_ok (F := [(23, node_Read.C), (61, seek_down.C)]) (S := []) (by simpa using ⟨node_Read.spec, seek_down.spec⟩) (by simp) seek_Begin.loops) seek_Begin.at seek_Begin.nm seek_Begin.bd ?_
  intro vs b S v news e hS
  unfold seek_Begin.C at e
  split at e
  rotate_left
  · cases e
  cases e
  rw [seek_Begin.eq]
  unfold seek_Begin.H
  simp (maxSteps := 4000000) only [go_sem, Nat.reduceEqDiff, Nat.reduceLT, Nat.reduceAdd, Nat.reduceSub, Nat.reduceLeDiff, List.reduceReplicate, Int.reduceToNat, node_Read.C, seek_down.C]
  rename_i w b
  unfold beginV beginO
  cases hn : nodeO w b with
  | none =>
    obtain ⟨e, he, hr⟩ := readV_no hn
    simp only [hr, zeroNd, he, decide_true, decide_false, joinW_eq, skZ, Sk.V, joinW_eq, guard_tt, guard_tf, guard_ft, guard_ff, Int.reduceEq, Int.reduceLT, Int.reduceLE, decide_false, decide_true, Bool.not_false, Bool.not_true, Bool.not_not, not_true_eq_false, not_false_eq_true, true_implies, false_implies, implies_true, and_true, true_and, reduceCtorEq, Bool.and_self, Bool.or_self, Bool.and_true, Bool.true_and, Bool.false_eq_true, if_true, if_false, go_sem, Nat.reduceEqDiff, Nat.reduceLT, Nat.reduceAdd, Nat.reduceSub, Nat.reduceLeDiff, List.reduceReplicate, Int.reduceToNat]
    exact ⟨hS, post_val rfl rfl⟩
  | some n =>
    obtain ⟨n1, n2, n3, n4, n5⟩ := n
    by_cases hb : 256 ≤ b
    · simp only [readV_so hn, hb, if_true, decide_true, joinW_eq, skZ, Sk.V, joinW_eq, guard_tt, guard_tf, guard_ft, guard_ff, Int.reduceEq, Int.reduceLT, Int.reduceLE, decide_false, decide_true, Bool.not_false, Bool.not_true, Bool.not_not, not_true_eq_false, not_false_eq_true, true_implies, false_implies, implies_true, and_true, true_and, reduceCtorEq, Bool.and_self, Bool.or_self, Bool.and_true, Bool.true_and, Bool.false_eq_true, if_true, if_false, go_sem, Nat.reduceEqDiff, Nat.reduceLT, Nat.reduceAdd, Nat.reduceSub, Nat.reduceLeDiff, List.reduceReplicate, Int.reduceToNat]
      exact ⟨hS, post_val rfl rfl⟩
    · simp only [readV_so hn, hb, if_false, decide_false, seek_down.C, joinW_eq, Sk.V, joinW_eq, guard_tt, guard_tf, guard_ft, guard_ff, Int.reduceEq, Int.reduceLT, Int.reduceLE, decide_false, decide_true, Bool.not_false, Bool.not_true, Bool.not_not, not_true_eq_false, not_false_eq_true, true_implies, false_implies, implies_true, and_true, true_and, reduceCtorEq, Bool.and_self, Bool.or_self, Bool.and_true, Bool.true_and, Bool.false_eq_true, if_true, if_false, go_sem, Nat.reduceEqDiff, Nat.reduceLT, Nat.reduceAdd, Nat.reduceSub, Nat.reduceLeDiff, List.reduceReplicate, Int.reduceToNat]
      cases hd : downB n2 with
      | true => simp only [if_true, joinW_eq, guard_tt, guard_tf, guard_ft, guard_ff, Int.reduceEq, Int.reduceLT, Int.reduceLE, decide_false, decide_true, Bool.not_false, Bool.not_true, Bool.not_not, not_true_eq_false, not_false_eq_true, true_implies, false_implies, implies_true, and_true, true_and, reduceCtorEq, Bool.and_self, Bool.or_self, Bool.and_true, Bool.true_and, Bool.false_eq_true, if_true, if_false, go_sem, Nat.reduceEqDiff, Nat.reduceLT, Nat.reduceAdd, Nat.reduceSub, Nat.reduceLeDiff, List.reduceReplicate, Int.reduceToNat]; exact ⟨hS, post_val rfl rfl⟩
      | false => simp only [if_false, joinW_eq, guard_tt, guard_tf, guard_ft, guard_ff, Int.reduceEq, Int.reduceLT, Int.reduceLE, decide_false, decide_true, Bool.not_false, Bool.not_true, Bool.not_not, not_true_eq_false, not_false_eq_true, true_implies, false_implies, implies_true, and_true, true_and, reduceCtorEq, Bool.and_self, Bool.or_self, Bool.and_true, Bool.true_and, Bool.false_eq_true, if_true, if_false, go_sem, Nat.reduceEqDiff, Nat.reduceLT, Nat.reduceAdd, Nat.reduceSub, Nat.reduceLeDiff, List.reduceReplicate, Int.reduceToNat]; exact ⟨hS, post_val rfl rfl⟩
def holdsB (w : List Int) (b t : Int) : Bool := match nodeO w b with
  | some n => decide (n.turn = t)
  | none => false
def seek_Holds.C : Contract
  | [.sl _ (.ints .i64 w), .agg [.int .i64 b, .int .i64 t, .int .i64 _, .sl _ (.ints .i64 _), .bool _]] => some (false, pD (roomy w.length) (.bool (holdsB w b t)))
  | _ => none
set_option maxRecDepth 20000 in
theorem seek_Holds.spec : FSpec Try.prog 30 seek_Holds.C := by
  refine FSpec.of (ctx_ok (F := [(23, node_Read.C)]) (S := []) (by simpa using node_Read.spec) (by simp) seek_Holds.loops) seek_Holds.at seek_Holds.nm seek_Holds.bd ?_
  intro vs b S v news e hS
  unfold seek_Holds.C at e
  split at e
  rotate_left
  · cases e
  cases e
  rw [seek_Holds.eq]
  unfold seek_Holds.H
  simp (maxSteps := 4000000) only [go_sem, Nat.reduceEqDiff, Nat.reduceLT, Nat.reduceAdd, Nat.reduceSub, Nat.reduceLeDiff, List.reduceReplicate, Int.reduceToNat, node_Read.C]
  rename_i _ w b t _ _ _ _
  unfold holdsB
  cases hn : nodeO w b with
  | none =>
    obtain ⟨e, he, hr⟩ := readV_no hn
    simp only [hr, zeroNd, he, decide_true, decide_false, joinW_eq, joinW_eq, guard_tt, guard_tf, guard_ft, guard_ff, Int.reduceEq, Int.reduceLT, Int.reduceLE, decide_false, decide_true, Bool.not_false, Bool.not_true, Bool.not_not, not_true_eq_false, not_false_eq_true, true_implies, false_implies, implies_true, and_true, true_and, reduceCtorEq, Bool.and_self, Bool.or_self, Bool.and_true, Bool.true_and, Bool.false_eq_true, if_true, if_false, go_sem, Nat.reduceEqDiff, Nat.reduceLT, Nat.reduceAdd, Nat.reduceSub, Nat.reduceLeDiff, List.reduceReplicate, Int.reduceToNat]
    exact ⟨hS, post_val rfl rfl⟩
  | some n =>
    obtain ⟨n1, n2, n3, n4, n5⟩ := n
    simp only [readV_so hn, decide_true, joinW_eq, joinW_eq, guard_tt, guard_tf, guard_ft, guard_ff, Int.reduceEq, Int.reduceLT, Int.reduceLE, decide_false, decide_true, Bool.not_false, Bool.not_true, Bool.not_not, not_true_eq_false, not_false_eq_true, true_implies, false_implies, implies_true, and_true, true_and, reduceCtorEq, Bool.and_self, Bool.or_self, Bool.and_true, Bool.true_and, Bool.false_eq_true, if_true, if_false, go_sem, Nat.reduceEqDiff, Nat.reduceLT, Nat.reduceAdd, Nat.reduceSub, Nat.reduceLeDiff, List.reduceReplicate, Int.reduceToNat]
    exact ⟨hS, post_val rfl rfl⟩
def seek_look_up.K : Con := fun args h K => match args with
  | [a0] => seek_look_up.H (ctx [] [] seek_look_up.loops) a0 h K
  | _ => False
theorem seek_look_up.spec : SSpec Try.prog 65 seek_look_up.K := by
  refine SSpec.of (ctx_ok (F := []) (S := []) (by simp) (by simp) seek_look_up.loops) seek_look_up.at seek_look_up.nm seek_look_up.bd ?_
  intro args h K hC
  unfold seek_look_up.K at hC
  split at hC
  · rw [seek_look_up.eq]; exact hC
  · exact hC.elim
def seek_look_fall.K : Con := fun args h K => match args with
  | [a0] => seek_look_fall.H (ctx [] [] seek_look_fall.loops) a0 h K
  | _ => False
theorem seek_look_fall.spec : SSpec Try.prog 66 seek_look_fall.K := by
  refine SSpec.of (ctx_ok (F := []) (S := []) (by simp) (by simp) seek_look_fall.loops) seek_look_fall.at seek_look_fall.nm seek_look_fall.bd ?_
  intro args h K hC
  unfold seek_look_fall.K at hC
  split at hC
  · rw [seek_look_fall.eq]; exact hC
  · exact hC.elim
def overB (w : Int) (s : Sk) : Bool := if downB s.turn = true then decide (s.at_ = 0) else decide (w < 1) || decide (s.at_ = 12)
def goOn (w : Int) (s : Sk) : Sk :=
  { s with
    refs := if (decide (0 < w) && (decide (s.refs.length = 0) || !decide (s.refs.getD (s.refs.length - 1) 0 = w))) = true then s.refs ++ [w] else s.refs
    over := overB w s
    at_ := if overB w s = true then s.at_ else if downB s.turn = true then IntKind.i64.wrap (s.at_ - 1) else IntKind.i64.wrap (s.at_ + 1) }
/-- where the next one is -/
def spotI (w : List Int) (s : Sk) : Int := if (decide (0 ≤ s.block) && decide (s.block < 256) && decide (s.block < ((w.length / 16 : Nat) : Int))) = true then placeI (16 * s.block) s.at_ else -1
def stepS (w : List Int) (s : Sk) : Sk := if (s.over || decide (spotI w s < 0)) = true then s else goOn (w.getD (spotI w s).toNat 0) s
def seek_Step.C : Contract
  | [.sl _ (.ints .i64 w), .agg [.int .i64 b, .int .i64 t, .int .i64 a, .sl _ (.ints .i64 l), .bool o]] => some (false, pD (w.length ≤ 65536 ∧ l.length ≤ 65536) (stepS w ⟨b, t, a, l, o⟩).V)
  | _ => none
set_option maxRecDepth 20000 in
theorem seek_Step.spec : FSpec Try.prog 28 seek_Step.C := by
  refine FSpec.of (ctx_ok (F := [(63, fast_Place.C), (64, slices_Clone_sl_int_int.C), (61, seek_down.C)]) (S := [(65, seek_look_up.K), (66, seek_look_fall.K)]) (by simpa using ⟨fast_Place.spec, slices_Clone_sl_int_int.spec, seek_down.spec⟩) (by simpa using ⟨seek_look_up.spec, seek_look_fall.spec⟩) seek_Step.loops) seek_Step.at seek_Step.nm seek_Step.bd ?_
  intro vs b S v news e hS
  unfold seek_Step.C at e
  split at e
  rotate_left
  · cases e
  cases e
  rw [seek_Step.eq]
  unfold seek_Step.H
  simp (maxSteps := 4000000) only [go_sem, Nat.reduceEqDiff, Nat.reduceLT, Nat.reduceAdd, Nat.reduceSub, Nat.reduceLeDiff, List.reduceReplicate, Int.reduceToNat, fast_Place.C, slices_Clone_sl_int_int.C, seek_down.C]
  rename_i _ w b t a x l o
  obtain ⟨hw, hl⟩ := hS
  have e0 : IntKind.i64.wrap ((w.length : Int).tdiv 16) = ((w.length / 16 : Nat) : Int) := by
    rw [Int.tdiv_eq_ediv_of_nonneg (by omega)]; exact w64 (by omega) (by omega)
  have hst : ∀ s : Sk, (s.over || decide (spotI w s < 0)) = true → stepS w s = s := fun s h => by unfold stepS; rw [if_pos h]
  have hgo : ∀ s : Sk, (s.over || decide (spotI w s < 0)) = false → stepS w s = goOn (w.getD (spotI w s).toNat 0) s := fun s h => by unfold stepS; rw [if_neg (by rw [h]; decide)]
  refine ⟨fun _ => by decide, ?_⟩
  cases hin : (decide (0 ≤ b) && decide (b < 256) && decide (b < ((w.length / 16 : Nat) : Int))) with
  | false =>
    have hs : spotI w ⟨b, t, a, l, o⟩ = -1 := by unfold spotI; rw [if_neg (by rw [hin]; decide)]
    rw [hst _ (by rw [hs]; cases o <;> rfl)]
    simp only [e0, hin, joinW_eq, Sk.V, joinW_eq, guard_tt, guard_tf, guard_ft, guard_ff, Int.reduceEq, Int.reduceLT, Int.reduceLE, decide_false, decide_true, Bool.not_false, Bool.not_true, Bool.not_not, not_true_eq_false, not_false_eq_true, true_implies, false_implies, implies_true, and_true, true_and, reduceCtorEq, Bool.and_self, Bool.or_self, Bool.and_true, Bool.true_and, Bool.false_eq_true, if_true, if_false, go_sem, Nat.reduceEqDiff, Nat.reduceLT, Nat.reduceAdd, Nat.reduceSub, Nat.reduceLeDiff, List.reduceReplicate, Int.reduceToNat]
    cases o with
    | true => simp only [joinW_eq, guard_tt, guard_tf, guard_ft, guard_ff, Int.reduceEq, Int.reduceLT, Int.reduceLE, decide_false, decide_true, Bool.not_false, Bool.not_true, Bool.not_not, not_true_eq_false, not_false_eq_true, true_implies, false_implies, implies_true, and_true, true_and, reduceCtorEq, Bool.and_self, Bool.or_self, Bool.and_true, Bool.true_and, Bool.false_eq_true, if_true, if_false, go_sem, Nat.reduceEqDiff, Nat.reduceLT, Nat.reduceAdd, Nat.reduceSub, Nat.reduceLeDiff, List.reduceReplicate, Int.reduceToNat]; exact post_val rfl rfl
    | false => simp only [joinW_eq, guard_tt, guard_tf, guard_ft, guard_ff, Int.reduceEq, Int.reduceLT, Int.reduceLE, decide_false, decide_true, Bool.not_false, Bool.not_true, Bool.not_not, not_true_eq_false, not_false_eq_true, true_implies, false_implies, implies_true, and_true, true_and, reduceCtorEq, Bool.and_self, Bool.or_self, Bool.and_true, Bool.true_and, Bool.false_eq_true, if_true, if_false, go_sem, Nat.reduceEqDiff, Nat.reduceLT, Nat.reduceAdd, Nat.reduceSub, Nat.reduceLeDiff, List.reduceReplicate, Int.reduceToNat]; exact post_val rfl rfl
  | true =>
    have hin' := hin
    simp only [Bool.and_eq_true, decide_eq_true_eq] at hin'
    obtain ⟨⟨h0, h1⟩, h2⟩ := hin'
    have e1 : IntKind.i64.wrap (16 * b) = 16 * b := w64 (by omega) (by omega)
    have hs : spotI w ⟨b, t, a, l, o⟩ = placeI (16 * b) a := by unfold spotI; rw [if_pos hin]
    by_cases hp : placeI (16 * b) a < 0
    · rw [hst _ (by rw [hs, decide_eq_true hp, Bool.or_true])]
      simp only [e0, e1, hin, hp, decide_true, joinW_eq, Sk.V, joinW_eq, guard_tt, guard_tf, guard_ft, guard_ff, Int.reduceEq, Int.reduceLT, Int.reduceLE, decide_false, decide_true, Bool.not_false, Bool.not_true, Bool.not_not, not_true_eq_false, not_false_eq_true, true_implies, false_implies, implies_true, and_true, true_and, reduceCtorEq, Bool.and_self, Bool.or_self, Bool.and_true, Bool.true_and, Bool.false_eq_true, if_true, if_false, go_sem, Nat.reduceEqDiff, Nat.reduceLT, Nat.reduceAdd, Nat.reduceSub, Nat.reduceLeDiff, List.reduceReplicate, Int.reduceToNat]
      cases o with
      | true => simp only [joinW_eq, guard_tt, guard_tf, guard_ft, guard_ff, Int.reduceEq, Int.reduceLT, Int.reduceLE, decide_false, decide_true, Bool.not_false, Bool.not_true, Bool.not_not, not_true_eq_false, not_false_eq_true, true_implies, false_implies, implies_true, and_true, true_and, reduceCtorEq, Bool.and_self, Bool.or_self, Bool.and_true, Bool.true_and, Bool.false_eq_true, if_true, if_false, go_sem, Nat.reduceEqDiff, Nat.reduceLT, Nat.reduceAdd, Nat.reduceSub, Nat.reduceLeDiff, List.reduceReplicate, Int.reduceToNat]; exact post_val rfl rfl
      | false => simp only [joinW_eq, guard_tt, guard_tf, guard_ft, guard_ff, Int.reduceEq, Int.reduceLT, Int.reduceLE, decide_false, decide_true, Bool.not_false, Bool.not_true, Bool.not_not, not_true_eq_false, not_false_eq_true, true_implies, false_implies, implies_true, and_true, true_and, reduceCtorEq, Bool.and_self, Bool.or_self, Bool.and_true, Bool.true_and, Bool.false_eq_true, if_true, if_false, go_sem, Nat.reduceEqDiff, Nat.reduceLT, Nat.reduceAdd, Nat.reduceSub, Nat.reduceLeDiff, List.reduceReplicate, Int.reduceToNat]; exact post_val rfl rfl
    · cases o with
      | true =>
        rw [hst _ rfl]
        simp only [e0, e1, hin, hp, decide_true, decide_false, joinW_eq, Sk.V, joinW_eq, guard_tt, guard_tf, guard_ft, guard_ff, Int.reduceEq, Int.reduceLT, Int.reduceLE, decide_false, decide_true, Bool.not_false, Bool.not_true, Bool.not_not, not_true_eq_false, not_false_eq_true, true_implies, false_implies, implies_true, and_true, true_and, reduceCtorEq, Bool.and_self, Bool.or_self, Bool.and_true, Bool.true_and, Bool.false_eq_true, if_true, if_false, go_sem, Nat.reduceEqDiff, Nat.reduceLT, Nat.reduceAdd, Nat.reduceSub, Nat.reduceLeDiff, List.reduceReplicate, Int.reduceToNat]
        exact post_val rfl rfl
      | false =>
        rw [hgo _ (by rw [hs, decide_eq_false hp]; rfl), hs]
        have hnb : nodeB (16 * b) = true := (node_iff (by omega)).2 ⟨by omega, by omega, by omega⟩
        have ha : 0 ≤ a ∧ a < 13 ∧ placeI (16 * b) a = 16 * b + 3 + a := by
          by_cases h : 0 ≤ a ∧ a < 13
          · exact ⟨h.1, h.2, place_at hnb (by omega) h.1 h.2⟩
          · exfalso
            apply hp
            unfold placeI
            rw [if_neg (by simp only [Bool.and_eq_true, decide_eq_true_eq]; rintro ⟨⟨_, h1⟩, h2⟩; exact h ⟨h1, h2⟩)]
            decide
        obtain ⟨a0, a1, hpl⟩ := ha
        obtain ⟨P, hP⟩ : ∃ P : Nat, 16 * b + 3 + a = P := ⟨(16 * b + 3 + a).toNat, by omega⟩
        have hPl : P < w.length := by omega
        rw [hpl, hP, Int.toNat_natCast]
        rw [hP] at hpl
        have hpn : ¬ ((P : Nat) : Int) < 0 := by omega
        have hrl : roomy l.length := by unfold roomy; omega
        have e3 : l.length ≠ 0 → IntKind.i64.wrap ((l.length : Int) - 1) = ((l.length - 1 : Nat) : Int) := fun h => by rw [w64 (by omega) (by omega)]; omega
        simp only [e0, e1, hin, hpl, hpn, decide_true, decide_false, joinW_eq, Int.toNat_natCast, slices_Clone_sl_int_int.C, joinW_eq, guard_tt, guard_tf, guard_ft, guard_ff, Int.reduceEq, Int.reduceLT, Int.reduceLE, decide_false, decide_true, Bool.not_false, Bool.not_true, Bool.not_not, not_true_eq_false, not_false_eq_true, true_implies, false_implies, implies_true, and_true, true_and, reduceCtorEq, Bool.and_self, Bool.or_self, Bool.and_true, Bool.true_and, Bool.false_eq_true, if_true, if_false, go_sem, Nat.reduceEqDiff, Nat.reduceLT, Nat.reduceAdd, Nat.reduceSub, Nat.reduceLeDiff, List.reduceReplicate, Int.reduceToNat]
        refine ⟨⟨by omega, by omega⟩, hrl, ?_⟩
        generalize w.getD P 0 = W
        have hra : roomy (l ++ [W]).length := by unfold roomy; simp; omega
        have hgo2 : ∀ (R : List Int), (goOn W ⟨b, t, a, l, false⟩).refs = R → ∀ (o : Bool) (a' : Int), overB W ⟨b, t, a, l, false⟩ = o → (a' = if o = true then a else if downB t = true then IntKind.i64.wrap (a - 1) else IntKind.i64.wrap (a + 1)) → goOn W ⟨b, t, a, l, false⟩ = ⟨b, t, a', R, o⟩ := by
          rintro _ rfl _ _ rfl rfl; rfl
        by_cases hW : 0 < W
        · have hW1 : decide (W < 1) = false := decide_eq_false (by omega)
          have happ : ∀ K : Nat → Prop, True := fun _ => trivial
          by_cases hl0 : l.length = 0
          · have hd0 : decide ((l.length : Int) = 0) = true := decide_eq_true (by omega)
            have hgr : (goOn W ⟨b, t, a, l, false⟩).refs = l ++ [W] := by unfold goOn; simp [hW, hl0]
            simp only [hW, hW1, hd0, decide_true, seek_down.C, seek_look_up.K, seek_look_up.H, seek_look_fall.K, seek_look_fall.H, joinW_eq, joinW_eq, guard_tt, guard_tf, guard_ft, guard_ff, Int.reduceEq, Int.reduceLT, Int.reduceLE, decide_false, decide_true, Bool.not_false, Bool.not_true, Bool.not_not, not_true_eq_false, not_false_eq_true, true_implies, false_implies, implies_true, and_true, true_and, reduceCtorEq, Bool.and_self, Bool.or_self, Bool.and_true, Bool.true_and, Bool.false_eq_true, if_true, if_false, go_sem, Nat.reduceEqDiff, Nat.reduceLT, Nat.reduceAdd, Nat.reduceSub, Nat.reduceLeDiff, List.reduceReplicate, Int.reduceToNat]
            refine ⟨hra, fun hd => ⟨fun h => ?_, fun h => ?_⟩, fun hd => ⟨fun h => ?_, fun h => ?_⟩⟩
            · rw [hgo2 _ hgr false _ (by simp [overB, hd, h]) (by simp [hd]; rfl), decide_eq_false h]
              refine post_val ?_ rfl
              simp only [Sk.V, List.take_length, go_sem, Nat.reduceEqDiff, Nat.reduceLT, Nat.reduceAdd, Nat.reduceSub, Nat.reduceLeDiff, List.reduceReplicate, Int.reduceToNat]
            · rw [hgo2 _ hgr true _ (by simp [overB, hd, h]) (by simp; rfl), decide_eq_true h]
              refine post_val ?_ rfl
              simp only [Sk.V, List.take_length, go_sem, Nat.reduceEqDiff, Nat.reduceLT, Nat.reduceAdd, Nat.reduceSub, Nat.reduceLeDiff, List.reduceReplicate, Int.reduceToNat]
            · rw [hgo2 _ hgr false _ (by simp [overB, hd, h]; omega) (by simp [hd]; rfl), decide_eq_false h]
              refine post_val ?_ rfl
              simp only [Sk.V, List.take_length, go_sem, Nat.reduceEqDiff, Nat.reduceLT, Nat.reduceAdd, Nat.reduceSub, Nat.reduceLeDiff, List.reduceReplicate, Int.reduceToNat]
            · rw [hgo2 _ hgr true _ (by simp [overB, hd, h]) (by simp; rfl), decide_eq_true h]
              refine post_val ?_ rfl
              simp only [Sk.V, List.take_length, go_sem, Nat.reduceEqDiff, Nat.reduceLT, Nat.reduceAdd, Nat.reduceSub, Nat.reduceLeDiff, List.reduceReplicate, Int.reduceToNat]
          · have hd0 : decide ((l.length : Int) = 0) = false := decide_eq_false (by omega)
            by_cases hla : l.getD (l.length - 1) 0 = W
            · have hgr : (goOn W ⟨b, t, a, l, false⟩).refs = l := by
                unfold goOn
                simp only [hla, decide_true, Bool.not_true, Bool.or_false, decide_eq_false hl0, Bool.and_false]
                rw [if_neg (by decide)]
              simp only [hW, hW1, hd0, e3 hl0, hla, Int.toNat_natCast, decide_true, seek_down.C, seek_look_up.K, seek_look_up.H, seek_look_fall.K, seek_look_fall.H, joinW_eq, joinW_eq, guard_tt, guard_tf, guard_ft, guard_ff, Int.reduceEq, Int.reduceLT, Int.reduceLE, decide_false, decide_true, Bool.not_false, Bool.not_true, Bool.not_not, not_true_eq_false, not_false_eq_true, true_implies, false_implies, implies_true, and_true, true_and, reduceCtorEq, Bool.and_self, Bool.or_self, Bool.and_true, Bool.true_and, Bool.false_eq_true, if_true, if_false, go_sem, Nat.reduceEqDiff, Nat.reduceLT, Nat.reduceAdd, Nat.reduceSub, Nat.reduceLeDiff, List.reduceReplicate, Int.reduceToNat]
              refine ⟨⟨by omega, by omega⟩, fun hd => ⟨fun h => ?_, fun h => ?_⟩, fun hd => ⟨fun h => ?_, fun h => ?_⟩⟩
              · rw [hgo2 _ hgr false _ (by simp [overB, hd, h]) (by simp [hd]; rfl), decide_eq_false h]
                refine post_val ?_ rfl
                simp only [Sk.V, List.take_length, go_sem, Nat.reduceEqDiff, Nat.reduceLT, Nat.reduceAdd, Nat.reduceSub, Nat.reduceLeDiff, List.reduceReplicate, Int.reduceToNat]
              · rw [hgo2 _ hgr true _ (by simp [overB, hd, h]) (by simp; rfl), decide_eq_true h]
                refine post_val ?_ rfl
                simp only [Sk.V, List.take_length, go_sem, Nat.reduceEqDiff, Nat.reduceLT, Nat.reduceAdd, Nat.reduceSub, Nat.reduceLeDiff, List.reduceReplicate, Int.reduceToNat]
              · rw [hgo2 _ hgr false _ (by simp [overB, hd, h]; omega) (by simp [hd]; rfl), decide_eq_false h]
                refine post_val ?_ rfl
                simp only [Sk.V, List.take_length, go_sem, Nat.reduceEqDiff, Nat.reduceLT, Nat.reduceAdd, Nat.reduceSub, Nat.reduceLeDiff, List.reduceReplicate, Int.reduceToNat]
              · rw [hgo2 _ hgr true _ (by simp [overB, hd, h]) (by simp; rfl), decide_eq_true h]
                refine post_val ?_ rfl
                simp only [Sk.V, List.take_length, go_sem, Nat.reduceEqDiff, Nat.reduceLT, Nat.reduceAdd, Nat.reduceSub, Nat.reduceLeDiff, List.reduceReplicate, Int.reduceToNat]
            · have hgr : (goOn W ⟨b, t, a, l, false⟩).refs = l ++ [W] := by
                unfold goOn
                simp only [decide_eq_false hla, Bool.not_false, Bool.or_true, Bool.and_true, decide_eq_true hW, if_true]
              simp only [hW, hW1, hd0, e3 hl0, hla, Int.toNat_natCast, decide_true, decide_false, seek_down.C, seek_look_up.K, seek_look_up.H, seek_look_fall.K, seek_look_fall.H, joinW_eq, joinW_eq, guard_tt, guard_tf, guard_ft, guard_ff, Int.reduceEq, Int.reduceLT, Int.reduceLE, decide_false, decide_true, Bool.not_false, Bool.not_true, Bool.not_not, not_true_eq_false, not_false_eq_true, true_implies, false_implies, implies_true, and_true, true_and, reduceCtorEq, Bool.and_self, Bool.or_self, Bool.and_true, Bool.true_and, Bool.false_eq_true, if_true, if_false, go_sem, Nat.reduceEqDiff, Nat.reduceLT, Nat.reduceAdd, Nat.reduceSub, Nat.reduceLeDiff, List.reduceReplicate, Int.reduceToNat]
              refine ⟨⟨by omega, by omega⟩, hra, fun hd => ⟨fun h => ?_, fun h => ?_⟩, fun hd => ⟨fun h => ?_, fun h => ?_⟩⟩
              · rw [hgo2 _ hgr false _ (by simp [overB, hd, h]) (by simp [hd]; rfl), decide_eq_false h]
                refine post_val ?_ rfl
                simp only [Sk.V, List.take_length, go_sem, Nat.reduceEqDiff, Nat.reduceLT, Nat.reduceAdd, Nat.reduceSub, Nat.reduceLeDiff, List.reduceReplicate, Int.reduceToNat]
              · rw [hgo2 _ hgr true _ (by simp [overB, hd, h]) (by simp; rfl), decide_eq_true h]
                refine post_val ?_ rfl
                simp only [Sk.V, List.take_length, go_sem, Nat.reduceEqDiff, Nat.reduceLT, Nat.reduceAdd, Nat.reduceSub, Nat.reduceLeDiff, List.reduceReplicate, Int.reduceToNat]
              · rw [hgo2 _ hgr false _ (by simp [overB, hd, h]; omega) (by simp [hd]; rfl), decide_eq_false h]
                refine post_val ?_ rfl
                simp only [Sk.V, List.take_length, go_sem, Nat.reduceEqDiff, Nat.reduceLT, Nat.reduceAdd, Nat.reduceSub, Nat.reduceLeDiff, List.reduceReplicate, Int.reduceToNat]
              · rw [hgo2 _ hgr true _ (by simp [overB, hd, h]) (by simp; rfl), decide_eq_true h]
                refine post_val ?_ rfl
                simp only [Sk.V, List.take_length, go_sem, Nat.reduceEqDiff, Nat.reduceLT, Nat.reduceAdd, Nat.reduceSub, Nat.reduceLeDiff, List.reduceReplicate, Int.reduceToNat]
        · have hW1 : decide (W < 1) = true := decide_eq_true (by omega)
          have hgr : (goOn W ⟨b, t, a, l, false⟩).refs = l := by
            unfold goOn
            simp only [decide_eq_false hW, Bool.false_and]
            rw [if_neg (by decide)]
          simp only [hW, hW1, decide_true, decide_false, seek_down.C, seek_look_up.K, seek_look_up.H, seek_look_fall.K, seek_look_fall.H, joinW_eq, joinW_eq, guard_tt, guard_tf, guard_ft, guard_ff, Int.reduceEq, Int.reduceLT, Int.reduceLE, decide_false, decide_true, Bool.not_false, Bool.not_true, Bool.not_not, not_true_eq_false, not_false_eq_true, true_implies, false_implies, implies_true, and_true, true_and, reduceCtorEq, Bool.and_self, Bool.or_self, Bool.and_true, Bool.true_and, Bool.false_eq_true, if_true, if_false, go_sem, Nat.reduceEqDiff, Nat.reduceLT, Nat.reduceAdd, Nat.reduceSub, Nat.reduceLeDiff, List.reduceReplicate, Int.reduceToNat]
          refine ⟨fun hd => ⟨fun h => ?_, fun h => ?_⟩, fun hd => ?_⟩
          · rw [hgo2 _ hgr false _ (by simp [overB, hd, h]) (by simp [hd]; rfl), decide_eq_false h]
            refine post_val ?_ rfl
            simp only [Sk.V, List.take_length, go_sem, Nat.reduceEqDiff, Nat.reduceLT, Nat.reduceAdd, Nat.reduceSub, Nat.reduceLeDiff, List.reduceReplicate, Int.reduceToNat]
          · rw [hgo2 _ hgr true _ (by simp [overB, hd, h]) (by simp; rfl), decide_eq_true h]
            refine post_val ?_ rfl
            simp only [Sk.V, List.take_length, go_sem, Nat.reduceEqDiff, Nat.reduceLT, Nat.reduceAdd, Nat.reduceSub, Nat.reduceLeDiff, List.reduceReplicate, Int.reduceToNat]
          · rw [hgo2 _ hgr true _ (by simp [overB, hd]; omega) (by simp; rfl)]
            refine post_val ?_ rfl
            simp only [Sk.V, List.take_length, go_sem, Nat.reduceEqDiff, Nat.reduceLT, Nat.reduceAdd, Nat.reduceSub, Nat.reduceLeDiff, List.reduceReplicate, Int.reduceToNat]
end Lam
namespace Lam
set_option maxRecDepth 20000
open Go Go.Proofs
set_option linter.unusedVariables false
set_option linter.unnecessarySimpa false
set_option linter.unusedSimpArgs false
def rcT (x : Rc) : RecT := ⟨x.kind, x.key, x.val, x.child⟩
def hitS (w : List Int) (out : List RecT) (r : Int) : List RecT := match recO w r with
  | none => out
  | some x => if x.key ∈ out.map (·.key) then out else out ++ [rcT x]
def hitsOf (w refs : List Int) : List RecT := refs.foldl (hitS w) []
theorem hitS_len (w : List Int) (out : List RecT) (r : Int) : (hitS w out r).length ≤ out.length + 1 := by
  unfold hitS
  split
  · omega
  · split
    · omega
    · simp
theorem hitS_nodup {w : List Int} {out : List RecT} {r : Int} (h : (out.map (·.key)).Nodup) : ((hitS w out r).map (·.key)).Nodup := by
  unfold hitS
  split
  · exact h
  · split
    · exact h
    · rename_i x _ hx
      rw [List.map_append, List.nodup_append]
      refine ⟨h, by simp, fun a ha b hb => ?_⟩
      simp only [List.map_cons, List.map_nil, List.mem_singleton] at hb
      subst hb
      rintro rfl
      exact hx ha
theorem hits_fold {w : List Int} : ∀ {refs : List Int} {out : List RecT}, (out.map (·.key)).Nodup → ((refs.foldl (hitS w) out).map (·.key)).Nodup ∧ (refs.foldl (hitS w) out).length ≤ out.length + refs.length
  | [], out, h => ⟨h, by simp⟩
  | r :: refs, out, h => by
    obtain ⟨h1, h2⟩ := hits_fold (refs := refs) (hitS_nodup (r := r) (w := w) h)
    have := hitS_len w out r
    exact ⟨h1, by simp only [List.foldl_cons, List.length_cons]; omega⟩
def insR (x : RecT) : List RecT → List RecT
  | [] => [x]
  | y :: l => if ltB x.key y.key = true then x :: y :: l else y :: insR x l
def sortR (l : List RecT) : List RecT := l.foldr insR []
theorem insR_perm (x : RecT) : ∀ l : List RecT, (insR x l).Perm (x :: l)
  | [] => .refl _
  | y :: l => by
    unfold insR
    split
    · exact .refl _
    · exact ((insR_perm x l).cons y).trans (.swap x y l)
theorem sortR_perm : ∀ l : List RecT, (sortR l).Perm l
  | [] => .refl _
  | x :: l => (insR_perm x _).trans ((sortR_perm l).cons x)
def ltR (x y : RecT) : Prop := ltB x.key y.key = true
theorem insR_rises {x : RecT} : ∀ {l : List RecT}, l.Pairwise ltR → (∀ y ∈ l, y.key ≠ x.key) → (insR x l).Pairwise ltR
  | [], _, _ => by simp [insR]
  | y :: l, h, hx => by
    rw [List.pairwise_cons] at h
    unfold insR
    split
    · rename_i hl
      rw [List.pairwise_cons]
      refine ⟨fun z hz => ?_, List.pairwise_cons.2 h⟩
      rcases List.mem_cons.1 hz with rfl | hz
      · exact hl
      · exact ltB_trans hl (h.1 z hz)
    · rename_i hl
      rw [List.pairwise_cons]
      refine ⟨fun z hz => ?_, insR_rises h.2 fun z hz => hx z (by simp [hz])⟩
      rcases List.mem_cons.1 ((insR_perm x l).mem_iff.1 hz) with rfl | hz
      · exact lt_of_le_ne (by unfold leB; simpa using hl) (hx y (by simp))
      · exact h.1 z hz
theorem sortR_rises : ∀ {l : List RecT}, (l.map (·.key)).Nodup → (sortR l).Pairwise ltR
  | [], _ => List.Pairwise.nil
  | x :: l, h => by
    rw [List.map_cons, List.nodup_cons] at h
    refine insR_rises (sortR_rises h.2) fun y hy he => h.1 ?_
    rw [← he]
    exact List.mem_map_of_mem (f := (·.key)) ((sortR_perm l).mem_iff.1 hy)
theorem rises_eq : ∀ {l l' : List RecT}, l.Pairwise ltR → l'.Pairwise ltR → l.Perm l' → l = l'
  | [], l', _, _, p => p.nil_eq
  | x :: l, [], _, _, p => by have := p.length_eq; simp at this
  | x :: l, y :: l', h, h', p => by
    rw [List.pairwise_cons] at h h'
    have e : x = y := by
      rcases List.mem_cons.1 (p.mem_iff.1 (List.mem_cons_self (a := x))) with e | hx
      · exact e
      · rcases List.mem_cons.1 (p.mem_iff.2 (List.mem_cons_self (a := y))) with e | hy
        · exact e.symm
        · have := ltB_trans (h.1 y hy) (h'.1 x hx)
          rw [ltB_self] at this; cases this
    subst e
    rw [rises_eq h.2 h'.2 (List.Perm.cons_inv p)]
theorem sorted_is {l l' : List RecT} (hp : l'.Perm l) (hs : SegS 0 l.length l') (hn : (l.map (·.key)).Nodup) : l' = sortR l := by
  refine rises_eq ?_ (sortR_rises hn) (hp.trans (sortR_perm l).symm)
  have hn' : (l'.map (·.key)).Nodup := (hp.map _).nodup_iff.2 hn
  rw [List.pairwise_iff_getElem]
  intro i j hi hj hij
  have h1 := hs i j (Nat.zero_le _) hij (by rw [← hp.length_eq]; exact hj)
  unfold kyL at h1
  rw [List.getD_eq_getElem?_getD, List.getD_eq_getElem?_getD, List.getElem?_eq_getElem hi, List.getElem?_eq_getElem hj] at h1
  refine lt_of_le_ne h1 fun e => ?_
  have := List.pairwise_iff_getElem.1 hn' i j (by simpa using hi) (by simpa using hj) hij
  apply this
  simpa using e
def seek_Hits.C : Contract
  | [.sl _ (.ints .i64 w), .agg [.int .i64 b, .int .i64 t, .int .i64 a, .sl _ (.ints .i64 l), .bool o]] => some (false, pD (roomy w.length ∧ l.length ≤ 13) (.sl false (.recs (sortR (hitsOf w l)))))
  | _ => none
set_option maxRecDepth 20000 in
theorem seek_Hits.spec : FSpec Try.prog 33 seek_Hits.C := by
  refine FSpec.of (ctx_ok (F := [(37, rec_Read.C)]) (S := [(67, slices_SortFunc_sl_api_Rec_api_Rec.K)]) (by simpa using rec_Read.spec) (by simpa using slices_SortFunc_sl_api_Rec_api_Rec.spec) seek_Hits.loops) seek_Hits.at seek_Hits.nm seek_Hits.bd ?_
  intro vs b S v news e hS
  unfold seek_Hits.C at e
  split at e
  rotate_left
  · cases e
  cases e
  rw [seek_Hits.eq]
  unfold seek_Hits.H
  simp (maxSteps := 4000000) only [go_sem, Nat.reduceEqDiff, Nat.reduceLT, Nat.reduceAdd, Nat.reduceSub, Nat.reduceLeDiff, List.reduceReplicate, Int.reduceToNat, rec_Read.C]
  rename_i _ w b t a x l o
  obtain ⟨hw, hl⟩ := hS
  rw [joinW_eq]
  unfold seek_Hits.L1
  refine loop2 (σ := Nat) (fun k => .sref false 2 (hitsOf w (l.take k)).length 0 (hitsOf w (l.take k)).length) (fun k => .int .i64 k) (fun k => [.box (Sk.V ⟨b, t, a, l, o⟩), .map (.sb fun s => decide (s ∈ (hitsOf w (l.take k)).map (·.key))), .row .own (hitsOf w (l.take k)).length (.recs (hitsOf w (l.take k)))]) (fun k => l.length - k) (fun k => k ≤ l.length) 0 rfl (by simp [hitsOf, Sk.V]) (Nat.zero_le _) ?_
  intro I back k hk
  have hnext : k < l.length → hitsOf w (l.take (k + 1)) = hitS w (hitsOf w (l.take k)) (l.getD k 0) := fun h => by
    unfold hitsOf; rw [take_next l k 0 h, List.foldl_append]; rfl
  obtain ⟨hnd, hol⟩ := hits_fold (w := w) (refs := l.take k) (out := []) (by simp)
  have hnd : ((hitsOf w (l.take k)).map (·.key)).Nodup := hnd
  have hol : (hitsOf w (l.take k)).length ≤ k := by
    have : (hitsOf w (l.take k)).length ≤ 0 + (l.take k).length := hol
    rw [List.length_take] at this; omega
  by_cases hlt : k < l.length
  · have hb : ∀ (n : Nat) (lv : List AV) (h : List AObj), _ := fun n lv h => @back n lv h (k + 1)
    rw [hnext hlt] at hb
    clear back hnext
    generalize hitsOf w (l.take k) = out at *
    cases hx : recO w (l.getD k 0) with
    | none =>
      obtain ⟨e, he, hr⟩ := rreadV_no hx
      have hs : hitS w out (l.getD k 0) = out := by unfold hitS; rw [hx]
      rw [hs] at hb
      simp only [rec_Read.C, hr, zeroRc, he, decide_false, joinW_eq, Sk.V, joinW_eq, guard_tt, guard_tf, guard_ft, guard_ff, Int.reduceEq, Int.reduceLT, Int.reduceLE, decide_false, decide_true, Bool.not_false, Bool.not_true, Bool.not_not, not_true_eq_false, not_false_eq_true, true_implies, false_implies, implies_true, and_true, true_and, reduceCtorEq, Bool.and_self, Bool.or_self, Bool.and_true, Bool.true_and, Bool.false_eq_true, if_true, if_false, go_sem, Nat.reduceEqDiff, Nat.reduceLT, Nat.reduceAdd, Nat.reduceSub, Nat.reduceLeDiff, List.reduceReplicate, Int.reduceToNat]
      exact ⟨fun _ => ⟨⟨by omega, by omega⟩, hw, hb _ _ _ (by omega) (by rw [wnext (by omega)]) rfl (by omega)⟩, fun h => absurd h (by omega)⟩
    | some y =>
      obtain ⟨y1, y2, y3, y4⟩ := y
      by_cases hin : y2 ∈ out.map (·.key)
      · have hs : hitS w out (l.getD k 0) = out := by unfold hitS; rw [hx]; simp only [hin, if_true]
        rw [hs] at hb
        simp only [rec_Read.C, rreadV_so hx, hin, decide_true, joinW_eq, Sk.V, joinW_eq, guard_tt, guard_tf, guard_ft, guard_ff, Int.reduceEq, Int.reduceLT, Int.reduceLE, decide_false, decide_true, Bool.not_false, Bool.not_true, Bool.not_not, not_true_eq_false, not_false_eq_true, true_implies, false_implies, implies_true, and_true, true_and, reduceCtorEq, Bool.and_self, Bool.or_self, Bool.and_true, Bool.true_and, Bool.false_eq_true, if_true, if_false, go_sem, Nat.reduceEqDiff, Nat.reduceLT, Nat.reduceAdd, Nat.reduceSub, Nat.reduceLeDiff, List.reduceReplicate, Int.reduceToNat]
        exact ⟨fun _ => ⟨⟨by omega, by omega⟩, hw, hb _ _ _ (by omega) (by rw [wnext (by omega)]) rfl (by omega)⟩, fun h => absurd h (by omega)⟩
      · have hs : hitS w out (l.getD k 0) = out ++ [⟨y1, y2, y3, y4⟩] := by unfold hitS; rw [hx]; simp only [hin, if_false]; rfl
        rw [hs] at hb
        have hmap : (fun j => if j = y2 then true else decide (j ∈ out.map (·.key))) = fun j => decide (j ∈ (out ++ [(⟨y1, y2, y3, y4⟩ : RecT)]).map (·.key)) := by
          funext j
          rw [List.map_append, show decide (j ∈ out.map (·.key) ++ [(⟨y1, y2, y3, y4⟩ : RecT)].map (·.key)) = decide (j ∈ out.map (·.key) ∨ j = y2) from decide_eq_decide.2 (by simp)]
          by_cases e : j = y2
          · simp [e]
          · simp [e]
        simp only [rec_Read.C, rreadV_so hx, hin, decide_false, joinW_eq, Sk.V, joinW_eq, guard_tt, guard_tf, guard_ft, guard_ff, Int.reduceEq, Int.reduceLT, Int.reduceLE, decide_false, decide_true, Bool.not_false, Bool.not_true, Bool.not_not, not_true_eq_false, not_false_eq_true, true_implies, false_implies, implies_true, and_true, true_and, reduceCtorEq, Bool.and_self, Bool.or_self, Bool.and_true, Bool.true_and, Bool.false_eq_true, if_true, if_false, go_sem, Nat.reduceEqDiff, Nat.reduceLT, Nat.reduceAdd, Nat.reduceSub, Nat.reduceLeDiff, List.reduceReplicate, Int.reduceToNat]
        have hl1 : (out ++ [(⟨y1, y2, y3, y4⟩ : RecT)]).length = out.length + 1 := by simp
        refine ⟨fun _ => ⟨⟨by omega, by omega⟩, hw, by rw [hl1]; unfold roomy; omega, hb _ _ _ (by omega) (by rw [wnext (by omega), hl1]) (by rw [hmap, hl1]; rfl) (by omega)⟩, fun h => absurd h (by omega)⟩
  · obtain rfl : k = l.length := by omega
    rw [List.take_length] at hnd hol ⊢
    clear back hnext
    simp only [Sk.V, joinW_eq, guard_tt, guard_tf, guard_ft, guard_ff, Int.reduceEq, Int.reduceLT, Int.reduceLE, decide_false, decide_true, Bool.not_false, Bool.not_true, Bool.not_not, not_true_eq_false, not_false_eq_true, true_implies, false_implies, implies_true, and_true, true_and, reduceCtorEq, Bool.and_self, Bool.or_self, Bool.and_true, Bool.true_and, Bool.false_eq_true, if_true, if_false, go_sem, Nat.reduceEqDiff, Nat.reduceLT, Nat.reduceAdd, Nat.reduceSub, Nat.reduceLeDiff, List.reduceReplicate, Int.reduceToNat]
    refine ⟨fun h => absurd h (by omega), fun _ => ?_⟩
    refine sort_K ⟨b, t, a, l, o⟩ _ _ (hitsOf w l) _ rfl (by omega) _ fun l' tl hp hs => ?_
    simp only [hpS, SkT.V, joinW_eq, guard_tt, guard_tf, guard_ft, guard_ff, Int.reduceEq, Int.reduceLT, Int.reduceLE, decide_false, decide_true, Bool.not_false, Bool.not_true, Bool.not_not, not_true_eq_false, not_false_eq_true, true_implies, false_implies, implies_true, and_true, true_and, reduceCtorEq, Bool.and_self, Bool.or_self, Bool.and_true, Bool.true_and, Bool.false_eq_true, if_true, if_false, go_sem, Nat.reduceEqDiff, Nat.reduceLT, Nat.reduceAdd, Nat.reduceSub, Nat.reduceLeDiff, List.reduceReplicate, Int.reduceToNat]
    have e := sorted_is hp hs hnd
    rw [← e]
    refine post_val ?_ rfl
    simp only [List.take_of_length_le (Nat.le_of_eq hp.length_eq), go_sem, Nat.reduceEqDiff, Nat.reduceLT, Nat.reduceAdd, Nat.reduceSub, Nat.reduceLeDiff, List.reduceReplicate, Int.reduceToNat]
end Lam
namespace Lam
open Go Go.Proofs
set_option linter.unusedVariables false
def lamplighterref02_Numbers.loops : Nat → LInfo
  | 4 => ⟨[5], [false], [0, 1], [], [], []⟩
  | _ => ⟨[], [], [], [], [], []⟩
def lamplighterref02_Numbers.L1 (c : Ctx) (J1 : List AObj → Prop) (K : AOut → List AObj → Prop) (lv : List AV) (h0 : List AObj) (n0 : Nat) (c0 : AV) (c1 : AV) : Prop :=
  ∃ I : Nat → List AV → List AObj → Prop, (∃ n, I n lv h0) ∧ ∀ n h, ∀ t5, I n [t5] h →
    runD (lenD T_sl_int h c0) h fun t13 h =>
    runD (binD T_int .lss t5 t13) h fun t14 h =>
    condW t14
    (runD (indexAddrD T_sl_int h c0 t5) h fun t19 h =>
    runD (fitD T_int (loadD h t19)) h fun t20 h =>
    runD (indexAddrD T_sl_int h c1 t5) h fun t23 h =>
    runD (fitD T_int (loadD h t23)) h fun t24 h =>
    runD (binD T_int .neq t20 t24) h fun t25 h =>
    condW t25
    (K (.ret (.bool false)) h)
    (runD (binD T_int .add t5 (.int .i64 1)) h fun t16 h =>
    (∃ m, m < n ∧ I m (AV.norms n0 h [t16]) (normH n0 h)) ∧ AV.norms n0 h [c0, c1] = [c0, c1]))
    (J1 h)
def lamplighterref02_Numbers.H (c : Ctx) (t0 : AV) (t1 : AV) (h : List AObj) (K : AOut → List AObj → Prop) : Prop :=
  runD (lenD T_sl_int h t0) h fun t7 h =>
  runD (lenD T_sl_int h t1) h fun t9 h =>
  runD (binD T_int .neq t7 t9) h fun t10 h =>
  condW t10
  (K (.ret (.bool false)) h)
  (joinW (fun (J1 : List AObj → Prop) =>
  promV [false] [(.int .i64 0)] h fun lv h => lamplighterref02_Numbers.L1 c J1 K (AV.norms h.length h lv) (normH h.length h) h.length (AV.norm h.length h t0) (AV.norm h.length h t1))
  (fun h => K (.ret (.bool true)) h))
theorem lamplighterref02_Numbers.eq (F : List (FuncId × Contract)) (S : List (FuncId × Con)) (t0 t1 : AV) (h : List AObj) (K : AOut → List AObj → Prop) : funW (ctx F S lamplighterref02_Numbers.loops) Try.f20 [t0, t1] h K = lamplighterref02_Numbers.H (ctx F S lamplighterref02_Numbers.loops) t0 t1 h K := by kernel_rfl
theorem lamplighterref02_Numbers.at : Try.prog.funcs[20]? = some Try.f20 := by kernel_rfl
theorem lamplighterref02_Numbers.nm : (Try.f20.name == "runtime.NumGoroutine") = false := by kernel_rfl
theorem lamplighterref02_Numbers.bd : Try.f20.body.isNone = false := by kernel_rfl
end Lam
namespace Lam
open Go Go.Proofs
set_option linter.unusedVariables false
set_option linter.unnecessarySimpa false
set_option linter.unusedSimpArgs false
def lamplighterref02_Numbers.C : Contract
  | [.sl _ (.ints .i64 a), .sl _ (.ints .i64 b)] => some (false, pD (roomy a.length) (.bool (decide (a = b))))
  | _ => none
set_option maxRecDepth 20000 in
theorem lamplighterref02_Numbers.spec : FSpec Try.prog 20 lamplighterref02_Numbers.C := by
  refine FSpec.of (ctx_ok (F := []) (S := []) (by simp) (by simp) lamplighterref02_Numbers.loops) lamplighterref02_Numbers.at lamplighterref02_Numbers.nm lamplighterref02_Numbers.bd ?_
  intro vs b S v news e hS
  unfold lamplighterref02_Numbers.C at e
  split at e
  rotate_left
  · cases e
  cases e
  rw [lamplighterref02_Numbers.eq]
  unfold lamplighterref02_Numbers.H
  simp (maxSteps := 4000000) only [go_sem, Nat.reduceEqDiff, Nat.reduceLT, Nat.reduceAdd, Nat.reduceSub, Nat.reduceLeDiff, List.reduceReplicate, Int.reduceToNat]
  rename_i a _ b
  unfold roomy at hS
  refine ⟨fun hne => ?_, fun heq => ?_⟩
  · have : decide (a = b) = false := by rw [decide_eq_false_iff_not]; rintro rfl; exact hne rfl
    rw [this]; exact post_val rfl rfl
  rw [joinW_eq]
  unfold lamplighterref02_Numbers.L1
  have hlen : a.length = b.length := by omega
  refine loop1 (fun k : Nat => .int .i64 k) (fun _ => []) (fun k => a.length - k) (fun k => k ≤ a.length ∧ ∀ i, i < k → a.getD i 0 = b.getD i 0) 0 rfl rfl ⟨Nat.zero_le _, fun i hi => absurd hi (Nat.not_lt_zero i)⟩ ?_
  rintro I back k ⟨hk, hall⟩
  simp only [go_sem, Nat.reduceEqDiff, Nat.reduceLT, Nat.reduceAdd, Nat.reduceSub, Nat.reduceLeDiff, List.reduceReplicate, Int.reduceToNat]
  refine ⟨fun hlt => ⟨by omega, by omega, fun h0 => ?_, fun h0 => ?_⟩, fun hge => ?_⟩
  · have : decide (a = b) = false := by rw [decide_eq_false_iff_not]; rintro rfl; exact h0 rfl
    rw [this]; exact post_val rfl rfl
  · refine back (k + 1) (by omega) (by rw [wnext (by omega)]) rfl ⟨by omega, fun i hi => ?_⟩
    by_cases e : i = k
    · subst e; exact h0
    · exact hall i (by omega)
  · rw [decide_eq_true (ext_d 0 hlen fun i hi => hall i (by omega))]; exact post_val rfl rfl
end Lam
namespace Lam
open Go Go.Proofs
set_option linter.unusedVariables false
def lamplighterlaw13_awake.loops : Nat → LInfo
  | 4 => ⟨[5], [false], [1, 3, 4], [], [], []⟩
  | 10 => ⟨[], [], [], [(3, none), (2, some [45, 47]), (2, none), (4, some [49, 53]), (2, none), (2, some [55, 57]), (2, none), (3, some [59, 62]), (2, none), (5, some [64, 69]), (2, none), (3, some [71, 74]), (2, none), (4, some [76, 80])], [], []⟩
  | _ => ⟨[], [], [], [], [], []⟩
def lamplighterlaw13_awake.L1 (c : Ctx) (J1 : AV → AV → AV → List AObj → Prop) (K : AOut → List AObj → Prop) (lv : List AV) (h0 : List AObj) (n0 : Nat) (c1 : AV) (c3 : AV) (c4 : AV) : Prop :=
  ∃ I : Nat → List AV → List AObj → Prop, (∃ n, I n lv h0) ∧ ∀ n h, ∀ t5, I n [t5] h →
    runD (binD T_int .lss t5 (.int .i64 13)) h fun t23 h =>
    condW t23
    (runD (fitD T_api_Seek (loadD h c3)) h fun t27 h =>
    callW false c (.fn (.func 28) [] []) [c1, t27] h (fun t28 h =>
    runH (storeH T_api_Seek h c3 t28) h fun _ h =>
    runD (binD T_int .add t5 (.int .i64 1)) h fun t25 h =>
    (∃ m, m < n ∧ I m (AV.norms n0 h [t25]) (normH n0 h)) ∧ AV.norms n0 h [c1, c3, c4] = [c1, c3, c4])
    (fun v h => K (.pan v) h))
    (J1 c1 c3 c4 h)
def lamplighterlaw13_awake.H (c : Ctx) (h : List AObj) (K : AOut → List AObj → Prop) : Prop :=
  runD (buildSliceD T_sl_int 3 [(0, (.int .i64 5)), (1, (.int .i64 5)), (2, (.int .i64 6))] h.length) h fun t12 h =>
  runD (buildD T_api_Node [(1, (.int .i64 1)), (4, t12)]) h fun t13 h =>
  callW false c (.fn (.func 35) [] []) [t13] h (fun t14 h =>
  runD (extractD t14 0) h fun t15 h =>
  runD (extractD t14 1) h fun t16 h =>
  callW false c (.fn (.func 25) [] []) [t15, (.int .i64 0)] h (fun t19 h =>
  runD (extractD t19 0) h fun t20 h =>
  runD (extractD t19 1) h fun t21 h =>
  allocW T_api_Seek h fun t3 h =>
  runH (storeH T_api_Seek h t3 t20) h fun _ h =>
  joinW (fun (J1 : AV → AV → AV → List AObj → Prop) =>
  promV [false] [(.int .i64 0)] h fun lv h => lamplighterlaw13_awake.L1 c J1 K (AV.norms h.length h lv) (normH h.length h) h.length (AV.norm h.length h t15) (AV.norm h.length h t3) (AV.norm h.length h t21))
  (fun t1 t3 t4 h => callW false c (.fn (.func 25) [] []) [t1, (.int .i64 1)] h (fun t31 h =>
  runD (extractD t31 0) h fun t32 h =>
  runD (extractD t31 1) h fun t33 h =>
  allocW T_api_Seek h fun t6 h =>
  runH (storeH T_api_Seek h t6 t32) h fun _ h =>
  runD (buildD T_api_Rec [(0, (.int .i64 1)), (1, (.str [97]))]) h fun t35 h =>
  callW false c (.fn (.func 60) [] []) [t35] h (fun t36 h =>
  runD (extractD t36 0) h fun t37 h =>
  runD (extractD t36 1) h fun t38 h =>
  runD (buildSliceD T_sl_int 3 [(0, (.int .i64 0)), (1, (.int .i64 1)), (2, (.int .i64 0))] h.length) h fun t40 h =>
  runD (buildD T_api_Seek [(3, t40)]) h fun t41 h =>
  callW false c (.fn (.func 33) [] []) [t37, t41] h (fun t42 h =>
  runD (binD T_api_Errno .eql t4 (.int .i64 0)) h fun t44 h =>
  joinW (fun (J2 : AV → AV → List AObj → Prop) =>
  guardW t44 true
  (runD (fieldAddrD T_api_Seek t3 4) h fun t46 h =>
    runD (fitD T_bool (loadD h t46)) h fun t47 h =>
    J2 (.bool true) t47 h)
  (J2 (.bool false) .und h))
  (fun t45 t47 h => runD (pickD t45 t47 (.bool false)) h fun t48 h =>
  joinW (fun (J3 : AV → AV → List AObj → Prop) =>
  guardW t48 true
  (runD (fieldAddrD T_api_Seek t3 3) h fun t50 h =>
    runD (fitD T_sl_int (loadD h t50)) h fun t51 h =>
    runD (buildSliceD T_sl_int 2 [(0, (.int .i64 6)), (1, (.int .i64 5))] h.length) h fun t52 h =>
    callW false c (.fn (.func 20) [] []) [t51, t52] h (fun t53 h =>
    J3 (.bool true) t53 h)
    (fun v h => K (.pan v) h))
  (J3 (.bool false) .und h))
  (fun t49 t53 h => runD (pickD t49 t53 (.bool false)) h fun t54 h =>
  joinW (fun (J4 : AV → AV → List AObj → Prop) =>
  guardW t54 true
  (runD (binD T_api_Errno .eql t33 (.int .i64 90)) h fun t57 h =>
    J4 (.bool true) t57 h)
  (J4 (.bool false) .und h))
  (fun t55 t57 h => runD (pickD t55 t57 (.bool false)) h fun t58 h =>
  joinW (fun (J5 : AV → AV → List AObj → Prop) =>
  guardW t58 true
  (runD (lenD T_sl_api_Rec h t42) h fun t61 h =>
    runD (binD T_int .eql t61 (.int .i64 1)) h fun t62 h =>
    J5 (.bool true) t62 h)
  (J5 (.bool false) .und h))
  (fun t59 t62 h => runD (pickD t59 t62 (.bool false)) h fun t63 h =>
  joinW (fun (J6 : AV → AV → List AObj → Prop) =>
  guardW t63 true
  (runD (indexAddrD T_sl_api_Rec h t42 (.int .i64 0)) h fun t66 h =>
    runD (fieldAddrD T_api_Rec t66 1) h fun t67 h =>
    runD (fitD T_string (loadD h t67)) h fun t68 h =>
    runD (binD T_string .eql t68 (.str [97])) h fun t69 h =>
    J6 (.bool true) t69 h)
  (J6 (.bool false) .und h))
  (fun t64 t69 h => runD (pickD t64 t69 (.bool false)) h fun t70 h =>
  joinW (fun (J7 : AV → AV → List AObj → Prop) =>
  guardW t70 true
  (runD (fitD T_api_Seek (loadD h t3)) h fun t73 h =>
    callW false c (.fn (.func 30) [] []) [t1, t73] h (fun t74 h =>
    J7 (.bool true) t74 h)
    (fun v h => K (.pan v) h))
  (J7 (.bool false) .und h))
  (fun t71 t74 h => runD (pickD t71 t74 (.bool false)) h fun t75 h =>
  joinW (fun (J8 : AV → AV → List AObj → Prop) =>
  guardW t75 true
  (runD (buildD T_api_Seek []) h fun t78 h =>
    callW false c (.fn (.func 30) [] []) [t1, t78] h (fun t79 h =>
    runD (unD .not t79) h fun t80 h =>
    J8 (.bool true) t80 h)
    (fun v h => K (.pan v) h))
  (J8 (.bool false) .und h))
  (fun t76 t80 h => runD (pickD t76 t80 (.bool false)) h fun t81 h =>
  K (.ret t81) h))))))))
  (fun v h => K (.pan v) h))
  (fun v h => K (.pan v) h))
  (fun v h => K (.pan v) h)))
  (fun v h => K (.pan v) h))
  (fun v h => K (.pan v) h)
theorem lamplighterlaw13_awake.eq (F : List (FuncId × Contract)) (S : List (FuncId × Con)) (h : List AObj) (K : AOut → List AObj → Prop) : funW (ctx F S lamplighterlaw13_awake.loops) Try.f24 [] h K = lamplighterlaw13_awake.H (ctx F S lamplighterlaw13_awake.loops)  h K := by kernel_rfl
theorem lamplighterlaw13_awake.at : Try.prog.funcs[24]? = some Try.f24 := by kernel_rfl
theorem lamplighterlaw13_awake.nm : (Try.f24.name == "runtime.NumGoroutine") = false := by kernel_rfl
theorem lamplighterlaw13_awake.bd : Try.f24.body.isNone = false := by kernel_rfl
end Lam
namespace Lam
set_option maxRecDepth 20000
open Go Go.Proofs
set_option linter.unusedVariables false
set_option linter.unnecessarySimpa false
set_option linter.unusedSimpArgs false
def N13 : List Int := wordsNd ⟨0, 1, 0, 0, [5, 5, 6]⟩
def A13 : List Int := formR ⟨1, [97], [], 0⟩
def stepsN (w : List Int) (s : Sk) : Nat → Sk
  | 0 => s
  | k + 1 => stepS w (stepsN w s k)
def s13 : Sk := ⟨0, 1, 12, [], false⟩
theorem stepS_len (w : List Int) (s : Sk) : (stepS w s).refs.length ≤ s.refs.length + 1 := by
  unfold stepS
  split
  · omega
  · unfold goOn
    simp only
    split
    · simp
    · omega
theorem stepsN_len (w : List Int) (s : Sk) : ∀ k, (stepsN w s k).refs.length ≤ s.refs.length + k
  | 0 => Nat.le_refl _
  | k + 1 => by
    have := stepsN_len w s k
    have := stepS_len w (stepsN w s k)
    unfold stepsN
    omega
theorem aw13_0 : wordsV ⟨0, 1, 0, 0, [5, 5, 6]⟩ = .tup [.sl false (.ints .i64 N13), .int .i64 0] := by unfold wordsV; rw [if_pos (by decide +kernel)]; rfl
theorem aw13_1 : beginV N13 0 = .tup [s13.V, .int .i64 0] := by
  unfold beginV
  rw [show beginO N13 0 = some s13 from by
    unfold beginO
    rw [show nodeO N13 0 = some ⟨0, 1, 0, 0, [5, 5, 6]⟩ from by decide +kernel]
    rfl]
theorem aw13_2 : beginV N13 1 = .tup [skZ.V, .int .i64 90] := by
  unfold beginV
  rw [show beginO N13 1 = none from by
    unfold beginO
    rw [show nodeO N13 1 = none from by decide +kernel]]
theorem aw13_3 : rwordsV ⟨1, [97], [], 0⟩ = .tup [.sl false (.ints .i64 A13), .int .i64 0] := by unfold rwordsV; rw [if_pos (by decide +kernel)]; rfl
theorem aw13_4 : sortR (hitsOf A13 [0, 1, 0]) = [⟨1, [97], [], 0⟩] := by decide +kernel
theorem aw13_5 : holdsB N13 0 1 = true := by
  unfold holdsB
  rw [show nodeO N13 0 = some ⟨0, 1, 0, 0, [5, 5, 6]⟩ from by decide +kernel]; rfl
theorem aw13_6 : holdsB N13 0 0 = false := by
  unfold holdsB
  rw [show nodeO N13 0 = some ⟨0, 1, 0, 0, [5, 5, 6]⟩ from by decide +kernel]; rfl
theorem aw13_7 : stepsN N13 s13 13 = ⟨0, 1, 0, [6, 5], true⟩ := by rfl
def lamplighterlaw13_awake.C : Contract
  | [] => some (false, pD True (.bool true))
  | _ => none
set_option maxRecDepth 20000 in
theorem lamplighterlaw13_awake.spec : FSpec Try.prog 24 lamplighterlaw13_awake.C := by
  refine FSpec.of (ctx_ok (F := [(35, node_Words.C), (60, rec_Words.C), (25, seek_Begin.C), (28, seek_Step.C), (33, seek_Hits.C), (30, seek_Holds.C), (20, lamplighterref02_Numbers.C)]) (S := []) (by simpa using ⟨node_Words.spec, rec_Words.spec, seek_Begin.spec, seek_Step.spec, seek_Hits.spec, seek_Holds.spec, lamplighterref02_Numbers.spec⟩) (by simp) lamplighterlaw13_awake.loops) lamplighterlaw13_awake.at lamplighterlaw13_awake.nm lamplighterlaw13_awake.bd ?_
  intro vs b S v news e hS
  unfold lamplighterlaw13_awake.C at e
  split at e
  rotate_left
  · cases e
  cases e
  rw [lamplighterlaw13_awake.eq]
  unfold lamplighterlaw13_awake.H
  simp (maxSteps := 4000000) only [go_sem, Nat.reduceEqDiff, Nat.reduceLT, Nat.reduceAdd, Nat.reduceSub, Nat.reduceLeDiff, List.reduceReplicate, Int.reduceToNat, node_Words.C, rec_Words.C, seek_Begin.C, seek_Step.C, seek_Hits.C, seek_Holds.C, lamplighterref02_Numbers.C, aw13_0, aw13_1, aw13_2, aw13_3, aw13_4]
  have rN : roomy N13.length := by unfold roomy; decide
  simp only [seek_Begin.C, aw13_0, aw13_1, s13, Sk.V, joinW_eq, guard_tt, guard_tf, guard_ft, guard_ff, Int.reduceEq, Int.reduceLT, Int.reduceLE, decide_false, decide_true, Bool.not_false, Bool.not_true, Bool.not_not, not_true_eq_false, not_false_eq_true, true_implies, false_implies, implies_true, and_true, true_and, reduceCtorEq, Bool.and_self, Bool.or_self, Bool.and_true, Bool.true_and, Bool.false_eq_true, if_true, if_false, go_sem, Nat.reduceEqDiff, Nat.reduceLT, Nat.reduceAdd, Nat.reduceSub, Nat.reduceLeDiff, List.reduceReplicate, Int.reduceToNat]
  refine ⟨rN, ?_⟩
  unfold lamplighterlaw13_awake.L1
  refine loop1 (σ := Nat) (fun k => .int .i64 k) (fun k => [.row .fro 0 (.ints .i64 [5, 5, 6]), .box (stepsN N13 s13 k).V]) (fun k => 13 - k) (fun k => k ≤ 13) 0 rfl rfl (by decide) ?_
  intro I back k hk
  by_cases hlt : k < 13
  · have hb := @back (13 - k) [.int .i64 ((k + 1 : Nat) : Int)] [.row .fro 0 (.ints .i64 [5, 5, 6]), .box (stepS N13 (stepsN N13 s13 k)).V] (k + 1) (by omega) rfl rfl (by omega)
    have hl := stepsN_len N13 s13 k
    rw [show s13.refs.length = 0 from rfl] at hl
    clear back
    generalize stepsN N13 s13 k = s at *
    obtain ⟨b, t, a, l, o⟩ := s
    simp only at hl
    have d1 : decide ((k : Int) < 13) = true := decide_eq_true (by omega)
    generalize hs : stepS N13 ⟨b, t, a, l, o⟩ = s' at *
    obtain ⟨b', t', a', l', o'⟩ := s'
    simp only [Sk.V, d1, seek_Step.C, hs, wnext (show k < 4611686018427387904 by omega), joinW_eq, guard_tt, guard_tf, guard_ft, guard_ff, Int.reduceEq, Int.reduceLT, Int.reduceLE, decide_false, decide_true, Bool.not_false, Bool.not_true, Bool.not_not, not_true_eq_false, not_false_eq_true, true_implies, false_implies, implies_true, and_true, true_and, reduceCtorEq, Bool.and_self, Bool.or_self, Bool.and_true, Bool.true_and, Bool.false_eq_true, if_true, if_false, go_sem, Nat.reduceEqDiff, Nat.reduceLT, Nat.reduceAdd, Nat.reduceSub, Nat.reduceLeDiff, List.reduceReplicate, Int.reduceToNat] at hb ⊢
    exact ⟨⟨by decide, by omega⟩, hb⟩
  · obtain rfl : k = 13 := by omega
    clear back
    rw [aw13_7]
    simp only [Sk.V, seek_Begin.C, aw13_2, seek_Hits.C, aw13_4, aw13_5, aw13_6, seek_Holds.C, skZ, lamplighterref02_Numbers.C, decide_true, decide_false, joinW_eq, guard_tt, guard_tf, guard_ft, guard_ff, Int.reduceEq, Int.reduceLT, Int.reduceLE, decide_false, decide_true, Bool.not_false, Bool.not_true, Bool.not_not, not_true_eq_false, not_false_eq_true, true_implies, false_implies, implies_true, and_true, true_and, reduceCtorEq, Bool.and_self, Bool.or_self, Bool.and_true, Bool.true_and, Bool.false_eq_true, if_true, if_false, go_sem, Nat.reduceEqDiff, Nat.reduceLT, Nat.reduceAdd, Nat.reduceSub, Nat.reduceLeDiff, List.reduceReplicate, Int.reduceToNat]
    exact ⟨rN, by unfold roomy; decide, by unfold roomy; omega, rN, rN, post_val rfl rfl⟩
end Lam
namespace Lam
open Go
set_option linter.unusedVariables false
set_option linter.unusedSimpArgs false
/-- what is seen, and one more -/
def seeR (refs : List Int) (W : Int) : List Int := if 0 < W ∧ refs.getLast? ≠ some W then refs ++ [W] else refs
theorem last_getD (l : List Int) (W : Int) : (decide (l.length = 0) || !decide (l.getD (l.length - 1) 0 = W)) = decide (l.getLast? ≠ some W) := by
  cases l with
  | nil => simp
  | cons a r =>
    rw [List.getLast?_eq_getElem?, List.getD_eq_getElem?_getD]
    have h : (a :: r).length - 1 < (a :: r).length := by simp
    rw [List.getElem?_eq_getElem h]
    simp
theorem goOn_refs (W : Int) (s : Sk) : (goOn W s).refs = seeR s.refs W := by
  unfold goOn seeR
  simp only [last_getD]
  by_cases h : 0 < W ∧ s.refs.getLast? ≠ some W
  · rw [if_pos h, if_pos (by simp only [Bool.and_eq_true, decide_eq_true_eq]; exact h)]
  · rw [if_neg h, if_neg (by simp only [Bool.and_eq_true, decide_eq_true_eq]; exact h)]
/-- there is a block to look at -/
def InW (w : List Int) (b : Int) : Prop := 0 ≤ b ∧ b < 256 ∧ b < ((w.length / 16 : Nat) : Int)
def slotW (w : List Int) (b : Int) (k : Nat) : Int := w.getD ((16 * b).toNat + 3 + k) 0
theorem stepS_go {w : List Int} {b t : Int} {k : Nat} {refs : List Int} (h : InW w b) (hk : k < 13) : stepS w ⟨b, t, k, refs, false⟩ = goOn (slotW w b k) ⟨b, t, k, refs, false⟩ := by
  obtain ⟨h0, h1, h2⟩ := h
  have hs : spotI w ⟨b, t, k, refs, false⟩ = 16 * b + 3 + k := by
    unfold spotI
    rw [if_pos (by simp only [Bool.and_eq_true, decide_eq_true_eq]; exact ⟨⟨h0, h1⟩, h2⟩)]
    show placeI (16 * b) k = _
    exact place_at ((node_iff (by omega)).2 ⟨by omega, by omega, by omega⟩) (by omega) (by show (0 : Int) ≤ k; omega) (by show (k : Int) < 13; omega)
  unfold stepS slotW
  rw [hs, decide_eq_false (by omega), if_neg (show ¬ (false || false) = true by decide)]
  rw [show (16 * b + 3 + (k : Int)).toNat = (16 * b).toNat + 3 + k by omega]
theorem stepS_over {w : List Int} {s : Sk} (h : s.over = true) : stepS w s = s := by unfold stepS; rw [h]; rfl
theorem stepS_up {w : List Int} {b t : Int} {k : Nat} {refs : List Int} (h : InW w b) (hk : k < 13) (hd : downB t = false) :
    stepS w ⟨b, t, k, refs, false⟩ = if slotW w b k < 1 ∨ k = 12 then ⟨b, t, k, seeR refs (slotW w b k), true⟩ else ⟨b, t, (k + 1 : Nat), seeR refs (slotW w b k), false⟩ := by
  rw [stepS_go h hk]
  have hr := goOn_refs (slotW w b k) ⟨b, t, k, refs, false⟩
  have ho : overB (slotW w b k) ⟨b, t, k, refs, false⟩ = decide (slotW w b k < 1 ∨ k = 12) := by
    unfold overB
    simp only [hd]
    rw [if_neg (by decide)]
    rw [show decide ((k : Int) = 12) = decide (k = 12) from decide_eq_decide.2 (by omega)]
    by_cases h1 : slotW w b k < 1 <;> by_cases h2 : k = 12 <;> simp [h1, h2]
  unfold goOn at hr ⊢
  simp only at hr
  rw [ho]
  simp only [hr]
  by_cases hc : slotW w b k < 1 ∨ k = 12
  · rw [if_pos hc, decide_eq_true hc]; simp
  · rw [if_neg hc, decide_eq_false hc]
    simp only [hd]
    rw [if_neg (by decide), if_neg (by decide), wnext (by omega)]
theorem stepS_down {w : List Int} {b t : Int} {k : Nat} {refs : List Int} (h : InW w b) (hk : k < 13) (hd : downB t = true) :
    stepS w ⟨b, t, k, refs, false⟩ = if k = 0 then ⟨b, t, k, seeR refs (slotW w b k), true⟩ else ⟨b, t, (k - 1 : Nat), seeR refs (slotW w b k), false⟩ := by
  rw [stepS_go h hk]
  have hr := goOn_refs (slotW w b k) ⟨b, t, k, refs, false⟩
  have ho : overB (slotW w b k) ⟨b, t, k, refs, false⟩ = decide (k = 0) := by
    unfold overB
    simp only [hd, if_true]
    exact decide_eq_decide.2 (by omega)
  unfold goOn at hr ⊢
  simp only at hr
  rw [ho]
  simp only [hr]
  by_cases hc : k = 0
  · rw [if_pos hc, decide_eq_true hc]; simp
  · rw [if_neg hc, decide_eq_false hc]
    simp only [hd, if_true]
    rw [if_neg (by decide)]
    rw [show IntKind.i64.wrap ((k : Int) - 1) = ((k - 1 : Nat) : Int) by rw [w64 (by omega) (by omega)]; omega]
theorem getLast_plain : ∀ l : List Int, (plain l).getLast? = l.getLast?
  | [] => rfl
  | [a] => rfl
  | a :: b :: r => by
    have ih := getLast_plain (b :: r)
    simp only [plain]
    split
    · rw [ih]; simp
    · rw [List.getLast?_cons, ih, List.getLast?_cons (a := a), List.getLast?_cons (a := b)]
theorem seeR_plain {l : List Int} {W : Int} (h : 0 < W) : seeR (plain l) W = plain (l ++ [W]) := by
  unfold seeR
  rw [plain_snoc, getLast_plain]
  by_cases e : l.getLast? = some W
  · rw [if_pos e, if_neg (fun h => h.2 e)]
  · rw [if_neg e, if_pos ⟨h, e⟩]
theorem seeR_none {l : List Int} {W : Int} (h : ¬ 0 < W) : seeR l W = l := by unfold seeR; rw [if_neg (fun h' => h h'.1)]
theorem plain_cons (a : Int) (l : List Int) : plain (a :: l) = if l.head? = some a then plain l else a :: plain l := by
  cases l with
  | nil => rfl
  | cons b r =>
    have h : ((b :: r).head? = some a) ↔ a = b := by rw [List.head?_cons]; exact ⟨fun h => by cases h; rfl, fun h => by rw [h]⟩
    by_cases e : a = b
    · rw [if_pos (h.2 e)]; simp only [plain, if_pos e]
    · rw [if_neg (fun h' => e (h.1 h'))]; simp only [plain, if_neg e]
theorem plain_rev : ∀ l : List Int, plain l.reverse = (plain l).reverse
  | [] => rfl
  | a :: l => by
    rw [List.reverse_cons, plain_snoc, plain_cons, plain_rev l, List.getLast?_reverse]
    split
    · rfl
    · rw [List.reverse_cons]
/-- a node at a block, as far as looks see it -/
def SlotsAt (w : List Int) (b : Int) (l : List Int) : Prop := InW w b ∧ l.length ≤ 13 ∧ (∀ x ∈ l, 0 < x) ∧ ∀ k, k < 13 → slotW w b k = l.getD k 0
def upAt (b t : Int) (l : List Int) (k : Nat) : Sk := if k ≤ min l.length 12 then ⟨b, t, k, plain (l.take k), false⟩ else ⟨b, t, (min l.length 12 : Nat), plain l, true⟩
theorem up_next {w : List Int} {b t : Int} {l : List Int} (h : SlotsAt w b l) (hd : downB t = false) (k : Nat) : stepS w (upAt b t l k) = upAt b t l (k + 1) := by
  obtain ⟨hin, hl, hpos, hs⟩ := h
  unfold upAt
  by_cases hk : k ≤ min l.length 12
  · have hk13 : k < 13 := by omega
    rw [if_pos hk, stepS_up hin hk13 hd, hs k hk13]
    by_cases hkl : k < l.length
    · have hp := hpos _ (getD_mem l k 0 hkl)
      rw [seeR_plain hp, ← take_next l k 0 hkl]
      by_cases h12 : k = 12
      · rw [if_pos (.inr h12), if_neg (by omega)]
        rw [show min l.length 12 = k by omega, List.take_of_length_le (by omega)]
      · rw [if_neg (by omega), if_pos (by omega)]
    · obtain rfl : k = l.length := by omega
      have h0 : l.getD l.length 0 = 0 := by rw [List.getD_eq_getElem?_getD, List.getElem?_eq_none (Nat.le_refl _)]; rfl
      rw [h0, seeR_none (by decide), if_pos (.inl (by decide)), if_neg (by omega), List.take_length]
      rw [show min l.length 12 = l.length by omega]
  · rw [if_neg hk, if_neg (by omega), stepS_over rfl]
def downAt (b t : Int) (l : List Int) (k : Nat) : Sk := if k ≤ 12 then ⟨b, t, (12 - k : Nat), plain (l.drop (13 - k)).reverse, false⟩ else ⟨b, t, 0, plain l.reverse, true⟩
theorem down_next {w : List Int} {b t : Int} {l : List Int} (h : SlotsAt w b l) (hd : downB t = true) (k : Nat) : stepS w (downAt b t l k) = downAt b t l (k + 1) := by
  obtain ⟨hin, hl, hpos, hs⟩ := h
  unfold downAt
  by_cases hk : k ≤ 12
  · have hk13 : 12 - k < 13 := by omega
    have hsee : seeR (plain (l.drop (13 - k)).reverse) (l.getD (12 - k) 0) = plain (l.drop (12 - k)).reverse := by
      by_cases hkl : 12 - k < l.length
      · rw [seeR_plain (hpos _ (getD_mem l _ 0 hkl)), drop_cons l (12 - k) 0 hkl, List.reverse_cons, show 13 - k = 12 - k + 1 by omega]
      · rw [List.getD_eq_getElem?_getD, List.getElem?_eq_none (by omega), seeR_none (by decide), List.drop_of_length_le (by omega), List.drop_of_length_le (by omega)]
    rw [if_pos hk, stepS_down hin hk13 hd, hs _ hk13, hsee]
    by_cases h12 : k = 12
    · subst h12
      rw [if_pos (by decide), if_neg (by decide)]
      rfl
    · rw [if_neg (by omega), if_pos (by omega)]
      rw [show 12 - k - 1 = 12 - (k + 1) by omega, show 12 - k = 13 - (k + 1) by omega]
  · rw [if_neg hk, if_neg (by omega), stepS_over rfl]
end Lam
namespace Lam
open Go Go.Proofs
set_option linter.unusedVariables false
def lamplighterref06_Plain.loops : Nat → LInfo
  | 3 => ⟨[3, 4], [true, false], [0], [], [], []⟩
  | _ => ⟨[], [], [], [], [], []⟩
def lamplighterref06_Plain.L1 (c : Ctx) (J1 : AV → List AObj → Prop) (K : AOut → List AObj → Prop) (lv : List AV) (h0 : List AObj) (n0 : Nat) (c0 : AV) : Prop :=
  ∃ I : Nat → List AV → List AObj → Prop, (∃ n, I n lv h0) ∧ ∀ n h, ∀ t3, ∀ t4, I n [t3, t4] h →
    runD (lenD T_sl_int h c0) h fun t7 h =>
    runD (binD T_int .lss t4 t7) h fun t8 h =>
    condW t8
    (runD (binD T_int .eql t4 (.int .i64 0)) h fun t12 h =>
    joinW (fun (J2 : AV → AV → List AObj → Prop) =>
    guardW t12 false
    (runD (indexAddrD T_sl_int h c0 t4) h fun t16 h =>
      runD (fitD T_int (loadD h t16)) h fun t17 h =>
      runD (binD T_int .sub t4 (.int .i64 1)) h fun t20 h =>
      runD (indexAddrD T_sl_int h c0 t20) h fun t21 h =>
      runD (fitD T_int (loadD h t21)) h fun t22 h =>
      runD (binD T_int .neq t17 t22) h fun t23 h =>
      J2 (.bool false) t23 h)
    (J2 (.bool true) .und h))
    (fun t13 t23 h => runD (pickD t13 (.bool true) t23) h fun t24 h =>
    joinW (fun (J3 : AV → List AObj → Prop) =>
    condW t24
    (runD (indexAddrD T_sl_int h c0 t4) h fun t28 h =>
      runD (fitD T_int (loadD h t28)) h fun t29 h =>
      runD (buildSliceD T_sl_int 1 [(0, t29)] h.length) h fun t30 h =>
      runDM (appendD T_sl_int h t3 t30 h.length) (appendH T_sl_int h t3 t30) h fun t31 h =>
      J3 t31 h)
    (J3 t3 h))
    (fun t3 h => runD (binD T_int .add t4 (.int .i64 1)) h fun t10 h =>
    (∃ m, m < n ∧ I m (AV.norms n0 h [t3, t10]) (normH n0 h)) ∧ AV.norms n0 h [c0] = [c0])))
    (J1 t3 h)
def lamplighterref06_Plain.H (c : Ctx) (t0 : AV) (h : List AObj) (K : AOut → List AObj → Prop) : Prop :=
  joinW (fun (J1 : AV → List AObj → Prop) =>
  promV [true, false] [(.sl true (.ints .i64 [])), (.int .i64 0)] h fun lv h => lamplighterref06_Plain.L1 c J1 K (AV.norms h.length h lv) (normH h.length h) h.length (AV.norm h.length h t0))
  (fun t3 h => K (.ret t3) h)
theorem lamplighterref06_Plain.eq (F : List (FuncId × Contract)) (S : List (FuncId × Con)) (t0 : AV) (h : List AObj) (K : AOut → List AObj → Prop) : funW (ctx F S lamplighterref06_Plain.loops) Try.f36 [t0] h K = lamplighterref06_Plain.H (ctx F S lamplighterref06_Plain.loops) t0 h K := by kernel_rfl
theorem lamplighterref06_Plain.at : Try.prog.funcs[36]? = some Try.f36 := by kernel_rfl
theorem lamplighterref06_Plain.nm : (Try.f36.name == "runtime.NumGoroutine") = false := by kernel_rfl
theorem lamplighterref06_Plain.bd : Try.f36.body.isNone = false := by kernel_rfl
end Lam
namespace Lam
open Go Go.Proofs
set_option linter.unusedVariables false
set_option linter.unnecessarySimpa false
set_option linter.unusedSimpArgs false
def lamplighterref06_Plain.C : Contract
  | [.sl _ (.ints .i64 l)] => some (false, pD (roomy l.length) (.sl false (.ints .i64 (plain l))))
  | _ => none
set_option maxRecDepth 20000 in
theorem lamplighterref06_Plain.spec : FSpec Try.prog 36 lamplighterref06_Plain.C := by
  refine FSpec.of (ctx_ok (F := []) (S := []) (by simp) (by simp) lamplighterref06_Plain.loops) lamplighterref06_Plain.at lamplighterref06_Plain.nm lamplighterref06_Plain.bd ?_
  intro vs b S v news e hS
  unfold lamplighterref06_Plain.C at e
  split at e
  rotate_left
  · cases e
  cases e
  rw [lamplighterref06_Plain.eq]
  unfold lamplighterref06_Plain.H
  simp (maxSteps := 4000000) only [go_sem, Nat.reduceEqDiff, Nat.reduceLT, Nat.reduceAdd, Nat.reduceSub, Nat.reduceLeDiff, List.reduceReplicate, Int.reduceToNat]
  rename_i _ l
  have hr := hS
  unfold roomy at hr
  rw [joinW_eq]
  unfold lamplighterref06_Plain.L1
  refine loop2 (σ := Nat) (fun k => .sref false 0 (plain (l.take k)).length 0 (plain (l.take k)).length) (fun k => .int .i64 k) (fun k => [.row .own (plain (l.take k)).length (.ints .i64 (plain (l.take k)))]) (fun k => l.length - k) (fun k => k ≤ l.length) 0 rfl rfl (Nat.zero_le _) ?_
  intro I back k hk
  by_cases hlt : k < l.length
  · have hb : ∀ (n : Nat) (lv : List AV) (h : List AObj), _ := fun n lv h => @back n lv h (k + 1)
    have hpl := plain_len (l.take k)
    rw [List.length_take] at hpl
    have d0 : decide ((k : Int) < (l.length : Int)) = true := decide_eq_true (by omega)
    by_cases hk0 : k = 0
    · subst hk0
      rw [plain_take1 hlt] at hb
      simp only [joinW_eq, List.take_zero, plain, joinW_eq, guard_tt, guard_tf, guard_ft, guard_ff, Int.reduceEq, Int.reduceLT, Int.reduceLE, decide_false, decide_true, Bool.not_false, Bool.not_true, Bool.not_not, not_true_eq_false, not_false_eq_true, true_implies, false_implies, implies_true, and_true, true_and, reduceCtorEq, Bool.and_self, Bool.or_self, Bool.and_true, Bool.true_and, Bool.false_eq_true, if_true, if_false, go_sem, Nat.reduceEqDiff, Nat.reduceLT, Nat.reduceAdd, Nat.reduceSub, Nat.reduceLeDiff, List.reduceReplicate, Int.reduceToNat]
      exact ⟨fun _ => ⟨by omega, by unfold roomy; omega, hb _ _ _ (by omega) (by rw [show IntKind.i64.wrap (0 + 1) = ((0 + 1 : Nat) : Int) from by decide +kernel]; rfl) rfl (by omega)⟩, fun h => absurd h (by omega)⟩
    · have hk1 : decide ((k : Int) = 0) = false := decide_eq_false (by omega)
      have e1 : IntKind.i64.wrap ((k : Int) - 1) = ((k - 1 : Nat) : Int) := by rw [w64 (by omega) (by omega)]; omega
      rw [plain_take (by omega) hlt] at hb
      generalize plain (l.take k) = out at *
      by_cases he : l.getD k 0 = l.getD (k - 1) 0
      · rw [if_pos he] at hb
        simp only [joinW_eq, hk1, e1, he, Int.toNat_natCast, joinW_eq, guard_tt, guard_tf, guard_ft, guard_ff, Int.reduceEq, Int.reduceLT, Int.reduceLE, decide_false, decide_true, Bool.not_false, Bool.not_true, Bool.not_not, not_true_eq_false, not_false_eq_true, true_implies, false_implies, implies_true, and_true, true_and, reduceCtorEq, Bool.and_self, Bool.or_self, Bool.and_true, Bool.true_and, Bool.false_eq_true, if_true, if_false, go_sem, Nat.reduceEqDiff, Nat.reduceLT, Nat.reduceAdd, Nat.reduceSub, Nat.reduceLeDiff, List.reduceReplicate, Int.reduceToNat]
        exact ⟨fun _ => ⟨⟨by omega, by omega⟩, ⟨by omega, by omega⟩, hb _ _ _ (by omega) (by rw [wnext (by omega)]) rfl (by omega)⟩, fun h => absurd h (by omega)⟩
      · rw [if_neg he] at hb
        have hl1 : (out ++ [l.getD k 0]).length = out.length + 1 := by simp
        simp only [joinW_eq, hk1, e1, he, Int.toNat_natCast, joinW_eq, guard_tt, guard_tf, guard_ft, guard_ff, Int.reduceEq, Int.reduceLT, Int.reduceLE, decide_false, decide_true, Bool.not_false, Bool.not_true, Bool.not_not, not_true_eq_false, not_false_eq_true, true_implies, false_implies, implies_true, and_true, true_and, reduceCtorEq, Bool.and_self, Bool.or_self, Bool.and_true, Bool.true_and, Bool.false_eq_true, if_true, if_false, go_sem, Nat.reduceEqDiff, Nat.reduceLT, Nat.reduceAdd, Nat.reduceSub, Nat.reduceLeDiff, List.reduceReplicate, Int.reduceToNat]
        exact ⟨fun _ => ⟨⟨by omega, by omega⟩, ⟨by omega, by omega⟩, ⟨by omega, by omega⟩, by rw [hl1]; unfold roomy; omega, hb _ _ _ (by omega) (by rw [wnext (by omega), hl1]) (by rw [hl1]) (by omega)⟩, fun h => absurd h (by omega)⟩
  · obtain rfl : k = l.length := by omega
    simp only [joinW_eq, guard_tt, guard_tf, guard_ft, guard_ff, Int.reduceEq, Int.reduceLT, Int.reduceLE, decide_false, decide_true, Bool.not_false, Bool.not_true, Bool.not_not, not_true_eq_false, not_false_eq_true, true_implies, false_implies, implies_true, and_true, true_and, reduceCtorEq, Bool.and_self, Bool.or_self, Bool.and_true, Bool.true_and, Bool.false_eq_true, if_true, if_false, go_sem, Nat.reduceEqDiff, Nat.reduceLT, Nat.reduceAdd, Nat.reduceSub, Nat.reduceLeDiff, List.reduceReplicate, Int.reduceToNat]
    refine ⟨fun h => absurd h (by omega), fun _ => ?_⟩
    refine post_val ?_ rfl
    simp only [List.take_length, go_sem, Nat.reduceEqDiff, Nat.reduceLT, Nat.reduceAdd, Nat.reduceSub, Nat.reduceLeDiff, List.reduceReplicate, Int.reduceToNat]
end Lam
namespace Lam
open Go Go.Proofs
set_option linter.unusedVariables false
def arena_Leaves.loops : Nat → LInfo
  | _ => ⟨[], [], [], [], [], []⟩
def arena_Leaves.H (c : Ctx) (t0 : AV) (h : List AObj) (K : AOut → List AObj → Prop) : Prop :=
  allocW T_api_Errno h fun t3 h =>
  defX t3 fun dp =>
  callW false c (.fn (.func 50) [] []) [t0] h (fun t5 h =>
  runH (storeH T_api_Errno h t3 (.int .i64 0)) h fun _ h =>
  loadRes (fitD T_api_Errno (loadD h t3)) fun r1 => K (.ret (.tup [t5, r1])) h)
  (fun v h => toldW 120 110 v dp h fun h => loadRes (fitD T_api_Errno (loadD h t3)) fun r1 => K (.ret (.tup [(.sl true (.ints .i64 [])), r1])) h)
def arena_Check.loops : Nat → LInfo
  | _ => ⟨[], [], [], [], [], []⟩
def arena_Check.H (c : Ctx) (t0 : AV) (h : List AObj) (K : AOut → List AObj → Prop) : Prop :=
  allocW T_api_Errno h fun t2 h =>
  defX t2 fun dp =>
  callW false c (.fn (.func 51) [] []) [t0] h (fun t4 h =>
  runH (storeH T_api_Errno h t2 (.int .i64 0)) h fun _ h =>
  loadRes (fitD T_api_Errno (loadD h t2)) fun r0 => K (.ret r0) h)
  (fun v h => toldW 120 110 v dp h fun h => loadRes (fitD T_api_Errno (loadD h t2)) fun r0 => K (.ret r0) h)
def arena_chain.loops : Nat → LInfo
  | 4 => ⟨[2, 6], [true, false], [0], [], [], []⟩
  | 6 => ⟨[], [], [], [(4, none), (4, some [25, 29])], [], []⟩
  | _ => ⟨[], [], [], [], [], []⟩
def arena_chain.L1 (c : Ctx) (J1 : AV → List AObj → Prop) (K : AOut → List AObj → Prop) (lv : List AV) (h0 : List AObj) (n0 : Nat) (c0 : AV) : Prop :=
  ∃ I : Nat → List AV → List AObj → Prop, (∃ n, I n lv h0) ∧ ∀ n h, ∀ t2, ∀ t6, I n [t2, t6] h →
    runD (binD T_int .neq t6 (.int .i64 0)) h fun t18 h =>
    condW t18
    (callW false c (.fn (.func 53) [] []) [c0, t6] h (fun t21 h =>
    allocW T_api_Node h fun t7 h =>
    runH (storeH T_api_Node h t7 t21) h fun _ h =>
    runD (fieldAddrD T_api_Node t7 0) h fun t22 h =>
    runD (fitD T_int (loadD h t22)) h fun t23 h =>
    runD (binD T_int .eql t23 (.int .i64 0)) h fun t24 h =>
    joinW (fun (J2 : AV → AV → List AObj → Prop) =>
    guardW t24 true
    (callW false c (.fn (.func 83) [] []) [t2, t6] h (fun t28 h =>
      runD (unD .not t28) h fun t29 h =>
      J2 (.bool true) t29 h)
      (fun v h => K (.pan v) h))
    (J2 (.bool false) .und h))
    (fun t25 t29 h => runD (pickD t25 t29 (.bool false)) h fun t30 h =>
    callW false c (.fn (.func 82) [] []) [t30] h (fun t31 h =>
    runD (buildSliceD T_sl_int 1 [(0, t6)] h.length) h fun t34 h =>
    runDM (appendD T_sl_int h t2 t34 h.length) (appendH T_sl_int h t2 t34) h fun t35 h =>
    runD (fieldAddrD T_api_Node t7 2) h fun t36 h =>
    runD (fitD T_int (loadD h t36)) h fun t37 h =>
    sepB t2 [t36] = true ∧ (∃ m, m < n ∧ I m (AV.norms n0 h [t35, t37]) (normH n0 h)) ∧ AV.norms n0 h [c0] = [c0])
    (fun v h => K (.pan v) h)))
    (fun v h => K (.pan v) h))
    (J1 t2 h)
def arena_chain.H (c : Ctx) (t0 : AV) (h : List AObj) (K : AOut → List AObj → Prop) : Prop :=
  callW false c (.fn (.func 54) [] []) [t0] h (fun t10 h =>
  runD (extractD t10 0) h fun t11 h =>
  runD (extractD t10 1) h fun t12 h =>
  runD (extractD t10 2) h fun t13 h =>
  runD (binD T_api_Errno .eql t13 (.int .i64 0)) h fun t15 h =>
  callW false c (.fn (.func 82) [] []) [t15] h (fun t16 h =>
  joinW (fun (J1 : AV → List AObj → Prop) =>
  promV [true, false] [(.sl true (.ints .i64 [])), (.int .i64 1)] h fun lv h => arena_chain.L1 c J1 K (AV.norms h.length h lv) (normH h.length h) h.length (AV.norm h.length h t0))
  (fun t2 h => K (.ret t2) h))
  (fun v h => K (.pan v) h))
  (fun v h => K (.pan v) h)
def arena_look.loops : Nat → LInfo
  | 4 => ⟨[4, 17], [false, false], [0, 3, 15, 16], [], [], []⟩
  | 8 => ⟨[], [], [], [(3, none), (3, some [30, 33]), (2, none), (7, some [35, 42])], [], []⟩
  | 11 => ⟨[4, 50], [false, false], [0, 3, 8, 15, 16, 17, 48, 49], [], [], []⟩
  | 14 => ⟨[], [], [], [(3, none), (3, some [63, 66]), (2, none), (4, some [68, 72]), (2, none), (8, some [74, 82])], [], []⟩
  | _ => ⟨[], [], [], [], [], []⟩
def arena_look.L2 (c : Ctx) (J6 : AV → AV → AV → AV → AV → AV → List AObj → Prop) (K : AOut → List AObj → Prop) (lv : List AV) (h0 : List AObj) (n0 : Nat) (c0 : AV) (c3 : AV) (c8 : AV) (c15 : AV) (c16 : AV) (c17 : AV) (c48 : AV) (c49 : AV) : Prop :=
  ∃ I : Nat → List AV → List AObj → Prop, (∃ n, I n lv h0) ∧ ∀ n h, ∀ t4, ∀ t50, I n [t4, t50] h →
    runD (binD T_int .lss t50 c49) h fun t51 h =>
    condW t51
    (runD (indexAddrD T_sl_int h c48 t50) h fun t53 h =>
    runD (fitD T_int (loadD h t53)) h fun t54 h =>
    callW false c (.fn (.func 37) [] []) [c0, t54] h (fun t58 h =>
    runD (extractD t58 0) h fun t59 h =>
    runD (extractD t58 1) h fun t60 h =>
    allocW T_api_Rec h fun t11 h =>
    runH (storeH T_api_Rec h t11 t59) h fun _ h =>
    runD (binD T_api_Errno .eql t60 (.int .i64 0)) h fun t62 h =>
    joinW (fun (J7 : AV → AV → List AObj → Prop) =>
    guardW t62 true
    (runD (fieldAddrD T_api_Rec t11 0) h fun t64 h =>
      runD (fitD T_int (loadD h t64)) h fun t65 h =>
      runD (binD T_int .eql t65 (.int .i64 1)) h fun t66 h =>
      J7 (.bool true) t66 h)
    (J7 (.bool false) .und h))
    (fun t63 t66 h => runD (pickD t63 t66 (.bool false)) h fun t67 h =>
    joinW (fun (J8 : AV → AV → List AObj → Prop) =>
    guardW t67 true
    (runD (fieldAddrD T_api_Rec t11 1) h fun t69 h =>
      runD (fitD T_string (loadD h t69)) h fun t70 h =>
      runD (binD T_string .geq t70 c8) h fun t72 h =>
      J8 (.bool true) t72 h)
    (J8 (.bool false) .und h))
    (fun t68 t72 h => runD (pickD t68 t72 (.bool false)) h fun t73 h =>
    joinW (fun (J9 : AV → AV → List AObj → Prop) =>
    guardW t73 true
    (runD (binD T_int .eql t50 (.int .i64 0)) h fun t76 h =>
      joinW (fun (J10 : AV → AV → List AObj → Prop) =>
      guardW t76 false
      (runD (fieldAddrD T_api_Rec t11 1) h fun t78 h =>
        runD (fitD T_string (loadD h t78)) h fun t79 h =>
        runD (binD T_string .gtr t79 t4) h fun t81 h =>
        J10 (.bool false) t81 h)
      (J10 (.bool true) .und h))
      (fun t77 t81 h => runD (pickD t77 (.bool true) t81) h fun t82 h =>
      J9 (.bool true) t82 h))
    (J9 (.bool false) .und h))
    (fun t74 t82 h => runD (pickD t74 t82 (.bool false)) h fun t83 h =>
    callW false c (.fn (.func 82) [] []) [t83] h (fun t84 h =>
    runD (fieldAddrD T_api_Rec t11 1) h fun t86 h =>
    runD (fitD T_string (loadD h t86)) h fun t87 h =>
    runD (maxD t4 t87) h fun t88 h =>
    runD (binD T_int .add t50 (.int .i64 1)) h fun t89 h =>
    (∃ m, m < n ∧ I m (AV.norms n0 h [t88, t89]) (normH n0 h)) ∧ AV.norms n0 h [c0, c3, c8, c15, c16, c17, c48, c49] = [c0, c3, c8, c15, c16, c17, c48, c49])
    (fun v h => K (.pan v) h)))))
    (fun v h => K (.pan v) h))
    (J6 c0 c3 c8 c15 c16 c17 h)
def arena_look.L1 (c : Ctx) (J1 : AV → List AObj → Prop) (K : AOut → List AObj → Prop) (lv : List AV) (h0 : List AObj) (n0 : Nat) (c0 : AV) (c3 : AV) (c15 : AV) (c16 : AV) : Prop :=
  ∃ I : Nat → List AV → List AObj → Prop, (∃ n, I n lv h0) ∧ ∀ n h, ∀ t4, ∀ t17, I n [t4, t17] h →
    runD (binD T_int .lss t17 c16) h fun t18 h =>
    condW t18
    (joinW (fun (J2 : AV → AV → AV → AV → AV → AV → List AObj → Prop) =>
    runD (indexAddrD T_sl_int h c15 t17) h fun t20 h =>
    runD (fitD T_int (loadD h t20)) h fun t21 h =>
    callW false c (.fn (.func 53) [] []) [c0, t21] h (fun t24 h =>
    allocW T_api_Node h fun t7 h =>
    runH (storeH T_api_Node h t7 t24) h fun _ h =>
    runD (fitD T_api_Node (loadD h t7)) h fun t26 h =>
    callW false c (.fn (.func 57) [] []) [c0, t26] h (fun t27 h =>
    runD (binD T_int .eql t17 (.int .i64 0)) h fun t29 h =>
    joinW (fun (J3 : AV → AV → List AObj → Prop) =>
    guardW t29 true
    (runD (fieldAddrD T_api_Node t7 3) h fun t31 h =>
      runD (fitD T_int (loadD h t31)) h fun t32 h =>
      runD (binD T_int .eql t32 (.int .i64 0)) h fun t33 h =>
      J3 (.bool true) t33 h)
    (J3 (.bool false) .und h))
    (fun t30 t33 h => runD (pickD t30 t33 (.bool false)) h fun t34 h =>
    joinW (fun (J4 : AV → AV → List AObj → Prop) =>
    guardW t34 false
    (runD (binD T_int .gtr t17 (.int .i64 0)) h fun t37 h =>
      joinW (fun (J5 : AV → AV → List AObj → Prop) =>
      guardW t37 true
      (runD (binD T_string .gtr t27 t4) h fun t41 h =>
        J5 (.bool true) t41 h)
      (J5 (.bool false) .und h))
      (fun t38 t41 h => runD (pickD t38 t41 (.bool false)) h fun t42 h =>
      J4 (.bool false) t42 h))
    (J4 (.bool true) .und h))
    (fun t35 t42 h => runD (pickD t35 (.bool true) t42) h fun t43 h =>
    callW false c (.fn (.func 82) [] []) [t43] h (fun t44 h =>
    runD (fieldAddrD T_api_Node t7 4) h fun t46 h =>
    runD (fitD T_sl_int (loadD h t46)) h fun t47 h =>
    callW false c (.fn (.func 84) [] []) [t47] h (fun t48 h =>
    runD (lenD T_sl_int h t48) h fun t49 h =>
    joinW (fun (J6 : AV → AV → AV → AV → AV → AV → List AObj → Prop) =>
    promV [false, false] [t27, (.int .i64 0)] h fun lv h => arena_look.L2 c J6 K (AV.norms h.length h lv) (normH h.length h) h.length (AV.norm h.length h c0) (AV.norm h.length h c3) (AV.norm h.length h t27) (AV.norm h.length h c15) (AV.norm h.length h c16) (AV.norm h.length h t17) (AV.norm h.length h t48) (AV.norm h.length h t49))
    (fun t0 t3 t8 t15 t16 t17 h => J2 t0 t3 t8 t15 t16 t17 h))
    (fun v h => K (.pan v) h))
    (fun v h => K (.pan v) h))))
    (fun v h => K (.pan v) h))
    (fun v h => K (.pan v) h))
    (fun t0 t3 t4 t15 t16 t17 h => runD (binD T_int .add t17 (.int .i64 1)) h fun t91 h =>
    (∃ m, m < n ∧ I m (AV.norms n0 h [t4, t91]) (normH n0 h)) ∧ AV.norms n0 h [t0, t3, t15, t16] = [c0, c3, c15, c16]))
    (J1 c3 h)
def arena_look.H (c : Ctx) (t0 : AV) (h : List AObj) (K : AOut → List AObj → Prop) : Prop :=
  callW false c (.fn (.func 50) [] []) [t0] h (fun t14 h =>
  runD (lenD T_sl_int h t14) h fun t16 h =>
  joinW (fun (J1 : AV → List AObj → Prop) =>
  promV [false, false] [(.str []), (.int .i64 0)] h fun lv h => arena_look.L1 c J1 K (AV.norms h.length h lv) (normH h.length h) h.length (AV.norm h.length h t0) (AV.norm h.length h t14) (AV.norm h.length h t14) (AV.norm h.length h t16))
  (fun t3 h => K (.ret t3) h))
  (fun v h => K (.pan v) h)
def arena_nodeOf.loops : Nat → LInfo
  | _ => ⟨[], [], [], [], [], []⟩
def arena_nodeOf.H (c : Ctx) (t0 : AV) (t1 : AV) (h : List AObj) (K : AOut → List AObj → Prop) : Prop :=
  allocW T_api_Node h fun t4 h =>
  callW false c (.fn (.func 23) [] []) [t0, t1] h (fun t10 h =>
  runD (extractD t10 0) h fun t11 h =>
  runD (extractD t10 1) h fun t12 h =>
  allocW T_api_Node h fun t5 h =>
  runH (storeH T_api_Node h t5 t11) h fun _ h =>
  runD (binD T_api_Errno .eql t12 (.int .i64 0)) h fun t14 h =>
  callW false c (.fn (.func 82) [] []) [t14] h (fun t15 h =>
  runD (fitD T_api_Node (loadD h t5)) h fun t16 h =>
  runH (storeH T_api_Node h t4 t16) h fun _ h =>
  loadRes (fitD T_api_Node (loadD h t4)) fun r0 => K (.ret r0) h)
  (fun v h => K (.pan v) h))
  (fun v h => K (.pan v) h)
def arena_lowOf.loops : Nat → LInfo
  | _ => ⟨[], [], [], [], [], []⟩
def arena_lowOf.H (c : Ctx) (t0 : AV) (t1 : AV) (h : List AObj) (K : AOut → List AObj → Prop) : Prop :=
  boxW T_api_Node t1 h fun t3 h =>
  runD (fieldAddrD T_api_Node t3 3) h fun t5 h =>
  runD (fitD T_int (loadD h t5)) h fun t6 h =>
  runD (binD T_int .eql t6 (.int .i64 0)) h fun t7 h =>
  condW t7
  (K (.ret (.str [])) h)
  (runD (fieldAddrD T_api_Node t3 3) h fun t9 h =>
  runD (fitD T_int (loadD h t9)) h fun t10 h =>
  callW false c (.fn (.func 87) [] []) [t0, t10] h (fun t11 h =>
  K (.ret t11) h)
  (fun v h => K (.pan v) h))
def arena_sound.loops : Nat → LInfo
  | _ => ⟨[], [], [], [], [], []⟩
def arena_sound.H (c : Ctx) (t0 : AV) (h : List AObj) (K : AOut → List AObj → Prop) : Prop :=
  runD (unD .not t0) h fun t3 h =>
  joinW (fun (J1 : List AObj → Prop) =>
  condW t3
  (runD (buildD T_arena_corrupt []) h fun t4 h =>
    K (.pan (.iface 120 t4)) h)
  (J1 h))
  (fun h => K (.ret (.tup [])) h)
def arena_keyOf.loops : Nat → LInfo
  | _ => ⟨[], [], [], [], [], []⟩
def arena_keyOf.H (c : Ctx) (t0 : AV) (t1 : AV) (h : List AObj) (K : AOut → List AObj → Prop) : Prop :=
  callW false c (.fn (.func 37) [] []) [t0, t1] h (fun t10 h =>
  runD (extractD t10 0) h fun t11 h =>
  runD (extractD t10 1) h fun t12 h =>
  allocW T_api_Rec h fun t5 h =>
  runH (storeH T_api_Rec h t5 t11) h fun _ h =>
  runD (binD T_api_Errno .eql t12 (.int .i64 0)) h fun t14 h =>
  callW false c (.fn (.func 82) [] []) [t14] h (fun t15 h =>
  runD (fieldAddrD T_api_Rec t5 1) h fun t16 h =>
  runD (fitD T_string (loadD h t16)) h fun t17 h =>
  K (.ret t17) h)
  (fun v h => K (.pan v) h))
  (fun v h => K (.pan v) h)
theorem arena_Leaves.eq (F : List (FuncId × Contract)) (S : List (FuncId × Con)) (t0 : AV) (h : List AObj) (K : AOut → List AObj → Prop) : funDW (ctx F S arena_Leaves.loops) Try.f17 49 120 110 [t0] h K = arena_Leaves.H (ctx F S arena_Leaves.loops) t0 h K := by kernel_rfl
theorem arena_Check.eq (F : List (FuncId × Contract)) (S : List (FuncId × Con)) (t0 : AV) (h : List AObj) (K : AOut → List AObj → Prop) : funDW (ctx F S arena_Check.loops) Try.f19 49 120 110 [t0] h K = arena_Check.H (ctx F S arena_Check.loops) t0 h K := by kernel_rfl
theorem arena_chain.eq (F : List (FuncId × Contract)) (S : List (FuncId × Con)) (t0 : AV) (h : List AObj) (K : AOut → List AObj → Prop) : funW (ctx F S arena_chain.loops) Try.f50 [t0] h K = arena_chain.H (ctx F S arena_chain.loops) t0 h K := by kernel_rfl
theorem arena_look.eq (F : List (FuncId × Contract)) (S : List (FuncId × Con)) (t0 : AV) (h : List AObj) (K : AOut → List AObj → Prop) : funW (ctx F S arena_look.loops) Try.f51 [t0] h K = arena_look.H (ctx F S arena_look.loops) t0 h K := by kernel_rfl
theorem arena_nodeOf.eq (F : List (FuncId × Contract)) (S : List (FuncId × Con)) (t0 t1 : AV) (h : List AObj) (K : AOut → List AObj → Prop) : funW (ctx F S arena_nodeOf.loops) Try.f53 [t0, t1] h K = arena_nodeOf.H (ctx F S arena_nodeOf.loops) t0 t1 h K := by kernel_rfl
theorem arena_lowOf.eq (F : List (FuncId × Contract)) (S : List (FuncId × Con)) (t0 t1 : AV) (h : List AObj) (K : AOut → List AObj → Prop) : funW (ctx F S arena_lowOf.loops) Try.f57 [t0, t1] h K = arena_lowOf.H (ctx F S arena_lowOf.loops) t0 t1 h K := by kernel_rfl
theorem arena_sound.eq (F : List (FuncId × Contract)) (S : List (FuncId × Con)) (t0 : AV) (h : List AObj) (K : AOut → List AObj → Prop) : funW (ctx F S arena_sound.loops) Try.f82 [t0] h K = arena_sound.H (ctx F S arena_sound.loops) t0 h K := by kernel_rfl
theorem arena_keyOf.eq (F : List (FuncId × Contract)) (S : List (FuncId × Con)) (t0 t1 : AV) (h : List AObj) (K : AOut → List AObj → Prop) : funW (ctx F S arena_keyOf.loops) Try.f87 [t0, t1] h K = arena_keyOf.H (ctx F S arena_keyOf.loops) t0 t1 h K := by kernel_rfl
theorem arena_Leaves.at : Try.prog.funcs[17]? = some Try.f17 := by kernel_rfl
theorem arena_Leaves.nm : (Try.f17.name == "runtime.NumGoroutine") = false := by kernel_rfl
theorem arena_Leaves.bd : Try.f17.body.isNone = false := by kernel_rfl
theorem arena_Check.at : Try.prog.funcs[19]? = some Try.f19 := by kernel_rfl
theorem arena_Check.nm : (Try.f19.name == "runtime.NumGoroutine") = false := by kernel_rfl
theorem arena_Check.bd : Try.f19.body.isNone = false := by kernel_rfl
theorem arena_chain.at : Try.prog.funcs[50]? = some Try.f50 := by kernel_rfl
theorem arena_chain.nm : (Try.f50.name == "runtime.NumGoroutine") = false := by kernel_rfl
theorem arena_chain.bd : Try.f50.body.isNone = false := by kernel_rfl
theorem arena_look.at : Try.prog.funcs[51]? = some Try.f51 := by kernel_rfl
theorem arena_look.nm : (Try.f51.name == "runtime.NumGoroutine") = false := by kernel_rfl
theorem arena_look.bd : Try.f51.body.isNone = false := by kernel_rfl
theorem arena_nodeOf.at : Try.prog.funcs[53]? = some Try.f53 := by kernel_rfl
theorem arena_nodeOf.nm : (Try.f53.name == "runtime.NumGoroutine") = false := by kernel_rfl
theorem arena_nodeOf.bd : Try.f53.body.isNone = false := by kernel_rfl
theorem arena_lowOf.at : Try.prog.funcs[57]? = some Try.f57 := by kernel_rfl
theorem arena_lowOf.nm : (Try.f57.name == "runtime.NumGoroutine") = false := by kernel_rfl
theorem arena_lowOf.bd : Try.f57.body.isNone = false := by kernel_rfl
theorem arena_sound.at : Try.prog.funcs[82]? = some Try.f82 := by kernel_rfl
theorem arena_sound.nm : (Try.f82.name == "runtime.NumGoroutine") = false := by kernel_rfl
theorem arena_sound.bd : Try.f82.body.isNone = false := by kernel_rfl
theorem arena_keyOf.at : Try.prog.funcs[87]? = some Try.f87 := by kernel_rfl
theorem arena_keyOf.nm : (Try.f87.name == "runtime.NumGoroutine") = false := by kernel_rfl
theorem arena_keyOf.bd : Try.f87.body.isNone = false := by kernel_rfl
end Lam
namespace Lam
open Go Go.Proofs
set_option linter.unusedVariables false
set_option linter.unnecessarySimpa false
set_option linter.unusedSimpArgs false
theorem arena_told.at : Try.prog.funcs[49]? = some Try.f49 := by kernel_rfl
theorem arena_told.nm : (Try.f49.name == "runtime.NumGoroutine") = false := by kernel_rfl
theorem arena_told.bd : Try.f49.body.isNone = false := by kernel_rfl
theorem told_if : Try.prog.underlying 20 = some (.interface (Try.prog.methodsAt 20)) := by kernel_rfl
theorem told_ret (q : Value) (w : World) : ∃ c, Try.f49.body = some c ∧ ∀ (Q : Exit → Act → List Frame → World → Prop) (c₀ : Frame) (cs : List Frame), c₀.mode = .returning → (∀ a', a'.defers = [] → Q .normal a' (c₀ :: cs) w) →
      c.wpS Try.prog Q { tmps := #[q] ++ Array.replicate 12 undef, defers := [] } (c₀ :: cs) w := by
  delta Try.f49
  refine ⟨_, rfl, fun Q c₀ cs hu hQ => wpS_seq (wpS_region ?_)⟩
  simp [wpOpsS, Region.wanted, execOp, resolve, invoke, builtin, recoverD, hu, Exit.thenS, Act.put]
  refine wpS_of_wp (wp_block (wp_seq (wp_region ?_)))
  simp [wpOps, Region.wanted, Oper.wp, Oper.upon, execOp, Act.eval, Act.put, eqGuard, binOp, run_equal_nil_nil w 20 told_if]
  refine .inl (wp_cond_true (by simp [Act.eval]) (wp_region ?_))
  simp [wpOps, Region.wanted, Oper.wp, Oper.upon, execOp, Act.eval, Act.put, Exit.inBlock]
  exact .inl (hQ _ rfl)
def toldP : Code → Nat × Array Oper × Nat × Array Oper
  | .seq _ (.block _ (.seq _ (.cond _ _ (.seq _ (.cond _ (.seq (.region i a _) (.region j b _)) _))))) => (i, a, j, b)
  | _ => (0, #[], 0, #[])
def toldA (c : Code) : List Oper := (toldP c).2.1.toList
def toldB (c : Code) : List Oper := (toldP c).2.2.2.toList
abbrev told_ctx : Ctx := ctx [] [] arena_sound.loops
theorem told_ok : Ok Try.prog told_ctx := ctx_ok (by simp) (by simp) _
set_option maxRecDepth 20000 in
theorem told_pan (q : Value) : ∃ c, Try.f49.body = some c ∧ (toldA c).all (fun o => match o.dst with | none => true | some d => Nat.blt d 13) = true ∧ (toldB c).all (fun o => match o.dst with | none => true | some d => Nat.blt d 13) = true ∧
      (∀ (h : List AObj) (id : Nat) (n : Int) (KP : List (Nat × AV) → AV → List AObj → Prop), h[id]? = some (.box (.int .i64 n)) → opsW told_ctx [] (toldA c) KP (fun t h' => opsW told_ctx [] (toldB c) KP (fun _ h' => h' = (h ++ [AObj.box (.agg [])]).set id (AObj.box (.int .i64 110))) (toldB c) [] t h') (toldA c) [] [(0, .ptr id []), (10, .agg [])] h) ∧
      ∀ (u : Value) (w : World) (Q : Exit → Act → List Frame → World → Prop) (c₀ : Frame) (cs : List Frame), c₀.mode = .panicking [{ v := .iface 120 u, recovered := false }] →
      (∀ a : Act, a.defers = [] → a.tmps.size = 13 → a.tmps.getD 0 undef = q → a.tmps.getD 10 undef = u →
        (Code.seq (.region (toldP c).1 (toldP c).2.1 false) (.region (toldP c).2.2.1 (toldP c).2.2.2 false)).wpIn (FW none) 0 Try.prog (Exit.inBlock 0 fun e a' w' => Q e a' ({ c₀ with mode := .panicking [{ v := .iface 120 u, recovered := true }] } :: cs) w') a w) →
      c.wpS Try.prog Q { tmps := #[q] ++ Array.replicate 12 undef, defers := [] } (c₀ :: cs) w := by
  delta Try.f49
  refine ⟨_, rfl, by decide, by decide, ?_, fun u w Q c₀ cs hu hQ => wpS_seq (wpS_region ?_)⟩
  · intro h id n KP hid
    have hlt := (List.getElem?_eq_some_iff.1 hid).1
    have e1 : (h ++ [AObj.box (.agg [])])[h.length]? = some (.box (.agg [])) := by simp
    have e2 : ∀ o, ((h ++ [AObj.box (.agg [])]).set h.length o)[id]? = some (.box (.int .i64 n)) := fun o => by
      rw [List.getElem?_set, if_neg (by omega), List.getElem?_append_left hlt]; exact hid
    show allocW (.strct []) h fun t3 h1 => runH (storeH (.strct []) h1 t3 (.agg [])) h1 fun _ h => runD (nilCheckD (.ptr id [])) h fun t12 h => runH (storeH (.int .i64) h t12 (.int .i64 110)) h fun _ h' => h' = _
    simp only [e1, e2, go_sem, Nat.reduceEqDiff, Nat.reduceLT, Nat.reduceAdd, Nat.reduceSub, Nat.reduceLeDiff, List.reduceReplicate, Int.reduceToNat]
    have e3 : (h ++ [AObj.box (.agg [])]).set h.length (AObj.box (.agg [])) = h ++ [AObj.box (.agg [])] := by simp
    rw [e3]
  · simp [wpOpsS, Region.wanted, execOp, resolve, invoke, builtin, recoverD, hu, Exit.thenS, Act.put]
    refine wpS_of_wp (wp_block (wp_seq (wp_region ?_)))
    simp [wpOps, Region.wanted, Oper.wp, Oper.upon, execOp, Act.eval, Act.put, eqGuard, binOp, run_equal_held_nil w 20 120 u told_if]
    refine .inl (wp_cond_false (by simp [Act.eval]) (wp_seq (wp_region ?_)))
    have hta : (Instr.typeAssert (.iface 120 u) 20 120 true).run Try.prog w = .ok (.tuple #[u, .bool true]) w := by
      have h0 : Try.prog.underlying 120 = some (.struct #[]) := by kernel_rfl
      simp [Instr.typeAssert, underlying, h0]
    have hr3 : List.range 3 = [0, 1, 2] := rfl
    simp [hr3, wpOps, Region.wanted, Oper.wp, Oper.upon, execOp, Act.eval, Act.put, hta, Instr.extract]
    refine .inl (.inl (.inl (wp_cond_true (by simp [Act.eval]) (wpIn_wide.1 (hQ { tmps := _, defers := [] } rfl ?_ ?_ ?_))))) <;> simp
theorem arena_told.tspec : TSpec Try.prog 49 120 110 := by
  refine ⟨enter_of arena_told.at arena_told.nm arena_told.bd, fun q w => ?_, fun X id q z n H hq hz hbox => ?_⟩
  · obtain ⟨c, hb, h⟩ := told_ret q w
    refine callsDIn_of_wpS arena_told.at hb fun c₀ cs hu => h _ c₀ cs hu fun a' hd => ?_
    refine ⟨hd, .returning, ?_, .tuple #[], ?_, ⟨_, rfl⟩, rfl, rfl⟩
    · rw [← hu]
    · have : Try.f49.results = #[] := by kernel_rfl
      rw [results_eq, this, Array.mapM_eq_mapM_toList]; rfl
  · simp only [VV] at hz
    obtain ⟨u, rfl, hu⟩ := hz
    obtain ⟨c, hb, hd1, hd2, hW, h⟩ := told_pan q
    refine callsDIn_of_wpS arena_told.at hb fun c₀ cs hc => h u X.w _ c₀ cs hc fun a had hs h0 h10 => wpIn_seq (wpIn_region_list ?_)
    have R : SR 13 ⟨X.w.heap.size, []⟩ X [(0, .ptr id []), (10, .agg [])] a := by
      refine ⟨fun i => ?_, Nat.le_of_eq hs.symm, [], had, trivial⟩
      simp only [get]
      split
      · rename_i e; obtain rfl := Nat.eq_of_beq_eq_true e; rw [h0]; exact hq
      · split
        · rename_i e; obtain rfl := Nat.eq_of_beq_eq_true e; rw [h10]; exact hu
        · trivial
    have dst : ∀ {l : List Oper}, (l.all fun o => match o.dst with | none => true | some d => Nat.blt d 13) = true → ∀ o ∈ l, ∀ i, o.dst = some i → i < 13 := by
      intro l hl o ho i hi
      rw [List.all_eq_true] at hl
      have := hl o ho
      rw [hi] at this
      simpa using this
    have hw := hW X.h id n (fun _ _ _ => False) hbox
    have := opsW_sound (ro := none) (n := 13) (ds := ⟨X.w.heap.size, []⟩) (rest := []) (c := told_ctx) told_ok.ok told_ok.s told_ok.plain (B := X) (fun l => yok_none (told_ok.y l)) 0 (toldP c).2.1 (toldA c) [] _ X a (dst hd1) (Kn.nil _) (Ext.refl X) H R hw
      (Q := Exit.then ((Code.region (toldP c).2.2.1 (toldP c).2.2.2 false).wpIn (FW none) 0 Try.prog (Exit.inBlock 0 fun e a' w' => bodyPostS Try.prog Try.f49 c₀ cs (fun e u' w' => (∃ v, e = .returned v) ∧ u' = .panicking [{ v := .iface 120 u, recovered := true }] ∧
      ∃ Y : Cx, Y.w = w' ∧ HR Y ∧ Ext X Y ∧ Y.h = (X.h ++ [AObj.box (.agg [])]).set id (AObj.box (.int .i64 110))) e a' ({ c₀ with mode := .panicking [{ v := .iface 120 u, recovered := true }] } :: cs) w')) (Exit.inBlock 0 fun e a' w' => bodyPostS Try.prog Try.f49 c₀ cs (fun e u' w' => (∃ v, e = .returned v) ∧ u' = .panicking [{ v := .iface 120 u, recovered := true }] ∧
      ∃ Y : Cx, Y.w = w' ∧ HR Y ∧ Ext X Y ∧ Y.h = (X.h ++ [AObj.box (.agg [])]).set id (AObj.box (.int .i64 110))) e a' ({ c₀ with mode := .panicking [{ v := .iface 120 u, recovered := true }] } :: cs) w')) ?_ (fun Y t' v q a' HY EY RY hf hv => hf.elim)
    · rw [List.append_nil] at this; exact this
    intro Y t' a' HY EY RY hs hk
    refine wpIn_region_list (F := FW none) (n := 0) (id := (toldP c).2.2.1) ?_
    have := opsW_sound (ro := none) (n := 13) (ds := ⟨X.w.heap.size, []⟩) (rest := []) (c := told_ctx) told_ok.ok told_ok.s told_ok.plain (B := Y) (fun l => yok_none (told_ok.y l)) 0 (toldP c).2.2.2 (toldB c) [] _ Y a' (dst hd2) (Kn.nil _) (Ext.refl Y) HY RY hk
      (Q := Exit.inBlock 0 fun e a' w' => bodyPostS Try.prog Try.f49 c₀ cs (fun e u' w' => (∃ v, e = .returned v) ∧ u' = .panicking [{ v := .iface 120 u, recovered := true }] ∧
      ∃ Y : Cx, Y.w = w' ∧ HR Y ∧ Ext X Y ∧ Y.h = (X.h ++ [AObj.box (.agg [])]).set id (AObj.box (.int .i64 110))) e a' ({ c₀ with mode := .panicking [{ v := .iface 120 u, recovered := true }] } :: cs) w') ?_ (fun Y t' v q a' HY EY RY hf hv => hf.elim)
    · rw [List.append_nil] at this; exact this
    intro Z t'' a'' HZ EZ RZ hs2 hk2
    refine ⟨by rw [hs2.2, hs.2, had], _, rfl, .tuple #[], ?_, ⟨_, rfl⟩, rfl, Z, rfl, HZ, EY.trans EZ, hk2⟩
    have : Try.f49.results = #[] := by kernel_rfl
    rw [results_eq, this, Array.mapM_eq_mapM_toList]; rfl
end Lam
namespace Lam
open Go Go.Proofs
set_option linter.unusedVariables false
set_option linter.unnecessarySimpa false
set_option linter.unusedSimpArgs false
theorem idx_eq {l : List Int} {v : Int} {k : Nat} (hk : k < l.length) (h : v = l.getD k 0) (hall : ∀ y ∈ l.take k, (decide (v = y)) = false) : idxI (fun y => decide (v = y)) l = k := by
  have h1 : l.any (fun y => decide (v = y)) = true := List.any_eq_true.2 ⟨_, getD_mem l k 0 hk, decide_eq_true h⟩
  have h2 : l.findIdx (fun y => decide (v = y)) = k := by
    rw [List.findIdx_eq hk]
    refine ⟨by rw [List.getD_eq_getElem?_getD, List.getElem?_eq_getElem hk] at h; exact decide_eq_true h, fun j hj => ?_⟩
    exact hall l[j] (List.mem_take_iff_getElem.2 ⟨j, by omega, rfl⟩)
  unfold idxI; rw [if_pos h1, h2]
theorem idx_none {l : List Int} {v : Int} (h : v ∉ l) : idxI (fun y => decide (v = y)) l = -1 := by
  unfold idxI
  rw [if_neg]
  rw [List.any_eq_true]
  rintro ⟨y, hy, hp⟩
  have := of_decide_eq_true hp
  subst this; exact h hy
def slices_Index_sl_int_int.C : Contract
  | [.sl _ (.ints .i64 l), .int .i64 v] => some (false, pD (roomy l.length) (.int .i64 (idxI (fun y => decide (v = y)) l)))
  | _ => none
set_option maxRecDepth 20000 in
theorem slices_Index_sl_int_int.spec : FSpec Try.prog 110 slices_Index_sl_int_int.C := by
  refine FSpec.of (ctx_ok (F := []) (S := []) (by simp) (by simp) slices_Index_sl_int_int.loops) slices_Index_sl_int_int.at slices_Index_sl_int_int.nm slices_Index_sl_int_int.bd ?_
  intro vs b S v news e hS
  unfold slices_Index_sl_int_int.C at e
  split at e
  rotate_left
  · cases e
  cases e
  rw [slices_Index_sl_int_int.eq]
  unfold slices_Index_sl_int_int.H
  simp (maxSteps := 4000000) only [go_sem, Nat.reduceEqDiff, Nat.reduceLT, Nat.reduceAdd, Nat.reduceSub, Nat.reduceLeDiff, List.reduceReplicate, Int.reduceToNat]
  rename_i _ l v
  have hr := hS
  unfold roomy at hr
  rw [joinW_eq]
  unfold slices_Index_sl_int_int.L1
  refine loop1 (σ := Nat) (fun k => .int .i64 k) (fun k => []) (fun k => l.length - k) (fun k => k ≤ l.length ∧ ∀ y ∈ l.take k, decide (v = y) = false) 0 rfl rfl ⟨Nat.zero_le _, by simp⟩ ?_
  rintro I back k ⟨hk, hall⟩
  simp only [go_sem, Nat.reduceEqDiff, Nat.reduceLT, Nat.reduceAdd, Nat.reduceSub, Nat.reduceLeDiff, List.reduceReplicate, Int.reduceToNat]
  refine ⟨fun hlt => ⟨by omega, fun h => ?_, fun h => ?_⟩, fun hge => ?_⟩
  · rw [← idx_eq (by omega) h hall]
    exact post_val rfl rfl
  · refine back (k + 1) (by omega) (by rw [wnext (by omega)]) rfl ⟨by omega, fun y hy => ?_⟩
    rw [take_next l k 0 (by omega), List.mem_append, List.mem_singleton] at hy
    rcases hy with hy | rfl
    · exact hall y hy
    · exact decide_eq_false h
  · obtain rfl : k = l.length := by omega
    rw [List.take_length] at hall
    rw [idx_none (fun hm => by have := hall v hm; simp at this)]
    exact post_val rfl rfl
def slices_Contains_sl_int_int.C : Contract
  | [.sl _ (.ints .i64 l), .int .i64 v] => some (false, pD (roomy l.length) (.bool (decide (v ∈ l))))
  | _ => none
set_option maxRecDepth 20000 in
theorem slices_Contains_sl_int_int.spec : FSpec Try.prog 83 slices_Contains_sl_int_int.C := by
  refine FSpec.of (ctx_ok (F := [(110, slices_Index_sl_int_int.C)]) (S := []) (by simpa using slices_Index_sl_int_int.spec) (by simp) slices_Contains_sl_int_int.loops) slices_Contains_sl_int_int.at slices_Contains_sl_int_int.nm slices_Contains_sl_int_int.bd ?_
  intro vs b S v news e hS
  unfold slices_Contains_sl_int_int.C at e
  split at e
  rotate_left
  · cases e
  cases e
  rw [slices_Contains_sl_int_int.eq]
  unfold slices_Contains_sl_int_int.H
  simp (maxSteps := 4000000) only [go_sem, Nat.reduceEqDiff, Nat.reduceLT, Nat.reduceAdd, Nat.reduceSub, Nat.reduceLeDiff, List.reduceReplicate, Int.reduceToNat, slices_Index_sl_int_int.C]
  rename_i _ l v
  refine ⟨hS, ?_⟩
  have : decide (0 ≤ idxI (fun y => decide (v = y)) l) = decide (v ∈ l) := by
    by_cases h : v ∈ l
    · rw [decide_eq_true h]
      unfold idxI
      rw [if_pos (List.any_eq_true.2 ⟨v, h, decide_eq_true rfl⟩)]
      exact decide_eq_true (by omega)
    · rw [idx_none h, decide_eq_false h]; rfl
  rw [this]
  exact post_val rfl rfl
end Lam
namespace Lam
open Go Go.Proofs
set_option linter.unusedVariables false
def super_Read.loops : Nat → LInfo
  | 6 => ⟨[47], [false], [5, 45, 46], [], [], []⟩
  | _ => ⟨[], [], [], [], [], []⟩
def super_Read.L1 (c : Ctx) (J1 : List AObj → Prop) (J4 : AV → List AObj → Prop) (K : AOut → List AObj → Prop) (lv : List AV) (h0 : List AObj) (n0 : Nat) (c5 : AV) (c45 : AV) (c46 : AV) : Prop :=
  ∃ I : Nat → List AV → List AObj → Prop, (∃ n, I n lv h0) ∧ ∀ n h, ∀ t47, I n [t47] h →
    runD (binD T_int .lss t47 c46) h fun t48 h =>
    condW t48
    (runD (indexAddrD T_sl_int h c45 t47) h fun t49 h =>
    runD (fitD T_int (loadD h t49)) h fun t50 h =>
    runD (binD T_int .neq t50 (.int .i64 0)) h fun t52 h =>
    condW t52
    (J1 h)
    (runD (binD T_int .add t47 (.int .i64 1)) h fun t53 h =>
    (∃ m, m < n ∧ I m (AV.norms n0 h [t53]) (normH n0 h)) ∧ AV.norms n0 h [c5, c45, c46] = [c5, c45, c46]))
    (J4 c5 h)
def super_Read.H (c : Ctx) (t0 : AV) (h : List AObj) (K : AOut → List AObj → Prop) : Prop :=
  joinW (fun (J1 : List AObj → Prop) =>
  allocW T_super_head h fun t5 h =>
  runD (lenD T_sl_int h t0) h fun t9 h =>
  runD (binD T_int .lss t9 (.int .i64 32)) h fun t10 h =>
  condW t10
  (J1 h)
  (runD (indexAddrD T_sl_int h t0 (.int .i64 0)) h fun t12 h =>
  runD (fitD T_int (loadD h t12)) h fun t13 h =>
  runD (indexAddrD T_sl_int h t0 (.int .i64 1)) h fun t15 h =>
  runD (fitD T_int (loadD h t15)) h fun t16 h =>
  runD (indexAddrD T_sl_int h t0 (.int .i64 2)) h fun t18 h =>
  runD (fitD T_int (loadD h t18)) h fun t19 h =>
  runD (indexAddrD T_sl_int h t0 (.int .i64 3)) h fun t21 h =>
  runD (fitD T_int (loadD h t21)) h fun t22 h =>
  runD (buildD T_super_head [(0, t13), (1, t16), (2, t19), (3, t22)]) h fun t23 h =>
  runH (storeH T_super_head h t5 t23) h fun _ h =>
  runD (fitD T_super_head (loadD h t5)) h fun t24 h =>
  runD (fieldAddrD T_super_head t5 1) h fun t25 h =>
  runD (fitD T_int (loadD h t25)) h fun t26 h =>
  runD (fieldAddrD T_super_head t5 3) h fun t27 h =>
  runD (fitD T_int (loadD h t27)) h fun t28 h =>
  callW false c.noS (.fn (.func 80) [] []) [t26, t28] h (fun t29 h =>
  runD (binD T_super_head .neq t24 t29) h fun t30 h =>
  joinW (fun (J2 : AV → AV → List AObj → Prop) =>
  guardW t30 false
  (runD (fitD T_super_head (loadD h t5)) h fun t32 h =>
    callW false c.noS (.fn (.func 81) [] []) [t32] h (fun t33 h =>
    runD (unD .not t33) h fun t34 h =>
    J2 (.bool false) t34 h)
    (fun _ _ => False))
  (J2 (.bool true) .und h))
  (fun t31 t34 h => runD (pickD t31 (.bool true) t34) h fun t35 h =>
  joinW (fun (J3 : AV → AV → List AObj → Prop) =>
  guardW t35 false
  (runD (fieldAddrD T_super_head t5 1) h fun t37 h =>
    runD (fitD T_int (loadD h t37)) h fun t38 h =>
    runD (lenD T_sl_int h t0) h fun t40 h =>
    runD (binD T_int .quo t40 (.int .i64 16)) h fun t41 h =>
    runD (binD T_int .neq t38 t41) h fun t42 h =>
    J3 (.bool false) t42 h)
  (J3 (.bool true) .und h))
  (fun t36 t42 h => runD (pickD t36 (.bool true) t42) h fun t43 h =>
  condW t43
  (J1 h)
  (runD (sliceD T_sl_int h t0 (some (.int .i64 4)) (some (.int .i64 16)) none) h fun t45 h =>
  runD (lenD T_sl_int h t45) h fun t46 h =>
  joinW (fun (J4 : AV → List AObj → Prop) =>
  promV [false] [(.int .i64 0)] h fun lv h => super_Read.L1 c J1 J4 K (AV.norms h.length h lv) (normH h.length h) h.length (AV.norm h.length h t5) (AV.norm h.length h t45) (AV.norm h.length h t46))
  (fun t5 h => runD (fieldAddrD T_super_head t5 1) h fun t54 h =>
  runD (fitD T_int (loadD h t54)) h fun t55 h =>
  runD (fieldAddrD T_super_head t5 3) h fun t56 h =>
  runD (fitD T_int (loadD h t56)) h fun t57 h =>
  K (.ret (.tup [t55, t57, (.int .i64 0)])) h)))))
  (fun _ _ => False)))
  (fun h => K (.ret (.tup [(.int .i64 0), (.int .i64 0), (.int .i64 80)])) h)
def super_of.loops : Nat → LInfo
  | _ => ⟨[], [], [], [], [], []⟩
def super_of.H (c : Ctx) (t0 : AV) (t1 : AV) (h : List AObj) (K : AOut → List AObj → Prop) : Prop :=
  allocW T_super_head h fun t4 h =>
  runD (buildSliceD T_sl_int 2 [(0, (.int .i64 7015)), (1, t0)] h.length) h fun t7 h =>
  callW false c (.fn (.func 109) [] []) [t7] h (fun t8 h =>
  runD (buildD T_super_head [(0, (.int .i64 7015)), (1, t0), (2, t8), (3, t1)]) h fun t10 h =>
  runH (storeH T_super_head h t4 t10) h fun _ h =>
  loadRes (fitD T_super_head (loadD h t4)) fun r0 => K (.ret r0) h)
  (fun v h => K (.pan v) h)
def super_head_may.loops : Nat → LInfo
  | 1 => ⟨[], [], [], [(4, none), (3, some [6, 9]), (2, none), (3, some [11, 14]), (2, none), (5, some [16, 21])], [], []⟩
  | _ => ⟨[], [], [], [], [], []⟩
def super_head_may.H (c : Ctx) (t0 : AV) (h : List AObj) (K : AOut → List AObj → Prop) : Prop :=
  boxW T_super_head t0 h fun t1 h =>
  runD (fieldAddrD T_super_head t1 1) h fun t3 h =>
  runD (fitD T_int (loadD h t3)) h fun t4 h =>
  runD (binD T_int .geq t4 (.int .i64 2)) h fun t5 h =>
  joinW (fun (J1 : AV → AV → List AObj → Prop) =>
  guardW t5 true
  (runD (fieldAddrD T_super_head t1 1) h fun t7 h =>
    runD (fitD T_int (loadD h t7)) h fun t8 h =>
    runD (binD T_int .leq t8 (.int .i64 256)) h fun t9 h =>
    J1 (.bool true) t9 h)
  (J1 (.bool false) .und h))
  (fun t6 t9 h => runD (pickD t6 t9 (.bool false)) h fun t10 h =>
  joinW (fun (J2 : AV → AV → List AObj → Prop) =>
  guardW t10 true
  (runD (fieldAddrD T_super_head t1 3) h fun t12 h =>
    runD (fitD T_int (loadD h t12)) h fun t13 h =>
    runD (binD T_int .geq t13 (.int .i64 1)) h fun t14 h =>
    J2 (.bool true) t14 h)
  (J2 (.bool false) .und h))
  (fun t11 t14 h => runD (pickD t11 t14 (.bool false)) h fun t15 h =>
  joinW (fun (J3 : AV → AV → List AObj → Prop) =>
  guardW t15 true
  (runD (fieldAddrD T_super_head t1 3) h fun t17 h =>
    runD (fitD T_int (loadD h t17)) h fun t18 h =>
    runD (fieldAddrD T_super_head t1 1) h fun t19 h =>
    runD (fitD T_int (loadD h t19)) h fun t20 h =>
    runD (binD T_int .lss t18 t20) h fun t21 h =>
    J3 (.bool true) t21 h)
  (J3 (.bool false) .und h))
  (fun t16 t21 h => runD (pickD t16 t21 (.bool false)) h fun t22 h =>
  K (.ret t22) h)))
theorem super_Read.eq (F : List (FuncId × Contract)) (S : List (FuncId × Con)) (t0 : AV) (h : List AObj) (K : AOut → List AObj → Prop) : funW (ctx F S super_Read.loops) Try.f54 [t0] h K = super_Read.H (ctx F S super_Read.loops) t0 h K := by kernel_rfl
theorem super_of.eq (F : List (FuncId × Contract)) (S : List (FuncId × Con)) (t0 t1 : AV) (h : List AObj) (K : AOut → List AObj → Prop) : funW (ctx F S super_of.loops) Try.f80 [t0, t1] h K = super_of.H (ctx F S super_of.loops) t0 t1 h K := by kernel_rfl
theorem super_head_may.eq (F : List (FuncId × Contract)) (S : List (FuncId × Con)) (t0 : AV) (h : List AObj) (K : AOut → List AObj → Prop) : funW (ctx F S super_head_may.loops) Try.f81 [t0] h K = super_head_may.H (ctx F S super_head_may.loops) t0 h K := by kernel_rfl
theorem super_Read.at : Try.prog.funcs[54]? = some Try.f54 := by kernel_rfl
theorem super_Read.nm : (Try.f54.name == "runtime.NumGoroutine") = false := by kernel_rfl
theorem super_Read.bd : Try.f54.body.isNone = false := by kernel_rfl
theorem super_of.at : Try.prog.funcs[80]? = some Try.f80 := by kernel_rfl
theorem super_of.nm : (Try.f80.name == "runtime.NumGoroutine") = false := by kernel_rfl
theorem super_of.bd : Try.f80.body.isNone = false := by kernel_rfl
theorem super_head_may.at : Try.prog.funcs[81]? = some Try.f81 := by kernel_rfl
theorem super_head_may.nm : (Try.f81.name == "runtime.NumGoroutine") = false := by kernel_rfl
theorem super_head_may.bd : Try.f81.body.isNone = false := by kernel_rfl
end Lam
namespace Lam
open Go Go.Proofs
set_option linter.unusedVariables false
set_option linter.unnecessarySimpa false
set_option linter.unusedSimpArgs false
def headV (b r : Int) : AV := .agg [.int .i64 7015, .int .i64 b, .int .i64 (sumOf [7015, b]), .int .i64 r]
def super_of.C : Contract
  | [.int .i64 b, .int .i64 r] => some (false, pD True (headV b r))
  | _ => none
set_option maxRecDepth 20000 in
theorem super_of.spec : FSpec Try.prog 80 super_of.C := by
  refine FSpec.of (ctx_ok (F := [(109, sum_Of.C)]) (S := []) (by simpa using sum_Of.spec) (by simp) super_of.loops) super_of.at super_of.nm super_of.bd ?_
  intro vs b S v news e hS
  unfold super_of.C at e
  split at e
  rotate_left
  · cases e
  cases e
  rw [super_of.eq]
  unfold super_of.H
  simp (maxSteps := 4000000) only [go_sem, Nat.reduceEqDiff, Nat.reduceLT, Nat.reduceAdd, Nat.reduceSub, Nat.reduceLeDiff, List.reduceReplicate, Int.reduceToNat, sum_Of.C]
  exact ⟨by unfold roomy; decide, post_val rfl rfl⟩
def mayB (b r : Int) : Bool := decide (2 ≤ b) && decide (b ≤ 256) && decide (1 ≤ r) && decide (r < b)
def super_head_may.C : Contract
  | [.agg [.int .i64 _, .int .i64 b, .int .i64 _, .int .i64 r]] => some (false, pD True (.bool (mayB b r)))
  | _ => none
set_option maxRecDepth 20000 in
theorem super_head_may.spec : FSpec Try.prog 81 super_head_may.C := by
  refine FSpec.of (ctx_ok (F := []) (S := []) (by simp) (by simp) super_head_may.loops) super_head_may.at super_head_may.nm super_head_may.bd ?_
  intro vs b S v news e hS
  unfold super_head_may.C at e
  split at e
  rotate_left
  · cases e
  cases e
  rw [super_head_may.eq]
  unfold super_head_may.H
  simp (maxSteps := 4000000) only [go_sem, Nat.reduceEqDiff, Nat.reduceLT, Nat.reduceAdd, Nat.reduceSub, Nat.reduceLeDiff, List.reduceReplicate, Int.reduceToNat]
  exact post_val rfl rfl
def headB (l : List Int) : Bool := decide (l.getD 0 0 = 7015) && decide (l.getD 2 0 = sumOf [7015, l.getD 1 0]) && mayB (l.getD 1 0) (l.getD 3 0) && decide (l.getD 1 0 = ((l.length / 16 : Nat) : Int))
def readB (l : List Int) : Bool := decide (32 ≤ l.length) && headB l && ((l.drop 4).take 12).all (fun w => decide (w = 0))
theorem bnot3 (a b m d : Bool) : (!(a && b) || !m || !d) = !(a && b && m && d) := by cases a <;> cases b <;> cases m <;> cases d <;> rfl
def sreadV (l : List Int) : AV := if readB l = true then .tup [.int .i64 (l.getD 1 0), .int .i64 (l.getD 3 0), .int .i64 0] else .tup [.int .i64 0, .int .i64 0, .int .i64 80]
@[go_sem] theorem sreadV_noSl (l : List Int) : (sreadV l).noSl = true := by unfold sreadV; split <;> rfl
def super_Read.C : Contract
  | [.sl _ (.ints .i64 l)] => some (false, pD (roomy l.length) (sreadV l))
  | _ => none
theorem read_bad (l : List Int) (hb : readB l = false) (h : List AObj) : Post false (sreadV l) [] (.ret (.tup [.int .i64 0, .int .i64 0, .int .i64 80])) h := by
  unfold sreadV; rw [hb]; exact post_val rfl rfl
set_option maxRecDepth 20000 in
theorem super_Read.spec : FSpec Try.prog 54 super_Read.C := by
  refine FSpec.of (ctx_ok (F := [(80, super_of.C), (81, super_head_may.C)]) (S := []) (by simpa using ⟨super_of.spec, super_head_may.spec⟩) (by simp) super_Read.loops) super_Read.at super_Read.nm super_Read.bd ?_
  intro vs b S v news e hS
  unfold super_Read.C at e
  split at e
  rotate_left
  · cases e
  cases e
  rw [super_Read.eq]
  unfold super_Read.H
  simp (maxSteps := 4000000) only [go_sem, Nat.reduceEqDiff, Nat.reduceLT, Nat.reduceAdd, Nat.reduceSub, Nat.reduceLeDiff, List.reduceReplicate, Int.reduceToNat, super_of.C, super_head_may.C, headV]
  rename_i l
  unfold roomy at hS
  have hw : IntKind.i64.wrap ((l.length : Int).tdiv 16) = ((l.length / 16 : Nat) : Int) := by rw [tdiv16]; apply w64 <;> omega
  rw [joinW_eq]
  refine ⟨fun h => ?_, fun h => ?_⟩
  · apply read_bad
    have : ¬ 32 ≤ l.length := by omega
    simp [readB, this]
  refine ⟨by omega, by omega, by omega, by omega, by simp, ?_⟩
  rw [hw, bnot3]
  refine ⟨fun hc => read_bad l ?_ _, fun hc => ⟨by omega, ?_⟩⟩
  · have hc : headB l = false := by rw [Bool.not_eq_true'] at hc; exact hc
    simp [readB, hc]
  · have hc : headB l = true := by rw [Bool.not_eq_false'] at hc; exact hc
    have h32 : 32 ≤ l.length := by omega
    have hlen : ((l.drop 4).take 12).length = 12 := by simp; omega
    rw [joinW_eq]
    unfold super_Read.L1
    generalize hz : (l.drop 4).take 12 = z at *
    refine ⟨fun m lv h' => ∃ k : Nat, k + m = z.length ∧ lv = [.int .i64 k] ∧ h' = [.box (.agg [.int .i64 (l.getD 0 0), .int .i64 (l.getD 1 0), .int .i64 (l.getD 2 0), .int .i64 (l.getD 3 0)])] ∧ ∀ y ∈ z.take k, y = 0, ⟨z.length, 0, by omega, rfl, rfl, by simp⟩, ?_⟩
    rintro m h' t8 ⟨k, hk, hlv, rfl, hall⟩
    simp only [List.cons.injEq, and_true] at hlv
    subst hlv
    simp only [go_sem, Nat.reduceEqDiff, Nat.reduceLT, Nat.reduceAdd, Nat.reduceSub, Nat.reduceLeDiff, List.reduceReplicate, Int.reduceToNat]
    refine ⟨fun hlt => ⟨by omega, fun h0 => ?_, fun h0 => ?_⟩, fun hge => ?_⟩
    · apply read_bad
      have hkz : k < z.length := by omega
      have : z.all (fun w => decide (w = 0)) = false := by
        rw [List.all_eq_false]; exact ⟨_, getD_mem z k 0 hkz, by simpa using h0⟩
      simp [readB, hz, this]
    · have hkz : k < z.length := by omega
      refine ⟨m - 1, by omega, k + 1, by omega, by rw [w64 (by omega) (by omega)]; rfl, ?_⟩
      intro y hy
      rw [take_next z k 0 hkz] at hy
      rcases List.mem_append.1 hy with hy | hy
      · exact hall y hy
      · rw [List.mem_singleton.1 hy]; exact h0
    · have : k = z.length := by omega
      subst this
      rw [List.take_length] at hall
      have ha : z.all (fun w => decide (w = 0)) = true := by
        rw [List.all_eq_true]; intro y hy; simpa using hall y hy
      have hb : readB l = true := by simp [readB, hz, ha, hc, h32]
      unfold sreadV
      rw [if_pos hb]
      exact post_val rfl rfl

end Lam
namespace Lam
open Go Go.Proofs
set_option linter.unusedVariables false
set_option linter.unnecessarySimpa false
set_option linter.unusedSimpArgs false
def corrV : AV := .iface 120 (.agg [])
theorem readV_some {w : List Int} {b : Int} {n : Nd} (h : nodeO w b = some n) : readV w b = .tup [n.V, .int .i64 0] := by
  unfold nodeO at h
  unfold readV
  split at h
  · cases h
  · rename_i hb; rw [if_neg hb, h]
theorem readV_none {w : List Int} {b : Int} (h : nodeO w b = none) : ∃ e, e ≠ 0 ∧ readV w b = .tup [zeroNd.V, .int .i64 e] := by
  unfold nodeO at h
  unfold readV
  split at h
  · rename_i hb; rw [if_pos hb]; exact ⟨1, by decide, rfl⟩
  · rename_i hb; rw [if_neg hb, h]; exact ⟨90, by decide, rfl⟩
theorem rreadV_some {w : List Int} {b : Int} {n : Rc} (h : recO w b = some n) : rreadV w b = .tup [n.V, .int .i64 0] := by
  unfold recO at h
  unfold rreadV
  split at h
  · cases h
  · rename_i hb; rw [if_neg hb, h]
theorem rreadV_none {w : List Int} {b : Int} (h : recO w b = none) : ∃ e, e ≠ 0 ∧ rreadV w b = .tup [zeroRc.V, .int .i64 e] := by
  unfold recO at h
  unfold rreadV
  split at h
  · rename_i hb; rw [if_pos hb]; exact ⟨1, by decide, rfl⟩
  · rename_i hb; rw [if_neg hb, h]; exact ⟨70, by decide, rfl⟩
theorem jpost_pan {v pv : AV} {b : Bool} {news : List AObj} {h : List AObj} : JPost true pv b v news (.pan pv) h := rfl
theorem jpost_ret {ao : AOut} {pv v : AV} {b : Bool} {news : List AObj} {h : List AObj} (p : Post b v news ao h) : JPost false pv b v news ao h := p
def arena_sound.J : JCon
  | [.bool b] => some (True, !b, corrV, false, .tup [], [])
  | _ => none
abbrev arena_sound.K : Con := Jcon arena_sound.J
set_option maxRecDepth 20000 in
set_option maxHeartbeats 1000000 in
theorem arena_sound.jspec : JSpec Try.prog 82 arena_sound.J := by
  refine JSpec.of (ctx_ok (F := []) (S := []) (by simp) (by simp) arena_sound.loops) arena_sound.at arena_sound.nm arena_sound.bd ?_ ?_
  · intro vs S pb pv b v news e
    unfold arena_sound.J at e
    split at e
    rotate_left
    · cases e
    cases e
    rfl
  intro vs S pb pv b v news e hS
  unfold arena_sound.J at e
  split at e
  rotate_left
  · cases e
  cases e
  rw [arena_sound.eq]
  unfold arena_sound.H
  simp (maxSteps := 4000000) only [go_sem, Nat.reduceEqDiff, Nat.reduceLT, Nat.reduceAdd, Nat.reduceSub, Nat.reduceLeDiff, List.reduceReplicate, Int.reduceToNat]
  rename_i b
  rw [joinW_eq]
  exact ⟨fun h => by subst h; rfl, fun h => by subst h; exact jpost_ret (post_val rfl rfl)⟩
def smallW (w : List Int) : Prop := w.length ≤ 65536 ∧ i64s w
theorem smallW.roomy {w : List Int} (h : smallW w) : roomy w.length := by have := h.1; unfold Lam.roomy; omega
def arena_nodeOf.J : JCon
  | [.sl _ (.ints .i64 w), .int .i64 b] => some (smallW w, (nodeO w b).isNone, corrV, false, ((nodeO w b).getD zeroNd).V, [])
  | _ => none
abbrev arena_nodeOf.K : Con := Jcon arena_nodeOf.J
set_option maxRecDepth 20000 in
set_option maxHeartbeats 1000000 in
theorem arena_nodeOf.jspec : JSpec Try.prog 53 arena_nodeOf.J := by
  refine JSpec.of (ctx_ok (F := [(23, node_Read.C)]) (S := [(82, arena_sound.K)]) (by simpa using node_Read.spec) (by simpa using arena_sound.jspec.con) arena_nodeOf.loops) arena_nodeOf.at arena_nodeOf.nm arena_nodeOf.bd ?_ ?_
  · intro vs S pb pv b v news e
    unfold arena_nodeOf.J at e
    split at e
    rotate_left
    · cases e
    cases e
    rfl
  intro vs S pb pv b v news e hS
  unfold arena_nodeOf.J at e
  split at e
  rotate_left
  · cases e
  cases e
  rw [arena_nodeOf.eq]
  unfold arena_nodeOf.H
  simp (maxSteps := 4000000) only [go_sem, Nat.reduceEqDiff, Nat.reduceLT, Nat.reduceAdd, Nat.reduceSub, Nat.reduceLeDiff, List.reduceReplicate, Int.reduceToNat, node_Read.C, arena_sound.K, arena_sound.J]
  rename_i _ w b
  refine ⟨hS.roomy, ?_⟩
  cases hn : nodeO w b with
  | none =>
    obtain ⟨e, he, hr⟩ := readV_none hn
    have hd : decide (e = 0) = false := decide_eq_false he
    simp only [hr, zeroNd, arena_sound.J, hd, joinW_eq, guard_tt, guard_tf, guard_ft, guard_ff, Int.reduceEq, Int.reduceLT, Int.reduceLE, decide_false, decide_true, Bool.not_false, Bool.not_true, Bool.not_not, not_true_eq_false, not_false_eq_true, true_implies, false_implies, implies_true, and_true, true_and, reduceCtorEq, Bool.and_self, Bool.or_self, Bool.and_true, Bool.true_and, Bool.false_eq_true, if_true, if_false, go_sem, Nat.reduceEqDiff, Nat.reduceLT, Nat.reduceAdd, Nat.reduceSub, Nat.reduceLeDiff, List.reduceReplicate, Int.reduceToNat]
    exact jpost_pan
  | some n =>
    simp only [readV_some hn, arena_sound.J, joinW_eq, guard_tt, guard_tf, guard_ft, guard_ff, Int.reduceEq, Int.reduceLT, Int.reduceLE, decide_false, decide_true, Bool.not_false, Bool.not_true, Bool.not_not, not_true_eq_false, not_false_eq_true, true_implies, false_implies, implies_true, and_true, true_and, reduceCtorEq, Bool.and_self, Bool.or_self, Bool.and_true, Bool.true_and, Bool.false_eq_true, if_true, if_false, go_sem, Nat.reduceEqDiff, Nat.reduceLT, Nat.reduceAdd, Nat.reduceSub, Nat.reduceLeDiff, List.reduceReplicate, Int.reduceToNat]
    exact jpost_ret (post_val rfl rfl)
def arena_keyOf.J : JCon
  | [.sl _ (.ints .i64 w), .int .i64 b] => some (smallW w, (recO w b).isNone, corrV, false, .str ((recO w b).getD zeroRc).key, [])
  | _ => none
abbrev arena_keyOf.K : Con := Jcon arena_keyOf.J
set_option maxRecDepth 20000 in
set_option maxHeartbeats 1000000 in
theorem arena_keyOf.jspec : JSpec Try.prog 87 arena_keyOf.J := by
  refine JSpec.of (ctx_ok (F := [(37, rec_Read.C)]) (S := [(82, arena_sound.K)]) (by simpa using rec_Read.spec) (by simpa using arena_sound.jspec.con) arena_keyOf.loops) arena_keyOf.at arena_keyOf.nm arena_keyOf.bd ?_ ?_
  · intro vs S pb pv b v news e
    unfold arena_keyOf.J at e
    split at e
    rotate_left
    · cases e
    cases e
    rfl
  intro vs S pb pv b v news e hS
  unfold arena_keyOf.J at e
  split at e
  rotate_left
  · cases e
  cases e
  rw [arena_keyOf.eq]
  unfold arena_keyOf.H
  simp (maxSteps := 4000000) only [go_sem, Nat.reduceEqDiff, Nat.reduceLT, Nat.reduceAdd, Nat.reduceSub, Nat.reduceLeDiff, List.reduceReplicate, Int.reduceToNat, rec_Read.C, arena_sound.K, arena_sound.J]
  rename_i _ w b
  refine ⟨hS.roomy, ?_⟩
  cases hn : recO w b with
  | none =>
    obtain ⟨e, he, hr⟩ := rreadV_none hn
    have hd : decide (e = 0) = false := decide_eq_false he
    simp only [hr, zeroRc, arena_sound.J, hd, joinW_eq, guard_tt, guard_tf, guard_ft, guard_ff, Int.reduceEq, Int.reduceLT, Int.reduceLE, decide_false, decide_true, Bool.not_false, Bool.not_true, Bool.not_not, not_true_eq_false, not_false_eq_true, true_implies, false_implies, implies_true, and_true, true_and, reduceCtorEq, Bool.and_self, Bool.or_self, Bool.and_true, Bool.true_and, Bool.false_eq_true, if_true, if_false, go_sem, Nat.reduceEqDiff, Nat.reduceLT, Nat.reduceAdd, Nat.reduceSub, Nat.reduceLeDiff, List.reduceReplicate, Int.reduceToNat]
    exact jpost_pan
  | some n =>
    simp only [rreadV_some hn, arena_sound.J, joinW_eq, guard_tt, guard_tf, guard_ft, guard_ff, Int.reduceEq, Int.reduceLT, Int.reduceLE, decide_false, decide_true, Bool.not_false, Bool.not_true, Bool.not_not, not_true_eq_false, not_false_eq_true, true_implies, false_implies, implies_true, and_true, true_and, reduceCtorEq, Bool.and_self, Bool.or_self, Bool.and_true, Bool.true_and, Bool.false_eq_true, if_true, if_false, go_sem, Nat.reduceEqDiff, Nat.reduceLT, Nat.reduceAdd, Nat.reduceSub, Nat.reduceLeDiff, List.reduceReplicate, Int.reduceToNat]
    exact jpost_ret (post_val rfl rfl)
def arena_lowOf.J : JCon
  | [.sl _ (.ints .i64 w), .agg [.int .i64 a, .int .i64 b, .int .i64 c, .int .i64 d, .sl _ (.ints .i64 l)]] => some (smallW w, (lowO w ⟨a, b, c, d, l⟩).isNone, corrV, false, .str ((lowO w ⟨a, b, c, d, l⟩).getD []), [])
  | _ => none
abbrev arena_lowOf.K : Con := Jcon arena_lowOf.J
set_option maxRecDepth 20000 in
set_option maxHeartbeats 1000000 in
theorem arena_lowOf.jspec : JSpec Try.prog 57 arena_lowOf.J := by
  refine JSpec.of (ctx_ok (F := []) (S := [(87, arena_keyOf.K)]) (by simp) (by simpa using arena_keyOf.jspec.con) arena_lowOf.loops) arena_lowOf.at arena_lowOf.nm arena_lowOf.bd ?_ ?_
  · intro vs S pb pv b v news e
    unfold arena_lowOf.J at e
    split at e
    rotate_left
    · cases e
    cases e
    rfl
  intro vs S pb pv b v news e hS
  unfold arena_lowOf.J at e
  split at e
  rotate_left
  · cases e
  cases e
  rw [arena_lowOf.eq]
  unfold arena_lowOf.H
  simp (maxSteps := 4000000) only [go_sem, Nat.reduceEqDiff, Nat.reduceLT, Nat.reduceAdd, Nat.reduceSub, Nat.reduceLeDiff, List.reduceReplicate, Int.reduceToNat, arena_keyOf.K, arena_keyOf.J]
  rename_i _ w a b c d _ l
  refine ⟨fun h => ?_, fun h => ⟨hS, fun hp => ?_, fun hp => ?_⟩⟩
  · have : lowO w ⟨a, b, c, d, l⟩ = some [] := by unfold lowO; rw [if_pos h]
    rw [this]; exact jpost_ret (post_val rfl rfl)
  · have : lowO w ⟨a, b, c, d, l⟩ = none := by
      unfold lowO; rw [if_neg h]
      rw [Option.isNone_iff_eq_none] at hp
      simp only [hp]; rfl
    rw [this]; exact jpost_pan
  · obtain ⟨x, hx⟩ : ∃ x, recO w d = some x := by cases hr : recO w d with
      | none => rw [hr] at hp; cases hp
      | some x => exact ⟨x, rfl⟩
    have : lowO w ⟨a, b, c, d, l⟩ = some x.key := by
      unfold lowO; rw [if_neg h]
      simp only [hx]; rfl
    rw [this, hx]; exact jpost_ret (post_val rfl rfl)
def arena_chain.J : JCon
  | [.sl _ (.ints .i64 w)] => some (smallW w, (chainO (readB w) w).isNone, corrV, true, .sref false 0 0 0 ((chainO (readB w) w).getD []).length, [.row .own 0 (.ints .i64 ((chainO (readB w) w).getD []))])
  | _ => none
abbrev arena_chain.K : Con := Jcon arena_chain.J
set_option maxRecDepth 20000 in
set_option maxHeartbeats 1000000 in
theorem arena_chain.jspec : JSpec Try.prog 50 arena_chain.J := by
  refine JSpec.of (ctx_ok (F := [(54, super_Read.C), (83, slices_Contains_sl_int_int.C)]) (S := [(82, arena_sound.K), (53, arena_nodeOf.K)]) (by simpa using ⟨super_Read.spec, slices_Contains_sl_int_int.spec⟩) (by simpa using ⟨arena_sound.jspec.con, arena_nodeOf.jspec.con⟩) arena_chain.loops) arena_chain.at arena_chain.nm arena_chain.bd ?_ ?_
  · intro vs S pb pv b v news e
    unfold arena_chain.J at e
    split at e
    rotate_left
    · cases e
    cases e
    rfl
  intro vs S pb pv b v news e hS
  unfold arena_chain.J at e
  split at e
  rotate_left
  · cases e
  cases e
  rw [arena_chain.eq]
  unfold arena_chain.H
  simp (maxSteps := 4000000) only [go_sem, Nat.reduceEqDiff, Nat.reduceLT, Nat.reduceAdd, Nat.reduceSub, Nat.reduceLeDiff, List.reduceReplicate, Int.reduceToNat, super_Read.C, slices_Contains_sl_int_int.C, arena_sound.K, arena_sound.J, arena_nodeOf.K, arena_nodeOf.J]
  rename_i _ w
  refine ⟨hS.roomy, ?_⟩
  cases hb : readB w with
  | false =>
    have hr : sreadV w = .tup [.int .i64 0, .int .i64 0, .int .i64 80] := by unfold sreadV; rw [hb]; rfl
    simp only [hr, arena_sound.J, joinW_eq, guard_tt, guard_tf, guard_ft, guard_ff, Int.reduceEq, Int.reduceLT, Int.reduceLE, decide_false, decide_true, Bool.not_false, Bool.not_true, Bool.not_not, not_true_eq_false, not_false_eq_true, true_implies, false_implies, implies_true, and_true, true_and, reduceCtorEq, Bool.and_self, Bool.or_self, Bool.and_true, Bool.true_and, Bool.false_eq_true, if_true, if_false, go_sem, Nat.reduceEqDiff, Nat.reduceLT, Nat.reduceAdd, Nat.reduceSub, Nat.reduceLeDiff, List.reduceReplicate, Int.reduceToNat]
    exact jpost_pan
  | true =>
    have hr : sreadV w = .tup [.int .i64 (w.getD 1 0), .int .i64 (w.getD 3 0), .int .i64 0] := by unfold sreadV; rw [hb]; rfl
    simp only [hr, arena_sound.J, joinW_eq, guard_tt, guard_tf, guard_ft, guard_ff, Int.reduceEq, Int.reduceLT, Int.reduceLE, decide_false, decide_true, Bool.not_false, Bool.not_true, Bool.not_not, not_true_eq_false, not_false_eq_true, true_implies, false_implies, implies_true, and_true, true_and, reduceCtorEq, Bool.and_self, Bool.or_self, Bool.and_true, Bool.true_and, Bool.false_eq_true, if_true, if_false, go_sem, Nat.reduceEqDiff, Nat.reduceLT, Nat.reduceAdd, Nat.reduceSub, Nat.reduceLeDiff, List.reduceReplicate, Int.reduceToNat]
    unfold arena_chain.L1
    have h16 : w.length ≤ 65536 := hS.1
    refine loop2 (σ := List Int × Int) (fun s => .sref false 0 s.1.length 0 s.1.length) (fun s => .int .i64 s.2) (fun s => [.row .own s.1.length (.ints .i64 s.1)]) (fun s => w.length / 16 + 1 - s.1.length)
      (fun s => s.1.Nodup ∧ (∀ x ∈ s.1, 0 ≤ x ∧ x < ((w.length / 16 : Nat) : Int)) ∧ chainF w (w.length / 16 + 1 - s.1.length) s.2 s.1 = chainO true w) ([], 1) rfl rfl ⟨List.nodup_nil, by simp, rfl⟩ ?_
    rintro I back ⟨out, at_⟩ ⟨hnd, hrg, hch⟩
    simp only at hnd hrg hch ⊢
    have hpg := pigeon hnd hrg
    have hro : roomy out.length := by unfold roomy; omega
    obtain ⟨m, hm⟩ : ∃ m, w.length / 16 + 1 - out.length = m + 1 := ⟨w.length / 16 - out.length, by omega⟩
    rw [hm] at hch
    simp only [chainF] at hch
    simp only [arena_nodeOf.J, arena_sound.J, slices_Contains_sl_int_int.C, go_sem, Nat.reduceEqDiff, Nat.reduceLT, Nat.reduceAdd, Nat.reduceSub, Nat.reduceLeDiff, List.reduceReplicate, Int.reduceToNat]
    refine ⟨fun h0 => ⟨hS, fun hp => ?_, fun hp => ?_⟩, fun h0 => ?_⟩
    · rw [if_neg h0] at hch
      rw [Option.isNone_iff_eq_none] at hp
      rw [hp] at hch
      rw [← hch]; exact jpost_pan
    · obtain ⟨n, hn⟩ : ∃ n, nodeO w at_ = some n := by
        cases hr : nodeO w at_ with
        | none => rw [hr] at hp; cases hp
        | some x => exact ⟨x, rfl⟩
      rw [if_neg h0, hn] at hch
      simp only [hn, Option.getD_some] at hch ⊢
      obtain ⟨_, hn0, hn1, _⟩ := nodeO_some hn
      refine ⟨fun _ => hro, fun hc => ?_, fun hc => ?_⟩
      · rw [if_neg] at hch
        · rw [← hch]; exact jpost_pan
        · rintro ⟨h1, h2⟩
          rw [decide_eq_true h1, decide_eq_false h2] at hc
          cases hc
      · simp only [Bool.and_eq_true, decide_eq_true_eq, Bool.not_eq_true', decide_eq_false_iff_not] at hc
        rw [if_pos hc] at hch
        have hl1 : (out ++ [at_]).length = out.length + 1 := by simp
        have em : w.length / 16 + 1 - (out.length + 1) = m := by omega
        refine ⟨by unfold roomy; omega, rfl, back (out ++ [at_], n.next) (by simp only [hl1]; omega) (by simp only [hl1]) (by simp only [hl1]) ⟨?_, ?_, ?_⟩⟩
        · rw [List.nodup_append]
          refine ⟨hnd, by simp, fun a ha b hb' => ?_⟩
          simp only [List.mem_singleton] at hb'
          subst hb'
          rintro rfl
          exact hc.2 ha
        · intro x hx
          simp only [List.mem_append, List.mem_singleton] at hx
          rcases hx with hx | rfl
          · exact hrg x hx
          · exact ⟨hn0, hn1⟩
        · simp only [hl1, em]; exact hch
    · rw [if_pos h0] at hch
      rw [← hch]
      exact jpost_ret (post_row rfl (by decide))
def arena_look.J : JCon
  | [.sl _ (.ints .i64 w)] => some (smallW w, (lookO (readB w) w).isNone, corrV, true, .sref false 0 0 0 ((lookO (readB w) w).getD []).length, [.row .own 0 (.ints .i64 ((lookO (readB w) w).getD []))])
  | _ => none
abbrev arena_look.K : Con := Jcon arena_look.J
set_option maxRecDepth 20000 in
set_option maxHeartbeats 1000000 in
theorem arena_look.jspec : JSpec Try.prog 51 arena_look.J := by
  refine JSpec.of (ctx_ok (F := [(37, rec_Read.C), (84, fast_Plain.C)]) (S := [(82, arena_sound.K), (53, arena_nodeOf.K), (57, arena_lowOf.K), (50, arena_chain.K)]) (by simpa using ⟨rec_Read.spec, fast_Plain.spec⟩) (by simpa using ⟨arena_sound.jspec.con, arena_nodeOf.jspec.con, arena_lowOf.jspec.con, arena_chain.jspec.con⟩) arena_look.loops) arena_look.at arena_look.nm arena_look.bd ?_ ?_
  · intro vs S pb pv b v news e
    unfold arena_look.J at e
    split at e
    rotate_left
    · cases e
    cases e
    rfl
  intro vs S pb pv b v news e hS
  unfold arena_look.J at e
  split at e
  rotate_left
  · cases e
  cases e
  rw [arena_look.eq]
  unfold arena_look.H
  simp (maxSteps := 4000000) only [go_sem, Nat.reduceEqDiff, Nat.reduceLT, Nat.reduceAdd, Nat.reduceSub, Nat.reduceLeDiff, List.reduceReplicate, Int.reduceToNat, rec_Read.C, fast_Plain.C, arena_sound.K, arena_sound.J, arena_nodeOf.K, arena_nodeOf.J, arena_lowOf.K, arena_lowOf.J, arena_chain.K, arena_chain.J]
  rename_i _ w
  refine ⟨hS, fun hp => ?_, fun hp => ?_⟩
  · rw [Option.isNone_iff_eq_none] at hp
    have : lookO (readB w) w = none := by unfold lookO; rw [hp]
    rw [this]; exact jpost_pan
  obtain ⟨l, hl⟩ : ∃ l, chainO (readB w) w = some l := by
    cases hr : chainO (readB w) w with
    | none => rw [hr] at hp; cases hp
    | some x => exact ⟨x, rfl⟩
  have hlook : lookO (readB w) w = if leavesB w l 0 [] = true then some l else none := by unfold lookO; rw [hl]
  have bad : leavesB w l 0 [] = false → lookO (readB w) w = none := fun h => by rw [hlook, h]; rfl
  have hll : l.length ≤ 65536 := by have := (chainO_some hl).2.2.2.1; have := hS.1; omega
  simp only [hl, Option.getD_some, joinW_eq]
  unfold arena_look.L1
  refine loop2 (σ := Bytes × Nat) (fun s => .str s.1) (fun s => .int .i64 s.2) (fun s => [.row .own 0 (.ints .i64 l)]) (fun s => l.length - s.2) (fun s => s.2 ≤ l.length ∧ leavesB w (l.drop s.2) s.2 s.1 = leavesB w l 0 []) ([], 0) rfl rfl ⟨Nat.zero_le _, by simp⟩ ?_
  rintro I back ⟨last, k⟩ ⟨hk, hlv⟩
  simp only at hk hlv ⊢
  have hout : ¬ (k : Int) < (l.length : Int) → JPost (lookO (readB w) w).isNone corrV true (.sref false 0 0 0 ((lookO (readB w) w).getD []).length) [.row .own 0 (.ints .i64 ((lookO (readB w) w).getD []))] (.ret (.sref false 0 0 0 l.length)) [.row .own 0 (.ints .i64 l)] := by
    intro h
    obtain rfl : k = l.length := by omega
    rw [List.drop_length] at hlv
    have : lookO (readB w) w = some l := by rw [hlook, ← hlv]; rfl
    rw [this]
    exact jpost_ret (post_row rfl (by decide))
  have hlf : k < l.length → leavesB w l 0 [] = match leafO w k last (l.getD k 0) with
      | none => false
      | some low => leavesB w (l.drop (k + 1)) (k + 1) low := by
    intro h
    rw [← hlv, drop_cons l k 0 h]; rfl
  have hpan : k < l.length → leafO w k last (l.getD k 0) = none → ∀ h', JPost (lookO (readB w) w).isNone corrV true (.sref false 0 0 0 ((lookO (readB w) w).getD []).length) [.row .own 0 (.ints .i64 ((lookO (readB w) w).getD []))] (.pan corrV) h' := by
    intro h h2 h'
    rw [bad (by rw [hlf h, h2])]; exact jpost_pan
  have hk0 : decide ((k : Int) = 0) = decide (k = 0) := decide_eq_decide.2 (by omega)
  have hk1 : decide (0 < (k : Int)) = decide (0 < k) := decide_eq_decide.2 (by omega)
  cases hn : nodeO w (l.getD k 0) with
  | none =>
    simp only [arena_nodeOf.J, arena_sound.J, arena_lowOf.J, fast_Plain.C, hn, Option.isNone_none, go_sem, Nat.reduceEqDiff, Nat.reduceLT, Nat.reduceAdd, Nat.reduceSub, Nat.reduceLeDiff, List.reduceReplicate, Int.reduceToNat]
    refine ⟨fun h => ?_, hout⟩
    rw [joinW_eq]
    exact ⟨by omega, by omega, hS, hpan (by omega) (by unfold leafO; rw [hn]) _⟩
  | some n =>
    obtain ⟨n1, n2, n3, n4, n5⟩ := n
    have hok := (nodeO_some hn).1
    have hsl : n5.length ≤ 13 := hok.2.2.2.2.2.2.1
    have hrs : roomy n5.length := by unfold roomy; omega
    cases hw : lowO w ⟨n1, n2, n3, n4, n5⟩ with
    | none =>
      simp only [arena_nodeOf.J, arena_sound.J, arena_lowOf.J, fast_Plain.C, hn, hw, Option.isNone_none, Option.isNone_some, Option.getD_some, go_sem, Nat.reduceEqDiff, Nat.reduceLT, Nat.reduceAdd, Nat.reduceSub, Nat.reduceLeDiff, List.reduceReplicate, Int.reduceToNat]
      refine ⟨fun h => ?_, hout⟩
      rw [joinW_eq]
      exact ⟨by omega, by omega, hS, hS, hpan (by omega) (by unfold leafO; simp only [hn, hw]) _⟩
    | some low =>
      simp only [arena_nodeOf.J, arena_sound.J, arena_lowOf.J, fast_Plain.C, hn, hw, hk0, hk1, Option.isNone_some, Option.getD_some, go_sem, Nat.reduceEqDiff, Nat.reduceLT, Nat.reduceAdd, Nat.reduceSub, Nat.reduceLeDiff, List.reduceReplicate, Int.reduceToNat]
      refine ⟨fun h => ?_, hout⟩
      rw [joinW_eq]
      refine ⟨by omega, by omega, hS, hS, fun hc => hpan (by omega) (by unfold leafO; simp only [hn, hw, hc]; rfl) _, fun hc => ⟨hrs, ?_⟩⟩
      rw [joinW_eq]
      unfold arena_look.L2
      have hpl : (plain n5).length ≤ 13 := Nat.le_trans (plain_len n5) hsl
      refine loop2 (σ := Bytes × Nat) (fun s => .str s.1) (fun s => .int .i64 s.2) (fun s => [.row .own 0 (.ints .i64 l), .box (.agg [.int .i64 n1, .int .i64 n2, .int .i64 n3, .int .i64 n4, .sl false (.ints .i64 n5)])]) (fun s => (plain n5).length - s.2)
        (fun s => s.2 ≤ (plain n5).length ∧ slotsB w low ((plain n5).drop s.2) s.2 s.1 = slotsB w low (plain n5) 0 low) (low, 0) rfl rfl ⟨Nat.zero_le _, by simp⟩ ?_
      rintro I2 back2 ⟨last2, j⟩ ⟨hj, hsb⟩
      simp only at hj hsb ⊢
      have hlo : slotsB w low (plain n5) 0 low = false → leafO w k last (l.getD k 0) = none := fun hs => by
        unfold leafO; simp only [hn, hw, hc, hs]; rfl
      have hso : j < (plain n5).length → slotsB w low (plain n5) 0 low = match recO w ((plain n5).getD j 0) with
          | none => false
          | some x => decide (x.kind = 1) && !ltB x.key low && (decide (j = 0) || ltB last2 x.key) && slotsB w low ((plain n5).drop (j + 1)) (j + 1) (if ltB last2 x.key then x.key else last2) := by
        intro h
        rw [← hsb, drop_cons _ j 0 h]; rfl
      have hj0 : decide ((j : Int) = 0) = decide (j = 0) := decide_eq_decide.2 (by omega)
      have hout2 : ¬ (j : Int) < ((plain n5).length : Int) → ∃ m, m < l.length - k ∧ I m [.str low, .int .i64 (IntKind.i64.wrap ((k : Int) + 1))] [.row .own 0 (.ints .i64 l)] := by
        intro hge
        obtain rfl : j = (plain n5).length := by omega
        rw [List.drop_length] at hsb
        have hs1 : slotsB w low (plain n5) 0 low = true := by rw [← hsb]; rfl
        have hlf' : leafO w k last (l.getD k 0) = some low := by unfold leafO; simp only [hn, hw, hc, hs1]; rfl
        refine back (low, k + 1) (by simp only; omega) (by simp only; rw [wnext (by omega)]) rfl ⟨by simp only; omega, ?_⟩
        simp only
        rw [hlf (by omega), hlf']
      cases hx : recO w ((plain n5).getD j 0) with
      | none =>
        obtain ⟨e, he, hr⟩ := rreadV_none hx
        have hd : decide (e = 0) = false := decide_eq_false he
        simp only [arena_sound.J, rec_Read.C, hr, zeroRc, hd, joinW_eq, guard_tt, guard_tf, guard_ft, guard_ff, Int.reduceEq, Int.reduceLT, Int.reduceLE, decide_false, decide_true, Bool.not_false, Bool.not_true, Bool.not_not, not_true_eq_false, not_false_eq_true, true_implies, false_implies, implies_true, and_true, true_and, reduceCtorEq, Bool.and_self, Bool.or_self, Bool.and_true, Bool.true_and, Bool.false_eq_true, if_true, if_false, go_sem, Nat.reduceEqDiff, Nat.reduceLT, Nat.reduceAdd, Nat.reduceSub, Nat.reduceLeDiff, List.reduceReplicate, Int.reduceToNat]
        exact ⟨fun h2 => ⟨⟨by omega, by omega⟩, hS.roomy, hpan (by omega) (hlo (by rw [hso (by omega), hx])) _⟩, hout2⟩
      | some x =>
        obtain ⟨x1, x2, x3, x4⟩ := x
        simp only [arena_sound.J, rec_Read.C, rreadV_some hx, hj0, go_sem, Nat.reduceEqDiff, Nat.reduceLT, Nat.reduceAdd, Nat.reduceSub, Nat.reduceLeDiff, List.reduceReplicate, Int.reduceToNat]
        refine ⟨fun h2 => ⟨⟨by omega, by omega⟩, hS.roomy, ?_⟩, hout2⟩
        refine ⟨fun h3 => hpan (by omega) (hlo ?_) _, fun h3 => ?_⟩
        · rw [hso (by omega), hx]
          simp only [h3, Bool.false_and]
        · refine back2 (if ltB last2 x2 = true then x2 else last2, j + 1) (by simp only; omega) (by simp only; rw [wnext (by omega)]) rfl ⟨by simp only; omega, ?_⟩
          simp only
          rw [hso (by omega), hx]
          simp only [h3, Bool.true_and]
theorem some_of {α : Type} {x : Option α} (h : x.isNone = false) : ∃ a, x = some a := by
  cases x with
  | none => cases h
  | some a => exact ⟨a, rfl⟩
def leavesV (w : List Int) : AV := match chainO (readB w) w with
  | some l => .tup [.sl false (.ints .i64 l), .int .i64 0]
  | none => .tup [.sl false (.ints .i64 []), .int .i64 110]
def arena_Leaves.C : Contract
  | [.sl _ (.ints .i64 w)] => some (false, pD (smallW w) (leavesV w))
  | _ => none
set_option maxRecDepth 20000 in
set_option maxHeartbeats 1000000 in
theorem arena_Leaves.spec : FSpec Try.prog 17 arena_Leaves.C := by
  refine FSpec.ofD (ctx_ok (F := []) (S := [(50, arena_chain.K)]) (by simp) (by simpa using arena_chain.jspec.con) arena_Leaves.loops) arena_told.tspec arena_Leaves.at arena_Leaves.nm arena_Leaves.bd ?_
  intro vs b S v news e hS
  unfold arena_Leaves.C at e
  split at e
  rotate_left
  · cases e
  cases e
  rw [arena_Leaves.eq]
  unfold arena_Leaves.H
  simp (maxSteps := 4000000) only [go_sem, Nat.reduceEqDiff, Nat.reduceLT, Nat.reduceAdd, Nat.reduceSub, Nat.reduceLeDiff, List.reduceReplicate, Int.reduceToNat, arena_chain.K, arena_chain.J]
  rename_i _ w
  refine ⟨hS, fun hp => ⟨rfl, ?_⟩, fun hp => ?_⟩
  · rw [Option.isNone_iff_eq_none] at hp
    have : leavesV w = .tup [.sl false (.ints .i64 []), .int .i64 110] := by unfold leavesV; rw [hp]
    rw [this]; exact post_val rfl rfl
  · obtain ⟨l, hl⟩ := some_of hp
    have : leavesV w = .tup [.sl false (.ints .i64 l), .int .i64 0] := by unfold leavesV; rw [hl]
    rw [this, hl]
    refine post_val ?_ rfl
    simp only [Option.getD_some, go_sem, Nat.reduceEqDiff, Nat.reduceLT, Nat.reduceAdd, Nat.reduceSub, Nat.reduceLeDiff, List.reduceReplicate, Int.reduceToNat]
def checkI (w : List Int) : Int := if (lookO (readB w) w).isSome = true then 0 else 110
def arena_Check.C : Contract
  | [.sl _ (.ints .i64 w)] => some (false, pD (smallW w) (.int .i64 (checkI w)))
  | _ => none
set_option maxRecDepth 20000 in
set_option maxHeartbeats 1000000 in
theorem arena_Check.spec : FSpec Try.prog 19 arena_Check.C := by
  refine FSpec.ofD (ctx_ok (F := []) (S := [(51, arena_look.K)]) (by simp) (by simpa using arena_look.jspec.con) arena_Check.loops) arena_told.tspec arena_Check.at arena_Check.nm arena_Check.bd ?_
  intro vs b S v news e hS
  unfold arena_Check.C at e
  split at e
  rotate_left
  · cases e
  cases e
  rw [arena_Check.eq]
  unfold arena_Check.H
  simp (maxSteps := 4000000) only [go_sem, Nat.reduceEqDiff, Nat.reduceLT, Nat.reduceAdd, Nat.reduceSub, Nat.reduceLeDiff, List.reduceReplicate, Int.reduceToNat, arena_look.K, arena_look.J]
  rename_i _ w
  refine ⟨hS, fun hp => ⟨rfl, ?_⟩, fun hp => ?_⟩
  · rw [Option.isNone_iff_eq_none] at hp
    have : checkI w = 110 := by unfold checkI; rw [hp]; rfl
    rw [this]; exact post_val rfl rfl
  · obtain ⟨l, hl⟩ := some_of hp
    have : checkI w = 0 := by unfold checkI; rw [hl]; rfl
    rw [this]; exact post_val rfl rfl
end Lam
namespace Lam
open Go Go.Proofs
set_option linter.unusedVariables false
set_option linter.unnecessarySimpa false
set_option linter.unusedSimpArgs false
end Lam
namespace Lam
open Go Go.Proofs
set_option linter.unusedVariables false
set_option linter.unnecessarySimpa false
set_option linter.unusedSimpArgs false
def higherP (w : List Int) (b : Int) (m1 m2 m1' m2' : Int → Bool) : Prop := (∀ k, m1 k = true → m1' k = true) ∧ (∀ k, m2 k = true → m2' k = true) ∧ ((∀ nd, nodeO w b = some nd → nd.level = 0) → m1' = m1)
theorem higherP.refl {w : List Int} {b : Int} {m1 m2 : Int → Bool} : higherP w b m1 m2 m1 m2 := ⟨fun _ h => h, fun _ h => h, fun _ => rfl⟩
end Lam
namespace Lam
open Go Go.Proofs
set_option linter.unusedVariables false
set_option linter.unnecessarySimpa false
set_option linter.unusedSimpArgs false
end Lam
namespace Lam
open Go Go.Proofs
set_option linter.unusedVariables false
set_option linter.unnecessarySimpa false
set_option linter.unusedSimpArgs false
theorem look_parts {w l : List Int} (hl : lookO (readB w) w = some l) : chainO (readB w) w = some l ∧ leavesB w l 0 [] = true ∧ readB w = true := by
  unfold lookO at hl
  split at hl
  · cases hl
  · rename_i l' hl'
    split at hl
    · rename_i hb; cases hl; exact ⟨hl', hb, (chainO_some hl').1⟩
    · cases hl
end Lam
namespace Lam
open Go Go.Proofs
set_option linter.unusedVariables false
end Lam
namespace Lam
open Go Go.Proofs
set_option linter.unusedVariables false
def lamplighterref10_In.loops : Nat → LInfo
  | 2 => ⟨[5], [false], [0, 1], [], [], []⟩
  | _ => ⟨[], [], [], [], [], []⟩
def lamplighterref10_In.L1 (c : Ctx) (J1 : List AObj → Prop) (K : AOut → List AObj → Prop) (lv : List AV) (h0 : List AObj) (n0 : Nat) (c0 : AV) (c1 : AV) : Prop :=
  ∃ I : Nat → List AV → List AObj → Prop, (∃ n, I n lv h0) ∧ ∀ n h, ∀ t5, I n [t5] h →
    runD (lenD T_sl_int h c0) h fun t8 h =>
    runD (binD T_int .lss t5 t8) h fun t9 h =>
    condW t9
    (runD (indexAddrD T_sl_int h c0 t5) h fun t14 h =>
    runD (fitD T_int (loadD h t14)) h fun t15 h =>
    runD (binD T_int .eql t15 c1) h fun t17 h =>
    condW t17
    (K (.ret (.bool true)) h)
    (runD (binD T_int .add t5 (.int .i64 1)) h fun t11 h =>
    (∃ m, m < n ∧ I m (AV.norms n0 h [t11]) (normH n0 h)) ∧ AV.norms n0 h [c0, c1] = [c0, c1]))
    (J1 h)
def lamplighterref10_In.H (c : Ctx) (t0 : AV) (t1 : AV) (h : List AObj) (K : AOut → List AObj → Prop) : Prop :=
  joinW (fun (J1 : List AObj → Prop) =>
  promV [false] [(.int .i64 0)] h fun lv h => lamplighterref10_In.L1 c J1 K (AV.norms h.length h lv) (normH h.length h) h.length (AV.norm h.length h t0) (AV.norm h.length h t1))
  (fun h => K (.ret (.bool false)) h)
theorem lamplighterref10_In.eq (F : List (FuncId × Contract)) (S : List (FuncId × Con)) (t0 t1 : AV) (h : List AObj) (K : AOut → List AObj → Prop) : funW (ctx F S lamplighterref10_In.loops) Try.f21 [t0, t1] h K = lamplighterref10_In.H (ctx F S lamplighterref10_In.loops) t0 t1 h K := by kernel_rfl
theorem lamplighterref10_In.at : Try.prog.funcs[21]? = some Try.f21 := by kernel_rfl
theorem lamplighterref10_In.nm : (Try.f21.name == "runtime.NumGoroutine") = false := by kernel_rfl
theorem lamplighterref10_In.bd : Try.f21.body.isNone = false := by kernel_rfl
end Lam
namespace Lam
set_option maxRecDepth 20000
open Go Go.Proofs
set_option linter.unusedVariables false
set_option linter.unnecessarySimpa false
set_option linter.unusedSimpArgs false
def lamplighterref10_In.C : Contract
  | [.sl _ (.ints .i64 l), .int .i64 v] => some (false, pD (roomy l.length) (.bool (decide (v ∈ l))))
  | _ => none
set_option maxRecDepth 20000 in
theorem lamplighterref10_In.spec : FSpec Try.prog 21 lamplighterref10_In.C := by
  refine FSpec.of (ctx_ok (F := []) (S := []) (by simp) (by simp) lamplighterref10_In.loops) lamplighterref10_In.at lamplighterref10_In.nm lamplighterref10_In.bd ?_
  intro vs b S v news e hS
  unfold lamplighterref10_In.C at e
  split at e
  rotate_left
  · cases e
  cases e
  rw [lamplighterref10_In.eq]
  unfold lamplighterref10_In.H
  simp (maxSteps := 4000000) only [go_sem, Nat.reduceEqDiff, Nat.reduceLT, Nat.reduceAdd, Nat.reduceSub, Nat.reduceLeDiff, List.reduceReplicate, Int.reduceToNat]
  rename_i _ l v
  rw [joinW_eq]
  unfold lamplighterref10_In.L1
  have hr := hS
  unfold roomy at hr
  refine loop1 (σ := Nat) (fun k => .int .i64 k) (fun k => []) (fun k => l.length - k) (fun k => k ≤ l.length ∧ v ∉ l.take k) 0 rfl rfl ⟨Nat.zero_le _, by simp⟩ ?_
  rintro I back k ⟨hk, hall⟩
  simp only [go_sem, Nat.reduceEqDiff, Nat.reduceLT, Nat.reduceAdd, Nat.reduceSub, Nat.reduceLeDiff, List.reduceReplicate, Int.reduceToNat]
  refine ⟨fun hlt => ⟨by omega, fun h => ?_, fun h => ?_⟩, fun hge => ?_⟩
  · have : v ∈ l := by rw [← h]; exact getD_mem l k 0 (by omega)
    rw [decide_eq_true this]; exact post_val rfl rfl
  · refine back (k + 1) (by omega) (by rw [wnext (by omega)]) rfl ⟨by omega, fun hm => ?_⟩
    rw [take_next l k 0 (by omega), List.mem_append, List.mem_singleton] at hm
    rcases hm with hm | hm
    · exact hall hm
    · exact h hm.symm
  · obtain rfl : k = l.length := by omega
    rw [List.take_length] at hall
    rw [decide_eq_false hall]; exact post_val rfl rfl
end Lam
namespace Lam
open Go
set_option linter.unusedVariables false
set_option linter.unusedSimpArgs false
theorem slotsB_some {w : List Int} {low : Bytes} : ∀ {l : List Int} {k : Nat} {last : Bytes}, slotsB w low l k last = true → ∀ s ∈ l, ∃ x, recO w s = some x ∧ x.kind = 1
  | [], _, _, _, s, hs => by cases hs
  | a :: r, k, last, h, s, hs => by
    simp only [slotsB] at h
    cases hx : recO w a with
    | none => rw [hx] at h; cases h
    | some x =>
      rw [hx] at h
      simp only [Bool.and_eq_true, decide_eq_true_eq] at h
      rcases List.mem_cons.1 hs with rfl | hs
      · exact ⟨x, hx, h.1.1.1⟩
      · exact slotsB_some h.2 s hs
/-- what a sound leaf has -/
theorem leafO_some {w : List Int} {i : Nat} {last low : Bytes} {b : Int} (h : leafO w i last b = some low) : ∃ n, nodeO w b = some n ∧ lowO w n = some low ∧ slotsB w low (plain n.slots) 0 low = true := by
  unfold leafO at h
  cases hn : nodeO w b with
  | none => rw [hn] at h; cases h
  | some n =>
    rw [hn] at h
    simp only at h
    cases hw : lowO w n with
    | none => rw [hw] at h; cases h
    | some lo =>
      rw [hw] at h
      simp only at h
      split at h
      rotate_left
      · cases h
      rename_i hc
      cases h
      simp only [Bool.and_eq_true] at hc
      exact ⟨n, rfl, hw, hc.2⟩
theorem leavesB_each {w : List Int} : ∀ {l : List Int} {i : Nat} {last : Bytes}, leavesB w l i last = true → ∀ b ∈ l, ∃ j la low, leafO w j la b = some low
  | [], _, _, _, b, hb => by cases hb
  | a :: r, i, last, h, b, hb => by
    simp only [leavesB] at h
    split at h
    · cases h
    · rename_i low hl
      rcases List.mem_cons.1 hb with rfl | hb
      · exact ⟨i, last, low, hl⟩
      · exact leavesB_each h b hb
end Lam
namespace Lam
open Go
set_option linter.unusedVariables false
set_option linter.unnecessarySimpa false
set_option linter.unusedSimpArgs false
/-! ### The check of words of which one is changed -/
end Lam
namespace Lam
open Go Go.Proofs
set_option linter.unusedVariables false
set_option linter.unnecessarySimpa false
set_option linter.unusedSimpArgs false
theorem check_lookO {w : List Int} (h : checkI w = 0) : ∃ l, lookO (readB w) w = some l := by
  unfold checkI at h
  cases hl : lookO (readB w) w with
  | none => rw [hl] at h; cases h
  | some l => exact ⟨l, rfl⟩
end Lam
namespace Lam
open Go Go.Proofs
set_option linter.unusedVariables false
def lamplighterlaw13_SeekHits.loops : Nat → LInfo
  | 2 => ⟨[], [], [], [(4, none), (3, some [22, 25])], [], []⟩
  | 8 => ⟨[12], [false], [0, 1, 5, 6, 8, 9, 10, 11], [], [], []⟩
  | 11 => ⟨[], [], [], [(3, none), (5, some [56, 61])], [], []⟩
  | 18 => ⟨[15], [false], [0, 5, 10, 11, 13, 14], [], [], []⟩
  | 23 => ⟨[], [], [], [(2, none), (2, some [101, 103]), (2, none), (2, some [105, 107])], [], []⟩
  | _ => ⟨[], [], [], [], [], []⟩
def lamplighterlaw13_SeekHits.L1 (c : Ctx) (J2 : AV → AV → AV → AV → AV → AV → AV → AV → List AObj → Prop) (K : AOut → List AObj → Prop) (lv : List AV) (h0 : List AObj) (n0 : Nat) (c0 : AV) (c1 : AV) (c5 : AV) (c6 : AV) (c8 : AV) (c9 : AV) (c10 : AV) (c11 : AV) : Prop :=
  ∃ I : Nat → List AV → List AObj → Prop, (∃ n, I n lv h0) ∧ ∀ n h, ∀ t12, I n [t12] h →
    runD (binD T_int .lss t12 (.int .i64 13)) h fun t48 h =>
    condW t48
    (runD (fitD T_api_Seek (loadD h c10)) h fun t52 h =>
    callW false c (.fn (.func 28) [] []) [c0, t52] h (fun t53 h =>
    runH (storeH T_api_Seek h c10 t53) h fun _ h =>
    runD (binD T_int .add t12 (.int .i64 1)) h fun t50 h =>
    (∃ m, m < n ∧ I m (AV.norms n0 h [t50]) (normH n0 h)) ∧ AV.norms n0 h [c0, c1, c5, c6, c8, c9, c10, c11] = [c0, c1, c5, c6, c8, c9, c10, c11])
    (fun v h => K (.pan v) h))
    (J2 c0 c1 c5 c6 c8 c9 c10 c11 h)
def lamplighterlaw13_SeekHits.L2 (c : Ctx) (J4 : AV → AV → AV → List AObj → Prop) (K : AOut → List AObj → Prop) (lv : List AV) (h0 : List AObj) (n0 : Nat) (c0 : AV) (c5 : AV) (c10 : AV) (c11 : AV) (c13 : AV) (c14 : AV) : Prop :=
  ∃ I : Nat → List AV → List AObj → Prop, (∃ n, I n lv h0) ∧ ∀ n h, ∀ t15, I n [t15] h →
    runD (lenD T_sl_api_Rec h c14) h fun t77 h =>
    runD (binD T_int .lss t15 t77) h fun t78 h =>
    condW t78
    (runD (indexAddrD T_sl_int h c13 t15) h fun t85 h =>
    runD (fitD T_int (loadD h t85)) h fun t86 h =>
    callW false c (.fn (.func 37) [] []) [c0, t86] h (fun t87 h =>
    runD (extractD t87 0) h fun t88 h =>
    runD (extractD t87 1) h fun t89 h =>
    allocW T_api_Rec h fun t16 h =>
    runH (storeH T_api_Rec h t16 t88) h fun _ h =>
    runD (binD T_api_Errno .neq t89 (.int .i64 0)) h fun t91 h =>
    joinW (fun (J5 : AV → AV → List AObj → Prop) =>
    guardW t91 false
    (runD (fitD T_api_Rec (loadD h t16)) h fun t93 h =>
      runD (indexAddrD T_sl_api_Rec h c14 t15) h fun t96 h =>
      runD (fitD T_api_Rec (loadD h t96)) h fun t97 h =>
      runD (binD T_api_Rec .neq t93 t97) h fun t98 h =>
      J5 (.bool false) t98 h)
    (J5 (.bool true) .und h))
    (fun t92 t98 h => runD (pickD t92 (.bool true) t98) h fun t99 h =>
    condW t99
    (K (.ret (.bool false)) h)
    (runD (binD T_int .add t15 (.int .i64 1)) h fun t80 h =>
    (∃ m, m < n ∧ I m (AV.norms n0 h [t80]) (normH n0 h)) ∧ AV.norms n0 h [c0, c5, c10, c11, c13, c14] = [c0, c5, c10, c11, c13, c14])))
    (fun v h => K (.pan v) h))
    (J4 c5 c10 c11 h)
def lamplighterlaw13_SeekHits.H (c : Ctx) (t0 : AV) (t1 : AV) (h : List AObj) (K : AOut → List AObj → Prop) : Prop :=
  callW false c (.fn (.func 24) [] []) [] h (fun t18 h =>
  runD (lenD T_sl_int h t0) h fun t20 h =>
  runD (binD T_int .gtr t20 (.int .i64 1000)) h fun t21 h =>
  joinW (fun (J1 : AV → AV → List AObj → Prop) =>
  guardW t21 false
  (callW false c (.fn (.func 19) [] []) [t0] h (fun t24 h =>
    runD (binD T_api_Errno .neq t24 (.int .i64 0)) h fun t25 h =>
    J1 (.bool false) t25 h)
    (fun v h => K (.pan v) h))
  (J1 (.bool true) .und h))
  (fun t22 t25 h => runD (pickD t22 (.bool true) t25) h fun t26 h =>
  condW t26
  (K (.ret t18) h)
  (callW false c (.fn (.func 17) [] []) [t0] h (fun t30 h =>
  runD (extractD t30 0) h fun t31 h =>
  runD (extractD t30 1) h fun t32 h =>
  runD (convD h T_uint8 T_int t1) h fun t36 h =>
  callW false c (.fn (.func 23) [] []) [t0, t36] h (fun t37 h =>
  runD (extractD t37 0) h fun t38 h =>
  runD (extractD t37 1) h fun t39 h =>
  allocW T_api_Node h fun t8 h =>
  runH (storeH T_api_Node h t8 t38) h fun _ h =>
  runD (convD h T_uint8 T_int t1) h fun t43 h =>
  callW false c (.fn (.func 25) [] []) [t0, t43] h (fun t44 h =>
  runD (extractD t44 0) h fun t45 h =>
  runD (extractD t44 1) h fun t46 h =>
  allocW T_api_Seek h fun t10 h =>
  runH (storeH T_api_Seek h t10 t45) h fun _ h =>
  joinW (fun (J2 : AV → AV → AV → AV → AV → AV → AV → AV → List AObj → Prop) =>
  promV [false] [(.int .i64 0)] h fun lv h => lamplighterlaw13_SeekHits.L1 c J2 K (AV.norms h.length h lv) (normH h.length h) h.length (AV.norm h.length h t0) (AV.norm h.length h t1) (AV.norm h.length h t18) (AV.norm h.length h t31) (AV.norm h.length h t8) (AV.norm h.length h t39) (AV.norm h.length h t10) (AV.norm h.length h t46))
  (fun t0 t1 t5 t6 t8 t9 t10 t11 h => runD (binD T_api_Errno .neq t9 (.int .i64 0)) h fun t55 h =>
  joinW (fun (J3 : AV → AV → List AObj → Prop) =>
  guardW t55 false
  (runD (convD h T_uint8 T_int t1) h fun t59 h =>
    callW false c (.fn (.func 21) [] []) [t6, t59] h (fun t60 h =>
    runD (unD .not t60) h fun t61 h =>
    J3 (.bool false) t61 h)
    (fun v h => K (.pan v) h))
  (J3 (.bool true) .und h))
  (fun t56 t61 h => runD (pickD t56 (.bool true) t61) h fun t62 h =>
  condW t62
  (K (.ret t5) h)
  (runD (fieldAddrD T_api_Node t8 4) h fun t64 h =>
  runD (fitD T_sl_int (loadD h t64)) h fun t65 h =>
  callW false c (.fn (.func 36) [] []) [t65] h (fun t66 h =>
  runD (fitD T_api_Seek (loadD h t10)) h fun t68 h =>
  callW false c (.fn (.func 33) [] []) [t0, t68] h (fun t69 h =>
  runD (lenD T_sl_api_Rec h t69) h fun t71 h =>
  runD (lenD T_sl_int h t66) h fun t73 h =>
  runD (binD T_int .neq t71 t73) h fun t74 h =>
  condW t74
  (K (.ret (.bool false)) h)
  (joinW (fun (J4 : AV → AV → AV → List AObj → Prop) =>
  promV [false] [(.int .i64 0)] h fun lv h => lamplighterlaw13_SeekHits.L2 c J4 K (AV.norms h.length h lv) (normH h.length h) h.length (AV.norm h.length h t0) (AV.norm h.length h t5) (AV.norm h.length h t10) (AV.norm h.length h t11) (AV.norm h.length h t66) (AV.norm h.length h t69))
  (fun t5 t10 t11 h => joinW (fun (J6 : AV → AV → List AObj → Prop) =>
  guardW t5 true
  (runD (binD T_api_Errno .eql t11 (.int .i64 0)) h fun t103 h =>
    J6 (.bool true) t103 h)
  (J6 (.bool false) .und h))
  (fun t101 t103 h => runD (pickD t101 t103 (.bool false)) h fun t104 h =>
  joinW (fun (J7 : AV → AV → List AObj → Prop) =>
  guardW t104 true
  (runD (fieldAddrD T_api_Seek t10 4) h fun t106 h =>
    runD (fitD T_bool (loadD h t106)) h fun t107 h =>
    J7 (.bool true) t107 h)
  (J7 (.bool false) .und h))
  (fun t105 t107 h => runD (pickD t105 t107 (.bool false)) h fun t108 h =>
  K (.ret t108) h)))))
  (fun v h => K (.pan v) h))
  (fun v h => K (.pan v) h)))))
  (fun v h => K (.pan v) h))
  (fun v h => K (.pan v) h))
  (fun v h => K (.pan v) h))))
  (fun v h => K (.pan v) h)
theorem lamplighterlaw13_SeekHits.eq (F : List (FuncId × Contract)) (S : List (FuncId × Con)) (t0 t1 : AV) (h : List AObj) (K : AOut → List AObj → Prop) : funW (ctx F S lamplighterlaw13_SeekHits.loops) Try.f11 [t0, t1] h K = lamplighterlaw13_SeekHits.H (ctx F S lamplighterlaw13_SeekHits.loops) t0 t1 h K := by kernel_rfl
end Lam
namespace Lam
open Go Go.Proofs
set_option linter.unusedVariables false
set_option linter.unnecessarySimpa false
set_option linter.unusedSimpArgs false
theorem node_slotsAt {w : List Int} {b : Int} {n : Nd} (h : nodeO w b = some n) (hb : b < 256) : SlotsAt w b n.slots := by
  obtain ⟨hok, h0, h1, hr⟩ := nodeO_some h
  have hw := (readN_some hr).2
  have h13 := hok.2.2.2.2.2.2.1
  refine ⟨⟨h0, hb, h1⟩, h13, fun x hx => by have := hok.2.2.2.2.2.2.2 x hx; omega, fun k hk => ?_⟩
  have e1 : slotW w b k = (blockAt w b.toNat).getD (k + 1 + 1 + 1) 0 := by
    unfold slotW blockAt
    rw [getD_take, if_pos (by omega), getD_drop]
    congr 1; omega
  rw [e1, ← hw]
  unfold wordsNd
  rw [List.getD_cons_succ, List.getD_cons_succ, List.getD_cons_succ]
  rcases Nat.lt_or_ge k n.slots.length with h1 | h1
  · rw [List.getD_eq_getElem?_getD, List.getElem?_append_left h1, ← List.getD_eq_getElem?_getD]
  · rw [List.getD_eq_getElem?_getD, List.getElem?_append_right h1, List.getD_eq_getElem?_getD, List.getElem?_eq_none h1, List.getElem?_replicate]
    split <;> rfl
def seenB (b : Int) (n : Nd) (k : Nat) : Sk := if downB n.turn = true then downAt b n.turn n.slots k else upAt b n.turn n.slots k
theorem seenB_begin {w : List Int} {b : Int} {n : Nd} (h : nodeO w b = some n) (hb : b < 256) : beginV w b = .tup [(seenB b n 0).V, .int .i64 0] := by
  obtain ⟨_, h13, _⟩ := node_slotsAt h hb
  unfold beginV beginO
  rw [h]
  simp only
  rw [if_neg (by omega)]
  unfold seenB
  by_cases hd : downB n.turn = true
  · simp only [hd, if_true]
    unfold downAt
    rw [if_pos (by decide), List.drop_of_length_le (by omega)]
    rfl
  · rw [show (if downB n.turn = true then (12 : Int) else 0) = 0 from if_neg hd, if_neg hd]
    unfold upAt
    rw [if_pos (by omega)]
    rfl
theorem seenB_steps {w : List Int} {b : Int} {n : Nd} (h : nodeO w b = some n) (hb : b < 256) : ∀ k, stepsN w (seenB b n 0) k = seenB b n k
  | 0 => rfl
  | k + 1 => by
    unfold stepsN
    rw [seenB_steps h hb k]
    unfold seenB
    cases hd : downB n.turn with
    | true => exact down_next (node_slotsAt h hb) hd k
    | false => exact up_next (node_slotsAt h hb) hd k
theorem seenB_end {b : Int} {n : Nd} (h13 : n.slots.length ≤ 13) : ∃ a R, seenB b n 13 = ⟨b, n.turn, a, R, true⟩ ∧ (R = plain n.slots ∨ R = (plain n.slots).reverse) := by
  unfold seenB
  by_cases hd : downB n.turn = true
  · rw [if_pos hd]
    exact ⟨_, _, rfl, .inr (plain_rev _)⟩
  · rw [if_neg hd]
    unfold upAt
    rw [if_neg (by omega)]
    exact ⟨_, _, rfl, .inl rfl⟩
def recT (w : List Int) (s : Int) : RecT := rcT ((recO w s).getD zeroRc)
/-- a sound leaf's records rise -/
theorem slots_rise {w : List Int} {low : Bytes} : ∀ {l : List Int} {k : Nat} {last : Bytes}, slotsB w low l k last = true → (l.map (recT w)).Pairwise ltR ∧ (k ≠ 0 → ∀ s ∈ l, ltB last (recT w s).key = true)
  | [], _, _, _ => ⟨List.Pairwise.nil, fun _ s hs => by cases hs⟩
  | a :: r, k, last, h => by
    simp only [slotsB] at h
    cases hx : recO w a with
    | none => rw [hx] at h; cases h
    | some x =>
      rw [hx] at h
      simp only [Bool.and_eq_true, Bool.or_eq_true, decide_eq_true_eq] at h
      obtain ⟨⟨_, hk⟩, hr⟩ := h
      have ex : recT w a = rcT x := by unfold recT; rw [hx]; rfl
      obtain ⟨h1, h2⟩ := slots_rise hr
      have h2 := h2 (by omega)
      have hstep : ∀ s ∈ r, ltB x.key (recT w s).key = true ∧ (ltB last x.key = true → ltB last (recT w s).key = true) := by
        intro s hs
        have := h2 s hs
        by_cases hl : ltB last x.key = true
        · rw [if_pos hl] at this
          exact ⟨this, fun h => ltB_trans h this⟩
        · rw [if_neg hl] at this
          have hle : leB x.key last := by unfold leB; simpa using hl
          refine ⟨?_, fun h => absurd h hl⟩
          rcases ltB_tri x.key last with e | e | e
          · exact ltB_trans e this
          · rw [e]; exact this
          · exact absurd e hl
      refine ⟨?_, fun hk0 s hs => ?_⟩
      · rw [List.map_cons, List.pairwise_cons]
        refine ⟨fun y hy => ?_, h1⟩
        obtain ⟨s, hs, rfl⟩ := List.mem_map.1 hy
        unfold ltR
        rw [ex]
        exact (hstep s hs).1
      · have hlt : ltB last x.key = true := by rcases hk with h | h; exact absurd h hk0; exact h
        rcases List.mem_cons.1 hs with rfl | hs
        · rw [ex]; exact hlt
        · exact (hstep s hs).2 hlt
theorem hits_all {w : List Int} : ∀ {l : List Int} {out : List RecT}, (∀ s ∈ l, ∃ x, recO w s = some x) → ((out ++ l.map (recT w)).map (·.key)).Nodup → l.foldl (hitS w) out = out ++ l.map (recT w)
  | [], out, _, _ => by simp
  | a :: r, out, h, hn => by
    obtain ⟨x, hx⟩ := h a (by simp)
    have ex : recT w a = rcT x := by unfold recT; rw [hx]; rfl
    have hni : x.key ∉ out.map (·.key) := by
      intro hm
      rw [List.map_append, List.nodup_append] at hn
      refine hn.2.2 _ hm x.key ?_ rfl
      rw [List.map_map, List.map_cons, List.mem_cons]
      left
      show x.key = (recT w a).key
      rw [ex]; rfl
    have hs : hitS w out a = out ++ [recT w a] := by
      unfold hitS
      rw [hx]
      simp only [hni, if_false, ex]
    rw [List.foldl_cons, hs, hits_all (fun s hs => h s (by simp [hs])) (by simpa using hn)]
    simp
theorem rises_nodup {l : List RecT} (h : l.Pairwise ltR) : (l.map (·.key)).Nodup := by
  unfold List.Nodup
  rw [List.pairwise_map]
  exact h.imp fun {a b} hab e => by unfold ltR at hab; rw [e, ltB_self] at hab; cases hab
/-- whichever way: just the records -/
theorem hits_leaf {w R L : List Int} (hrec : ∀ s ∈ L, ∃ x, recO w s = some x) (hr : (L.map (recT w)).Pairwise ltR) (hR : R = L ∨ R = L.reverse) : sortR (hitsOf w R) = L.map (recT w) := by
  have hp : (R.map (recT w)).Perm (L.map (recT w)) := by
    rcases hR with rfl | rfl
    · exact .refl _
    · exact (List.reverse_perm L).map _
  have hn : ((R.map (recT w)).map (·.key)).Nodup := (hp.map _).nodup_iff.2 (rises_nodup hr)
  have e : hitsOf w R = R.map (recT w) := by
    unfold hitsOf
    rw [hits_all (fun s hs => hrec s (by rcases hR with rfl | rfl; exact hs; exact List.mem_reverse.1 hs)) (by simpa using hn)]
    simp
  rw [e]
  exact rises_eq (sortR_rises hn) hr ((sortR_perm _).trans hp)
abbrev SeekHits_ctx : Ctx := ctx [(24, lamplighterlaw13_awake.C), (23, node_Read.C), (25, seek_Begin.C), (28, seek_Step.C), (33, seek_Hits.C), (37, rec_Read.C), (19, arena_Check.C), (17, arena_Leaves.C), (36, lamplighterref06_Plain.C), (21, lamplighterref10_In.C)] [] lamplighterlaw13_SeekHits.loops
set_option maxRecDepth 20000 in
set_option maxHeartbeats 1000000 in
theorem SeekHits_vc (words : List Int) (block : Int) (w_words : wfL (.ints .i64 words)) (n_words : words.length ≤ maxLen) (w_block : (Lit.int .u8 block).wf = true) : lamplighterlaw13_SeekHits.H SeekHits_ctx (.sl false (.ints .i64 words)) (.int .u8 block) [] Told := by
  unfold lamplighterlaw13_SeekHits.H
  simp (maxSteps := 4000000) only [go_sem, Nat.reduceEqDiff, Nat.reduceLT, Nat.reduceAdd, Nat.reduceSub, Nat.reduceLeDiff, List.reduceReplicate, Int.reduceToNat, lamplighterlaw13_awake.C, node_Read.C, seek_Begin.C, seek_Step.C, seek_Hits.C, rec_Read.C, arena_Check.C, arena_Leaves.C, lamplighterref06_Plain.C, lamplighterref10_In.C]
  have hb8 := wf_u8 w_block
  have eb : IntKind.i64.wrap block = block := w64 (by omega) (by omega)
  have hs : ¬ 1000 < (words.length : Int) → smallW words := fun h => ⟨by omega, wf_i64s w_words⟩
  refine ⟨hs, fun _ => rfl, fun hg => ?_⟩
  simp only [Bool.or_eq_false_iff, decide_eq_false_iff_not, Bool.not_eq_false', decide_eq_true_eq] at hg
  obtain ⟨g1, g2⟩ := hg
  have hS := hs g1
  have hw := hS.1
  refine ⟨hS, ?_⟩
  obtain ⟨l, hl⟩ := check_lookO g2
  obtain ⟨h1, h2, h3⟩ := look_parts hl
  have hlen := (chainO_some h1).2.2.2.1
  have hL : leavesV words = .tup [.sl false (.ints .i64 l), .int .i64 0] := by unfold leavesV; rw [h1]
  have hrl : roomy l.length := by unfold roomy; omega
  rw [eb]
  cases hn : nodeO words block with
  | none =>
    obtain ⟨e, he, hr⟩ := readV_no hn
    have hbv : beginV words block = .tup [skZ.V, .int .i64 90] := by unfold beginV beginO; rw [hn]
    simp only [hL, hr, hbv, zeroNd, skZ, Sk.V, joinW_eq, joinW_eq, guard_tt, guard_tf, guard_ft, guard_ff, Int.reduceEq, Int.reduceLT, Int.reduceLE, decide_false, decide_true, Bool.not_false, Bool.not_true, Bool.not_not, not_true_eq_false, not_false_eq_true, true_implies, false_implies, implies_true, and_true, true_and, reduceCtorEq, Bool.and_self, Bool.or_self, Bool.and_true, Bool.true_and, Bool.false_eq_true, if_true, if_false, go_sem, Nat.reduceEqDiff, Nat.reduceLT, Nat.reduceAdd, Nat.reduceSub, Nat.reduceLeDiff, List.reduceReplicate, Int.reduceToNat]
    refine ⟨hS.roomy, hS.roomy, ?_⟩
    unfold lamplighterlaw13_SeekHits.L1
    refine loop1 (σ := Nat) (fun k => .int .i64 k) (fun k => [.box (.agg [.int .i64 0, .int .i64 0, .int .i64 0, .int .i64 0, .sl false (.ints .i64 [])]), .box (stepsN words skZ k).V]) (fun k => 13 - k) (fun k => k ≤ 13) 0 rfl rfl (by decide) ?_
    intro I back k hk
    by_cases hlt : k < 13
    · have hb := @back (13 - k) [.int .i64 ((k + 1 : Nat) : Int)] [.box (.agg [.int .i64 0, .int .i64 0, .int .i64 0, .int .i64 0, .sl false (.ints .i64 [])]), .box (stepS words (stepsN words skZ k)).V] (k + 1) (by omega) rfl rfl (by omega)
      have hsl := stepsN_len words skZ k
      rw [show skZ.refs.length = 0 from rfl] at hsl
      clear back
      generalize stepsN words skZ k = s at *
      obtain ⟨b, t, a, r, o⟩ := s
      simp only at hsl
      have d1 : decide ((k : Int) < 13) = true := decide_eq_true (by omega)
      generalize hs' : stepS words ⟨b, t, a, r, o⟩ = s' at *
      obtain ⟨b', t', a', r', o'⟩ := s'
      simp only [Sk.V, d1, seek_Step.C, hs', wnext (show k < 4611686018427387904 by omega), joinW_eq, guard_tt, guard_tf, guard_ft, guard_ff, Int.reduceEq, Int.reduceLT, Int.reduceLE, decide_false, decide_true, Bool.not_false, Bool.not_true, Bool.not_not, not_true_eq_false, not_false_eq_true, true_implies, false_implies, implies_true, and_true, true_and, reduceCtorEq, Bool.and_self, Bool.or_self, Bool.and_true, Bool.true_and, Bool.false_eq_true, if_true, if_false, go_sem, Nat.reduceEqDiff, Nat.reduceLT, Nat.reduceAdd, Nat.reduceSub, Nat.reduceLeDiff, List.reduceReplicate, Int.reduceToNat] at hb ⊢
      exact ⟨⟨by omega, by omega⟩, hb⟩
    · obtain rfl : k = 13 := by omega
      clear back
      generalize stepsN words skZ 13 = s
      obtain ⟨b, t, a, r, o⟩ := s
      simp only [Sk.V, he, decide_false, joinW_eq, guard_tt, guard_tf, guard_ft, guard_ff, Int.reduceEq, Int.reduceLT, Int.reduceLE, decide_false, decide_true, Bool.not_false, Bool.not_true, Bool.not_not, not_true_eq_false, not_false_eq_true, true_implies, false_implies, implies_true, and_true, true_and, reduceCtorEq, Bool.and_self, Bool.or_self, Bool.and_true, Bool.true_and, Bool.false_eq_true, if_true, if_false, go_sem, Nat.reduceEqDiff, Nat.reduceLT, Nat.reduceAdd, Nat.reduceSub, Nat.reduceLeDiff, List.reduceReplicate, Int.reduceToNat]
      rfl
  | some n =>
    have hbv := seenB_begin hn hb8.2
    have hst := seenB_steps hn hb8.2
    obtain ⟨_, h13, hpos, _⟩ := node_slotsAt hn hb8.2
    obtain ⟨ea, R, hend, hR⟩ := seenB_end (b := block) (n := n) h13
    have h0r : (seenB block n 0).refs = [] := by
      unfold seenB
      split
      · unfold downAt; rw [if_pos (by decide), List.drop_of_length_le (by omega)]; rfl
      · unfold upAt; rw [if_pos (by omega)]; rfl
    obtain ⟨n1, n2, n3, n4, n5⟩ := n
    simp only at h13 hpos hR
    have hplain := plain_len n5
    generalize hs0 : seenB block ⟨n1, n2, n3, n4, n5⟩ 0 = s0 at *
    obtain ⟨b0, t0, a0, r0, o0⟩ := s0
    simp only at h0r
    subst h0r
    simp only [hL, readV_so hn, hbv, Sk.V, joinW_eq, joinW_eq, guard_tt, guard_tf, guard_ft, guard_ff, Int.reduceEq, Int.reduceLT, Int.reduceLE, decide_false, decide_true, Bool.not_false, Bool.not_true, Bool.not_not, not_true_eq_false, not_false_eq_true, true_implies, false_implies, implies_true, and_true, true_and, reduceCtorEq, Bool.and_self, Bool.or_self, Bool.and_true, Bool.true_and, Bool.false_eq_true, if_true, if_false, go_sem, Nat.reduceEqDiff, Nat.reduceLT, Nat.reduceAdd, Nat.reduceSub, Nat.reduceLeDiff, List.reduceReplicate, Int.reduceToNat]
    refine ⟨hS.roomy, hS.roomy, ?_⟩
    unfold lamplighterlaw13_SeekHits.L1
    refine loop1 (σ := Nat) (fun k => .int .i64 k) (fun k => [.box (.agg [.int .i64 n1, .int .i64 n2, .int .i64 n3, .int .i64 n4, .sl false (.ints .i64 n5)]), .box (stepsN words ⟨b0, t0, a0, [], o0⟩ k).V]) (fun k => 13 - k) (fun k => k ≤ 13) 0 rfl rfl (by decide) ?_
    intro I back k hk
    by_cases hlt : k < 13
    · have hb := @back (13 - k) [.int .i64 ((k + 1 : Nat) : Int)] [.box (.agg [.int .i64 n1, .int .i64 n2, .int .i64 n3, .int .i64 n4, .sl false (.ints .i64 n5)]), .box (stepS words (stepsN words ⟨b0, t0, a0, [], o0⟩ k)).V] (k + 1) (by omega) rfl rfl (by omega)
      have hsl := stepsN_len words ⟨b0, t0, a0, [], o0⟩ k
      simp only [List.length_nil] at hsl
      clear back hst hend
      generalize stepsN words ⟨b0, t0, a0, [], o0⟩ k = s at *
      obtain ⟨b, t, a, r, o⟩ := s
      simp only at hsl
      have d1 : decide ((k : Int) < 13) = true := decide_eq_true (by omega)
      generalize hs' : stepS words ⟨b, t, a, r, o⟩ = s' at *
      obtain ⟨b', t', a', r', o'⟩ := s'
      simp only [Sk.V, d1, seek_Step.C, hs', wnext (show k < 4611686018427387904 by omega), joinW_eq, guard_tt, guard_tf, guard_ft, guard_ff, Int.reduceEq, Int.reduceLT, Int.reduceLE, decide_false, decide_true, Bool.not_false, Bool.not_true, Bool.not_not, not_true_eq_false, not_false_eq_true, true_implies, false_implies, implies_true, and_true, true_and, reduceCtorEq, Bool.and_self, Bool.or_self, Bool.and_true, Bool.true_and, Bool.false_eq_true, if_true, if_false, go_sem, Nat.reduceEqDiff, Nat.reduceLT, Nat.reduceAdd, Nat.reduceSub, Nat.reduceLeDiff, List.reduceReplicate, Int.reduceToNat] at hb ⊢
      exact ⟨⟨by omega, by omega⟩, hb⟩
    · obtain rfl : k = 13 := by omega
      clear back
      rw [hst 13, hend]
      by_cases hin : block ∈ l
      · obtain ⟨j, la, low, hlf⟩ := leavesB_each h2 block hin
        obtain ⟨n', hn', _, hsl⟩ := leafO_some hlf
        rw [hn] at hn'
        cases hn'
        simp only at hsl
        have hrise := (slots_rise hsl).1
        have hrec : ∀ s ∈ plain n5, ∃ x, recO words s = some x := fun s hs => by
          obtain ⟨x, hx, _⟩ := slotsB_some hsl s hs
          exact ⟨x, hx⟩
        have hhits := hits_leaf hrec hrise hR
        have hRl : R.length ≤ 13 := by
          rcases hR with rfl | rfl
          · omega
          · rw [List.length_reverse]; omega
        have hr5 : roomy n5.length := by unfold roomy; omega
        have din : decide (block ∈ l) = true := decide_eq_true hin
        have e1 : ((List.map (recT words) (plain n5)).length : Int) = ((plain n5).length : Int) := by rw [List.length_map]
        simp only [Sk.V, eb, din, hhits, e1, seek_Hits.C, lamplighterref10_In.C, lamplighterref06_Plain.C, decide_true, joinW_eq, guard_tt, guard_tf, guard_ft, guard_ff, Int.reduceEq, Int.reduceLT, Int.reduceLE, decide_false, decide_true, Bool.not_false, Bool.not_true, Bool.not_not, not_true_eq_false, not_false_eq_true, true_implies, false_implies, implies_true, and_true, true_and, reduceCtorEq, Bool.and_self, Bool.or_self, Bool.and_true, Bool.true_and, Bool.false_eq_true, if_true, if_false, go_sem, Nat.reduceEqDiff, Nat.reduceLT, Nat.reduceAdd, Nat.reduceSub, Nat.reduceLeDiff, List.reduceReplicate, Int.reduceToNat]
        refine ⟨hrl, hr5, ⟨hS.roomy, hRl⟩, ?_⟩
        unfold lamplighterlaw13_SeekHits.L2
        refine loop1 (σ := Nat) (fun k => .int .i64 k) (fun k => [.box (.agg [.int .i64 n1, .int .i64 n2, .int .i64 n3, .int .i64 n4, .sl false (.ints .i64 n5)]), .box (.agg [.int .i64 block, .int .i64 n2, .int .i64 ea, .sl false (.ints .i64 R), .bool true])]) (fun k => (plain n5).length - k) (fun k => k ≤ (plain n5).length) 0 rfl rfl (Nat.zero_le _) ?_
        intro I2 back2 k hk2
        by_cases hk3 : k < (plain n5).length
        · obtain ⟨x, hx⟩ := hrec _ (getD_mem (plain n5) k 0 hk3)
          have hgx : ((plain n5).map (recT words)).getD k ⟨0, [], [], 0⟩ = rcT x := by
            rw [List.getD_eq_getElem?_getD, List.getElem?_map, List.getElem?_eq_getElem hk3]
            rw [List.getD_eq_getElem?_getD, List.getElem?_eq_getElem hk3] at hx
            show recT words (plain n5)[k] = _
            unfold recT
            have hx' : recO words (plain n5)[k] = some x := hx
            rw [hx']; rfl
          obtain ⟨x1, x2, x3, x4⟩ := x
          simp only [rec_Read.C, rreadV_so hx, hgx, rcT, List.length_map, joinW_eq, guard_tt, guard_tf, guard_ft, guard_ff, Int.reduceEq, Int.reduceLT, Int.reduceLE, decide_false, decide_true, Bool.not_false, Bool.not_true, Bool.not_not, not_true_eq_false, not_false_eq_true, true_implies, false_implies, implies_true, and_true, true_and, reduceCtorEq, Bool.and_self, Bool.or_self, Bool.and_true, Bool.true_and, Bool.false_eq_true, if_true, if_false, go_sem, Nat.reduceEqDiff, Nat.reduceLT, Nat.reduceAdd, Nat.reduceSub, Nat.reduceLeDiff, List.reduceReplicate, Int.reduceToNat]
          exact ⟨fun _ => ⟨⟨by omega, by omega⟩, hS.roomy, ⟨by omega, by omega⟩, back2 (k + 1) (by omega) (by rw [wnext (by omega)]) rfl (by omega)⟩, fun h => absurd h (by omega)⟩
        · obtain rfl : k = (plain n5).length := by omega
          simp only [List.length_map, joinW_eq, guard_tt, guard_tf, guard_ft, guard_ff, Int.reduceEq, Int.reduceLT, Int.reduceLE, decide_false, decide_true, Bool.not_false, Bool.not_true, Bool.not_not, not_true_eq_false, not_false_eq_true, true_implies, false_implies, implies_true, and_true, true_and, reduceCtorEq, Bool.and_self, Bool.or_self, Bool.and_true, Bool.true_and, Bool.false_eq_true, if_true, if_false, go_sem, Nat.reduceEqDiff, Nat.reduceLT, Nat.reduceAdd, Nat.reduceSub, Nat.reduceLeDiff, List.reduceReplicate, Int.reduceToNat]
          exact ⟨fun h => absurd h (by omega), fun _ => rfl⟩
      · have din : decide (block ∈ l) = false := decide_eq_false hin
        simp only [Sk.V, eb, din, lamplighterref10_In.C, decide_true, joinW_eq, guard_tt, guard_tf, guard_ft, guard_ff, Int.reduceEq, Int.reduceLT, Int.reduceLE, decide_false, decide_true, Bool.not_false, Bool.not_true, Bool.not_not, not_true_eq_false, not_false_eq_true, true_implies, false_implies, implies_true, and_true, true_and, reduceCtorEq, Bool.and_self, Bool.or_self, Bool.and_true, Bool.true_and, Bool.false_eq_true, if_true, if_false, go_sem, Nat.reduceEqDiff, Nat.reduceLT, Nat.reduceAdd, Nat.reduceSub, Nat.reduceLeDiff, List.reduceReplicate, Int.reduceToNat]
        exact ⟨hrl, rfl⟩
theorem SeekHits_ok : Ok Try.prog SeekHits_ctx := ctx_ok (by simpa using ⟨lamplighterlaw13_awake.spec, node_Read.spec, seek_Begin.spec, seek_Step.spec, seek_Hits.spec, rec_Read.spec, arena_Check.spec, arena_Leaves.spec, lamplighterref06_Plain.spec, lamplighterref10_In.spec⟩) (by simp) _
theorem SeekHits_law (words : Lst) (block : Int) (k_words : words.kind = (.int .i64)) (w_words : wfL words) (n_words : words.len ≤ maxLen) (w_block : (Lit.int .u8 block).wf = true) : funW SeekHits_ctx Try.f11 [(.sl false words), (.int .u8 block)] [] Told := by
  obtain ⟨words, rfl⟩ := gkind_ints k_words
  rw [SeekHits_ctx, lamplighterlaw13_SeekHits.eq]
  exact SeekHits_vc words block w_words n_words w_block
end Lam
