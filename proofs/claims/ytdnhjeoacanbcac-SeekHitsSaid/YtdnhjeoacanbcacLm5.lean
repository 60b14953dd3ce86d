/- What functions of the program come to, each proved from its code. -/
import Derived.Test.YtdnhjeoacanbcacLm4
namespace Lam
set_option maxRecDepth 20000
open Go Go.Proofs
set_option linter.unusedVariables false
set_option linter.unnecessarySimpa false
set_option linter.unusedSimpArgs false
def cmpI (a b : Bytes) : Int := if ltB a b = true then -1 else if ltB b a = true then 1 else 0
theorem cmpI_neg {a b : Bytes} : (cmpI a b < 0) ↔ ltB a b = true := by
  unfold cmpI
  split
  · rename_i h; simp [h]
  · rename_i h
    split
    · simp [h]
    · simp [h]
def cmp_isNaN_string.C : Contract
  | [.str _] => some (false, pD True (.bool false))
  | _ => none
set_option maxRecDepth 20000 in
theorem cmp_isNaN_string.spec : FSpec Try.prog 94 cmp_isNaN_string.C := by
  refine FSpec.of (ctx_ok (F := []) (S := []) (by simp) (by simp) cmp_isNaN_string.loops) cmp_isNaN_string.at cmp_isNaN_string.nm cmp_isNaN_string.bd ?_
  intro vs b S v news e hS
  unfold cmp_isNaN_string.C at e
  split at e
  rotate_left
  · cases e
  cases e
  rw [cmp_isNaN_string.eq]
  unfold cmp_isNaN_string.H
  simp (maxSteps := 4000000) only [go_sem, Nat.reduceEqDiff, Nat.reduceLT, Nat.reduceAdd, Nat.reduceSub, Nat.reduceLeDiff, List.reduceReplicate, Int.reduceToNat]
  exact post_val rfl rfl
def cmp_Compare_string.C : Contract
  | [.str a, .str b] => some (false, pD True (.int .i64 (cmpI a b)))
  | _ => none
set_option maxRecDepth 20000 in
theorem cmp_Compare_string.spec : FSpec Try.prog 69 cmp_Compare_string.C := by
  refine FSpec.of (ctx_ok (F := [(94, cmp_isNaN_string.C)]) (S := []) (by simpa using cmp_isNaN_string.spec) (by simp) cmp_Compare_string.loops) cmp_Compare_string.at cmp_Compare_string.nm cmp_Compare_string.bd ?_
  intro vs b S v news e hS
  unfold cmp_Compare_string.C at e
  split at e
  rotate_left
  · cases e
  cases e
  rw [cmp_Compare_string.eq]
  unfold cmp_Compare_string.H
  simp (maxSteps := 4000000) only [go_sem, Nat.reduceEqDiff, Nat.reduceLT, Nat.reduceAdd, Nat.reduceSub, Nat.reduceLeDiff, List.reduceReplicate, Int.reduceToNat, cmp_isNaN_string.C]
  rename_i a b
  unfold cmpI
  refine ⟨fun h => ?_, fun h => ⟨fun h2 => ?_, fun h2 => ?_⟩⟩
  · rw [h]; exact post_val rfl rfl
  · rw [h, h2]; exact post_val rfl rfl
  · rw [h, h2]; exact post_val rfl rfl
def seek_Hits_1.C : Contract
  | [.agg [.int .i64 a, .str b, .str c, .int .i64 d], .agg [.int .i64 e, .str f, .str g, .int .i64 i]] => some (false, pD True (.int .i64 (cmpI b f)))
  | _ => none
set_option maxRecDepth 20000 in
theorem seek_Hits_1.spec : FSpec Try.prog 68 seek_Hits_1.C := by
  refine FSpec.of (ctx_ok (F := [(69, cmp_Compare_string.C)]) (S := []) (by simpa using cmp_Compare_string.spec) (by simp) seek_Hits_1.loops) seek_Hits_1.at seek_Hits_1.nm seek_Hits_1.bd ?_
  intro vs b S v news e hS
  unfold seek_Hits_1.C at e
  split at e
  rotate_left
  · cases e
  cases e
  rw [seek_Hits_1.eq]
  unfold seek_Hits_1.H
  simp (maxSteps := 4000000) only [go_sem, Nat.reduceEqDiff, Nat.reduceLT, Nat.reduceAdd, Nat.reduceSub, Nat.reduceLeDiff, List.reduceReplicate, Int.reduceToNat, cmp_Compare_string.C]
  exact post_val rfl rfl
structure SkT where
  block : Int
  turn : Int
  at_ : Int
  refs : List Int
  over : Bool
def SkT.V (s : SkT) : AV := .agg [.int .i64 s.block, .int .i64 s.turn, .int .i64 s.at_, .sl false (.ints .i64 s.refs), .bool s.over]
theorem SkT.norm (s : SkT) (n : Nat) (h : List AObj) : AV.norm n h s.V = s.V := by simp only [SkT.V, go_sem, Nat.reduceEqDiff, Nat.reduceLT, Nat.reduceAdd, Nat.reduceSub, Nat.reduceLeDiff, List.reduceReplicate, Int.reduceToNat]
/-- the heap of one that sorts -/
def hpS (A : SkT) (m : Bytes → Bool) (v : Nat) (l : List RecT) (tl : List Int) : List AObj := .box A.V :: .map (.sb m) :: .row .own v (.recs l) :: tl.map fun n => .box (.int .i64 n)
abbrev hitF : AV := .fn (.func 68) [] []
theorem d0_def : (⟨0, [], [], 0⟩ : RecT) = d0 := rfl
theorem rec_eta (l : List RecT) (i : Nat) : (⟨(l.getD i d0).kind, kyL l i, (l.getD i d0).val, (l.getD i d0).child⟩ : RecT) = l.getD i d0 := rfl
theorem kyL_def (l : List RecT) (i : Nat) : (l.getD i d0).key = kyL l i := rfl
theorem swapL_def (l : List RecT) (i j : Nat) : (l.set i (l.getD j d0)).set j (l.getD i d0) = swapL l i j := rfl
def slices_order2CmpFunc_api_Rec.K : Con := fun args h K => match args with
  | [a0, a1, a2, a3, a4] => slices_order2CmpFunc_api_Rec.H (ctx [(68, seek_Hits_1.C)] [] slices_order2CmpFunc_api_Rec.loops) a0 a1 a2 a3 a4 h K
  | _ => False
theorem slices_order2CmpFunc_api_Rec.spec : SSpec Try.prog 150 slices_order2CmpFunc_api_Rec.K := by
  refine SSpec.of (ctx_ok (F := [(68, seek_Hits_1.C)]) (S := []) (by simpa using seek_Hits_1.spec) (by simp) slices_order2CmpFunc_api_Rec.loops) slices_order2CmpFunc_api_Rec.at slices_order2CmpFunc_api_Rec.nm slices_order2CmpFunc_api_Rec.bd ?_
  intro args h K hC
  unfold slices_order2CmpFunc_api_Rec.K at hC
  split at hC
  · rw [slices_order2CmpFunc_api_Rec.eq]; exact hC
  · exact hC.elim
theorem order2_K (A : SkT) (m : Bytes → Bool) (v : Nat) (l : List RecT) (s : Nat) (n a b : Nat) (hs : s < 1000) (hn : n = l.length) (ha : a < n) (hb : b < n) (hr : roomy n) (K : AOut → List AObj → Prop)
    (hK : ∀ (a' b' : Nat) (s' : Nat), a' < n → b' < n → (s' = s ∨ s' = s + 1) → (a' = a ∨ a' = b) → (b' = a ∨ b' = b) → K (.ret (.tup [.int .i64 a', .int .i64 b'])) (hpS A m v l [(s' : Int)])) :
    slices_order2CmpFunc_api_Rec.K [.sref false 2 v 0 n, .int .i64 a, .int .i64 b, .ptr 3 [], hitF] (hpS A m v l [(s : Int)]) K := by
  unfold slices_order2CmpFunc_api_Rec.K slices_order2CmpFunc_api_Rec.H hpS
  simp only [List.map_cons, List.map_nil, seek_Hits_1.C, d0_def, kyL_def, cmpI_neg, joinW_eq, guard_tt, guard_tf, guard_ft, guard_ff, Int.reduceEq, Int.reduceLT, Int.reduceLE, decide_false, decide_true, Bool.not_false, Bool.not_true, Bool.not_not, not_true_eq_false, not_false_eq_true, true_implies, false_implies, implies_true, and_true, true_and, reduceCtorEq, Bool.and_self, Bool.or_self, Bool.and_true, Bool.true_and, Bool.false_eq_true, if_true, if_false, go_sem, Nat.reduceEqDiff, Nat.reduceLT, Nat.reduceAdd, Nat.reduceSub, Nat.reduceLeDiff, List.reduceReplicate, Int.reduceToNat]
  refine ⟨⟨by omega, by omega⟩, by omega, ⟨by omega, by omega⟩, by omega, fun h => ?_, fun h => ?_⟩
  · rw [wnext (by omega)]
    exact hK b a (s + 1) hb ha (.inr rfl) (.inr rfl) (.inl rfl)
  · exact hK a b s ha hb (.inl rfl) (.inl rfl) (.inr rfl)
def slices_medianCmpFunc_api_Rec.K : Con := fun args h K => match args with
  | [a0, a1, a2, a3, a4, a5] => slices_medianCmpFunc_api_Rec.H (ctx [(68, seek_Hits_1.C)] [(150, slices_order2CmpFunc_api_Rec.K)] slices_medianCmpFunc_api_Rec.loops) a0 a1 a2 a3 a4 a5 h K
  | _ => False
theorem slices_medianCmpFunc_api_Rec.spec : SSpec Try.prog 141 slices_medianCmpFunc_api_Rec.K := by
  refine SSpec.of (ctx_ok (F := [(68, seek_Hits_1.C)]) (S := [(150, slices_order2CmpFunc_api_Rec.K)]) (by simpa using seek_Hits_1.spec) (by simpa using slices_order2CmpFunc_api_Rec.spec) slices_medianCmpFunc_api_Rec.loops) slices_medianCmpFunc_api_Rec.at slices_medianCmpFunc_api_Rec.nm slices_medianCmpFunc_api_Rec.bd ?_
  intro args h K hC
  unfold slices_medianCmpFunc_api_Rec.K at hC
  split at hC
  · rw [slices_medianCmpFunc_api_Rec.eq]; exact hC
  · exact hC.elim
theorem median_K (A : SkT) (m : Bytes → Bool) (v : Nat) (l : List RecT) (s : Nat) (n a b d : Nat) (hs : s < 900) (hn : n = l.length) (ha : a < n) (hb : b < n) (hd : d < n) (hr : roomy n) (K : AOut → List AObj → Prop)
    (hK : ∀ (a' : Nat) (s' : Nat), (a' = a ∨ a' = b ∨ a' = d) → s' ≤ s + 3 → K (.ret (.int .i64 a')) (hpS A m v l [(s' : Int)])) :
    slices_medianCmpFunc_api_Rec.K [.sref false 2 v 0 n, .int .i64 a, .int .i64 b, .int .i64 d, .ptr 3 [], hitF] (hpS A m v l [(s : Int)]) K := by
  unfold slices_medianCmpFunc_api_Rec.K slices_medianCmpFunc_api_Rec.H
  simp only [hpS, List.map_cons, List.map_nil, joinW_eq, guard_tt, guard_tf, guard_ft, guard_ff, Int.reduceEq, Int.reduceLT, Int.reduceLE, decide_false, decide_true, Bool.not_false, Bool.not_true, Bool.not_not, not_true_eq_false, not_false_eq_true, true_implies, false_implies, implies_true, and_true, true_and, reduceCtorEq, Bool.and_self, Bool.or_self, Bool.and_true, Bool.true_and, Bool.false_eq_true, if_true, if_false, go_sem, Nat.reduceEqDiff, Nat.reduceLT, Nat.reduceAdd, Nat.reduceSub, Nat.reduceLeDiff, List.reduceReplicate, Int.reduceToNat]
  refine order2_K A m v l s n a b (by omega) hn ha hb hr _ fun a1 b1 s1 h1 h2 h3 h4 h5 => ?_
  simp only [hpS, List.map_cons, List.map_nil, joinW_eq, guard_tt, guard_tf, guard_ft, guard_ff, Int.reduceEq, Int.reduceLT, Int.reduceLE, decide_false, decide_true, Bool.not_false, Bool.not_true, Bool.not_not, not_true_eq_false, not_false_eq_true, true_implies, false_implies, implies_true, and_true, true_and, reduceCtorEq, Bool.and_self, Bool.or_self, Bool.and_true, Bool.true_and, Bool.false_eq_true, if_true, if_false, go_sem, Nat.reduceEqDiff, Nat.reduceLT, Nat.reduceAdd, Nat.reduceSub, Nat.reduceLeDiff, List.reduceReplicate, Int.reduceToNat]
  refine order2_K A m v l s1 n b1 d (by omega) hn h2 hd hr _ fun b2 d2 s2 g1 g2 g3 g4 g5 => ?_
  simp only [hpS, List.map_cons, List.map_nil, joinW_eq, guard_tt, guard_tf, guard_ft, guard_ff, Int.reduceEq, Int.reduceLT, Int.reduceLE, decide_false, decide_true, Bool.not_false, Bool.not_true, Bool.not_not, not_true_eq_false, not_false_eq_true, true_implies, false_implies, implies_true, and_true, true_and, reduceCtorEq, Bool.and_self, Bool.or_self, Bool.and_true, Bool.true_and, Bool.false_eq_true, if_true, if_false, go_sem, Nat.reduceEqDiff, Nat.reduceLT, Nat.reduceAdd, Nat.reduceSub, Nat.reduceLeDiff, List.reduceReplicate, Int.reduceToNat]
  refine order2_K A m v l s2 n a1 b2 (by omega) hn h1 g1 hr _ fun a3 b3 s3 k1 k2 k3 k4 k5 => ?_
  simp only [hpS, List.map_cons, List.map_nil, joinW_eq, guard_tt, guard_tf, guard_ft, guard_ff, Int.reduceEq, Int.reduceLT, Int.reduceLE, decide_false, decide_true, Bool.not_false, Bool.not_true, Bool.not_not, not_true_eq_false, not_false_eq_true, true_implies, false_implies, implies_true, and_true, true_and, reduceCtorEq, Bool.and_self, Bool.or_self, Bool.and_true, Bool.true_and, Bool.false_eq_true, if_true, if_false, go_sem, Nat.reduceEqDiff, Nat.reduceLT, Nat.reduceAdd, Nat.reduceSub, Nat.reduceLeDiff, List.reduceReplicate, Int.reduceToNat]
  exact hK b3 s3 (by omega) (by omega)
def slices_choosePivotCmpFunc_api_Rec.K : Con := fun args h K => match args with
  | [a0, a1, a2, a3] => slices_choosePivotCmpFunc_api_Rec.H (ctx [] [(141, slices_medianCmpFunc_api_Rec.K)] slices_choosePivotCmpFunc_api_Rec.loops) a0 a1 a2 a3 h K
  | _ => False
theorem slices_choosePivotCmpFunc_api_Rec.spec : SSpec Try.prog 117 slices_choosePivotCmpFunc_api_Rec.K := by
  refine SSpec.of (ctx_ok (F := []) (S := [(141, slices_medianCmpFunc_api_Rec.K)]) (by simp) (by simpa using slices_medianCmpFunc_api_Rec.spec) slices_choosePivotCmpFunc_api_Rec.loops) slices_choosePivotCmpFunc_api_Rec.at slices_choosePivotCmpFunc_api_Rec.nm slices_choosePivotCmpFunc_api_Rec.bd ?_
  intro args h K hC
  unfold slices_choosePivotCmpFunc_api_Rec.K at hC
  split at hC
  · rw [slices_choosePivotCmpFunc_api_Rec.eq]; exact hC
  · exact hC.elim
theorem choose_K (A : SkT) (m : Bytes → Bool) (v : Nat) (l : List RecT) (n a b : Nat) (hn : n = l.length) (hab : a < b) (hbn : b ≤ n) (h50 : b < a + 50) (hr : roomy n) (K : AOut → List AObj → Prop)
    (hK : ∀ (p : Nat) (e : Nat) (s : Int), a ≤ p → p < b → e ≤ 1 → K (.ret (.tup [.int .i64 p, .int .i64 e])) (hpS A m v l [s])) :
    slices_choosePivotCmpFunc_api_Rec.K [.sref false 2 v 0 n, .int .i64 a, .int .i64 b, hitF] (hpS A m v l []) K := by
  unfold slices_choosePivotCmpFunc_api_Rec.K slices_choosePivotCmpFunc_api_Rec.H
  simp only [hpS, List.map_cons, List.map_nil, joinW_eq, guard_tt, guard_tf, guard_ft, guard_ff, Int.reduceEq, Int.reduceLT, Int.reduceLE, decide_false, decide_true, Bool.not_false, Bool.not_true, Bool.not_not, not_true_eq_false, not_false_eq_true, true_implies, false_implies, implies_true, and_true, true_and, reduceCtorEq, Bool.and_self, Bool.or_self, Bool.and_true, Bool.true_and, Bool.false_eq_true, if_true, if_false, go_sem, Nat.reduceEqDiff, Nat.reduceLT, Nat.reduceAdd, Nat.reduceSub, Nat.reduceLeDiff, List.reduceReplicate, Int.reduceToNat]
  have hr' := hr
  unfold roomy at hr'
  have e0 : IntKind.i64.wrap ((b : Int) - a) = ((b - a : Nat) : Int) := by rw [w64 (by omega) (by omega)]; omega
  have e1 : ((b - a : Nat) : Int).tdiv 4 = (((b - a) / 4 : Nat) : Int) := by rw [Int.tdiv_eq_ediv_of_nonneg (by omega)]; omega
  obtain ⟨q, hq⟩ : ∃ q, (b - a) / 4 = q := ⟨_, rfl⟩
  have e2 : IntKind.i64.wrap (q : Int) = q := w64 (by omega) (by omega)
  have e3 : ∀ k : Nat, k ≤ 3 → IntKind.i64.wrap ((a : Int) + IntKind.i64.wrap ((q : Int) * k)) = ((a + q * k : Nat) : Int) := fun k hk => by
    have : q * k ≤ q * 3 := Nat.mul_le_mul_left q hk
    rw [w64 (n := (q : Int) * k) (by rw [← Int.natCast_mul]; omega) (by rw [← Int.natCast_mul]; omega), ← Int.natCast_mul, w64 (by omega) (by omega)]; omega
  have e31 := e3 1 (by decide)
  have e32 := e3 2 (by decide)
  have e33 := e3 3 (by decide)
  simp only [Int.natCast_one, Int.cast_ofNat_Int] at e31 e32 e33
  rw [e0, e1, hq, e2, e31, e32, e33]
  refine ⟨fun h8 => ⟨fun h => absurd h (by omega), fun _ => ?_⟩, fun h8 => ?_⟩
  · refine median_K A m v l 0 n _ _ _ (by decide) hn (by omega) (by omega) (by omega) hr _ fun p s hp hs => ?_
    simp only [hpS, List.map_cons, List.map_nil, joinW_eq, guard_tt, guard_tf, guard_ft, guard_ff, Int.reduceEq, Int.reduceLT, Int.reduceLE, decide_false, decide_true, Bool.not_false, Bool.not_true, Bool.not_not, not_true_eq_false, not_false_eq_true, true_implies, false_implies, implies_true, and_true, true_and, reduceCtorEq, Bool.and_self, Bool.or_self, Bool.and_true, Bool.true_and, Bool.false_eq_true, if_true, if_false, go_sem, Nat.reduceEqDiff, Nat.reduceLT, Nat.reduceAdd, Nat.reduceSub, Nat.reduceLeDiff, List.reduceReplicate, Int.reduceToNat]
    refine ⟨fun h => hK p 1 s (by omega) (by omega) (by decide), fun h => ⟨fun h2 => absurd h2 (by omega), fun _ => hK p 0 s (by omega) (by omega) (by decide)⟩⟩
  · exact hK (a + q * 2) 1 0 (by omega) (by omega) (by decide)
def slices_insertionSortCmpFunc_api_Rec.K : Con := fun args h K => match args with
  | [a0, a1, a2, a3] => slices_insertionSortCmpFunc_api_Rec.H (ctx [(68, seek_Hits_1.C)] [] slices_insertionSortCmpFunc_api_Rec.loops) a0 a1 a2 a3 h K
  | _ => False
theorem slices_insertionSortCmpFunc_api_Rec.spec : SSpec Try.prog 114 slices_insertionSortCmpFunc_api_Rec.K := by
  refine SSpec.of (ctx_ok (F := [(68, seek_Hits_1.C)]) (S := []) (by simpa using seek_Hits_1.spec) (by simp) slices_insertionSortCmpFunc_api_Rec.loops) slices_insertionSortCmpFunc_api_Rec.at slices_insertionSortCmpFunc_api_Rec.nm slices_insertionSortCmpFunc_api_Rec.bd ?_
  intro args h K hC
  unfold slices_insertionSortCmpFunc_api_Rec.K at hC
  split at hC
  · rw [slices_insertionSortCmpFunc_api_Rec.eq]; exact hC
  · exact hC.elim
theorem ins_K (A : SkT) (m : Bytes → Bool) (v : Nat) (l : List RecT) (tl : List Int) (n a b : Nat) (hn : n = l.length) (hab : a ≤ b) (hbn : b ≤ n) (hr : roomy n) (K : AOut → List AObj → Prop)
    (hK : ∀ l', SegP a b l l' → SegS a b l' → K (.ret (.tup [])) (hpS A m v l' tl)) :
    slices_insertionSortCmpFunc_api_Rec.K [.sref false 2 v 0 n, .int .i64 a, .int .i64 b, hitF] (hpS A m v l tl) K := by
  have hr' := hr
  unfold roomy at hr'
  obtain ⟨T, hT, hTn⟩ : ∃ T, tl.map (fun n => AObj.box (.int .i64 n)) = T ∧ ∀ k h, T.map (normO k h) = T := ⟨_, rfl, fun k h => by
    rw [List.map_map]; exact List.map_congr_left fun _ _ => rfl⟩
  have h2 : 2 < T.length + 1 + 1 + 1 := by omega
  unfold slices_insertionSortCmpFunc_api_Rec.K slices_insertionSortCmpFunc_api_Rec.H
  simp only [hpS, hT, hTn, SkT.norm, h2, joinW_eq, guard_tt, guard_tf, guard_ft, guard_ff, Int.reduceEq, Int.reduceLT, Int.reduceLE, decide_false, decide_true, Bool.not_false, Bool.not_true, Bool.not_not, not_true_eq_false, not_false_eq_true, true_implies, false_implies, implies_true, and_true, true_and, reduceCtorEq, Bool.and_self, Bool.or_self, Bool.and_true, Bool.true_and, Bool.false_eq_true, if_true, if_false, go_sem, Nat.reduceEqDiff, Nat.reduceLT, Nat.reduceAdd, Nat.reduceSub, Nat.reduceLeDiff, List.reduceReplicate, Int.reduceToNat] at hK ⊢
  rw [wnext (by omega)]
  unfold slices_insertionSortCmpFunc_api_Rec.L1
  refine loop1 (σ := List RecT × Nat) (fun s => .int .i64 s.2) (fun s => .box A.V :: .map (.sb m) :: .row .own v (.recs s.1) :: T) (fun s => n + 1 - s.2) (fun s => a + 1 ≤ s.2 ∧ (s.2 ≤ b ∨ s.2 = a + 1) ∧ SegP a b l s.1 ∧ SegS a s.2 s.1) (l, a + 1) rfl rfl ⟨by simp, by simp, SegP.refl, SegS.one (by simp)⟩ ?_
  rintro I back ⟨l1, i⟩ ⟨hi1, hi2, hp, hs⟩
  simp only at hi1 hi2 hp hs ⊢
  have hl1 := hp.len
  simp only [hTn, SkT.norm, h2, joinW_eq, joinW_eq, guard_tt, guard_tf, guard_ft, guard_ff, Int.reduceEq, Int.reduceLT, Int.reduceLE, decide_false, decide_true, Bool.not_false, Bool.not_true, Bool.not_not, not_true_eq_false, not_false_eq_true, true_implies, false_implies, implies_true, and_true, true_and, reduceCtorEq, Bool.and_self, Bool.or_self, Bool.and_true, Bool.true_and, Bool.false_eq_true, if_true, if_false, go_sem, Nat.reduceEqDiff, Nat.reduceLT, Nat.reduceAdd, Nat.reduceSub, Nat.reduceLeDiff, List.reduceReplicate, Int.reduceToNat]
  refine ⟨fun hlt => ?_, fun hge => hK l1 hp fun p q h1 h2 h3 => hs p q h1 h2 (by omega)⟩
  unfold slices_insertionSortCmpFunc_api_Rec.L2
  refine loop1 (σ := List RecT × Nat) (fun s => .int .i64 s.2) (fun s => .box A.V :: .map (.sb m) :: .row .own v (.recs s.1) :: T) (fun s => s.2) (fun s => a ≤ s.2 ∧ s.2 ≤ i ∧ SegP a b l s.1 ∧ InsS a s.2 (i + 1) s.1) (l1, i) rfl rfl ⟨by simp only; omega, by simp, hp, InsS.begin hs⟩ ?_
  rintro I2 back2 ⟨l2, j⟩ ⟨hj1, hj2, hp2, hs2⟩
  simp only at hj1 hj2 hp2 hs2 ⊢
  have hl2 := hp2.len
  have hnx : SegS a (i + 1) l2 → ∃ m1, m1 < n + 1 - i ∧ I m1 [.int .i64 (IntKind.i64.wrap ((i : Int) + 1))] (.box A.V :: .map (.sb m) :: .row .own v (.recs l2) :: T) := fun h => back (l2, i + 1) (by simp only; omega) (by simp only; rw [wnext (by omega)]) rfl ⟨by simp only; omega, .inl (by simp only; omega), hp2, h⟩
  by_cases hja : a < j
  · have e1 : IntKind.i64.wrap ((j : Int) - 1) = ((j - 1 : Nat) : Int) := by rw [w64 (by omega) (by omega)]; omega
    have d1 : decide ((a : Int) < (j : Int)) = true := decide_eq_true (by omega)
    simp only [hTn, SkT.norm, h2, joinW_eq, d1, e1, Int.toNat_natCast, seek_Hits_1.C, d0_def, kyL_def, cmpI_neg, rec_eta, swapL_def, List.length_set, joinW_eq, guard_tt, guard_tf, guard_ft, guard_ff, Int.reduceEq, Int.reduceLT, Int.reduceLE, decide_false, decide_true, Bool.not_false, Bool.not_true, Bool.not_not, not_true_eq_false, not_false_eq_true, true_implies, false_implies, implies_true, and_true, true_and, reduceCtorEq, Bool.and_self, Bool.or_self, Bool.and_true, Bool.true_and, Bool.false_eq_true, if_true, if_false, go_sem, Nat.reduceEqDiff, Nat.reduceLT, Nat.reduceAdd, Nat.reduceSub, Nat.reduceLeDiff, List.reduceReplicate, Int.reduceToNat]
    refine ⟨⟨by omega, by omega⟩, by omega, ⟨by omega, by omega⟩, by omega, fun h => ⟨⟨by omega, by omega⟩, by omega, ⟨by omega, by omega⟩, by omega, ⟨by omega, by omega⟩, by omega, ⟨by omega, by omega⟩, by omega, back2 (swapL l2 j (j - 1), j - 1) (by simp only; omega) rfl rfl ⟨by simp only; omega, by simp only; omega, hp2.trans (SegP.swap (by omega) (by omega) (by omega) (by omega) (by omega)), hs2.step hja (by omega) (by omega) h⟩⟩, fun h => hnx (hs2.done hj1 (by omega) (.inr (by unfold leB; simpa using h)))⟩
  · obtain rfl : j = a := by omega
    have d1 : decide ((j : Int) < (j : Int)) = false := decide_eq_false (by omega)
    simp only [hTn, SkT.norm, h2, joinW_eq, d1, joinW_eq, guard_tt, guard_tf, guard_ft, guard_ff, Int.reduceEq, Int.reduceLT, Int.reduceLE, decide_false, decide_true, Bool.not_false, Bool.not_true, Bool.not_not, not_true_eq_false, not_false_eq_true, true_implies, false_implies, implies_true, and_true, true_and, reduceCtorEq, Bool.and_self, Bool.or_self, Bool.and_true, Bool.true_and, Bool.false_eq_true, if_true, if_false, go_sem, Nat.reduceEqDiff, Nat.reduceLT, Nat.reduceAdd, Nat.reduceSub, Nat.reduceLeDiff, List.reduceReplicate, Int.reduceToNat]
    exact hnx (hs2.done (Nat.le_refl _) (by omega) (.inl rfl))
def slices_partialInsertionSortCmpFunc_api_Rec.K : Con := fun args h K => match args with
  | [a0, a1, a2, a3] => slices_partialInsertionSortCmpFunc_api_Rec.H (ctx [(68, seek_Hits_1.C)] [] slices_partialInsertionSortCmpFunc_api_Rec.loops) a0 a1 a2 a3 h K
  | _ => False
theorem slices_partialInsertionSortCmpFunc_api_Rec.spec : SSpec Try.prog 119 slices_partialInsertionSortCmpFunc_api_Rec.K := by
  refine SSpec.of (ctx_ok (F := [(68, seek_Hits_1.C)]) (S := []) (by simpa using seek_Hits_1.spec) (by simp) slices_partialInsertionSortCmpFunc_api_Rec.loops) slices_partialInsertionSortCmpFunc_api_Rec.at slices_partialInsertionSortCmpFunc_api_Rec.nm slices_partialInsertionSortCmpFunc_api_Rec.bd ?_
  intro args h K hC
  unfold slices_partialInsertionSortCmpFunc_api_Rec.K at hC
  split at hC
  · rw [slices_partialInsertionSortCmpFunc_api_Rec.eq]; exact hC
  · exact hC.elim
theorem part_K (A : SkT) (m : Bytes → Bool) (v : Nat) (l : List RecT) (tl : List Int) (n a b : Nat) (hn : n = l.length) (hab : a < b) (hbn : b ≤ n) (h50 : b < a + 50) (hr : roomy n) (K : AOut → List AObj → Prop)
    (hK1 : SegS a b l → K (.ret (.bool true)) (hpS A m v l tl)) (hK2 : K (.ret (.bool false)) (hpS A m v l tl)) :
    slices_partialInsertionSortCmpFunc_api_Rec.K [.sref false 2 v 0 n, .int .i64 a, .int .i64 b, hitF] (hpS A m v l tl) K := by
  have hr' := hr
  unfold roomy at hr'
  obtain ⟨T, hT, hTn⟩ : ∃ T, tl.map (fun n => AObj.box (.int .i64 n)) = T ∧ ∀ k h, T.map (normO k h) = T := ⟨_, rfl, fun k h => by
    rw [List.map_map]; exact List.map_congr_left fun _ _ => rfl⟩
  have h2 : 2 < T.length + 1 + 1 + 1 := by omega
  unfold slices_partialInsertionSortCmpFunc_api_Rec.K slices_partialInsertionSortCmpFunc_api_Rec.H
  simp only [hpS, hT, hTn, SkT.norm, h2, joinW_eq, guard_tt, guard_tf, guard_ft, guard_ff, Int.reduceEq, Int.reduceLT, Int.reduceLE, decide_false, decide_true, Bool.not_false, Bool.not_true, Bool.not_not, not_true_eq_false, not_false_eq_true, true_implies, false_implies, implies_true, and_true, true_and, reduceCtorEq, Bool.and_self, Bool.or_self, Bool.and_true, Bool.true_and, Bool.false_eq_true, if_true, if_false, go_sem, Nat.reduceEqDiff, Nat.reduceLT, Nat.reduceAdd, Nat.reduceSub, Nat.reduceLeDiff, List.reduceReplicate, Int.reduceToNat] at hK1 hK2 ⊢
  rw [wnext (by omega)]
  unfold slices_partialInsertionSortCmpFunc_api_Rec.L1
  refine loop2 (σ := Unit) (fun s => .int .i64 (a + 1 : Nat)) (fun s => .int .i64 0) (fun s => .box A.V :: .map (.sb m) :: .row .own v (.recs l) :: T) (fun s => 0) (fun s => True) () rfl rfl trivial ?_
  rintro I back _ _
  simp only [hTn, SkT.norm, h2, joinW_eq, joinW_eq, guard_tt, guard_tf, guard_ft, guard_ff, Int.reduceEq, Int.reduceLT, Int.reduceLE, decide_false, decide_true, Bool.not_false, Bool.not_true, Bool.not_not, not_true_eq_false, not_false_eq_true, true_implies, false_implies, implies_true, and_true, true_and, reduceCtorEq, Bool.and_self, Bool.or_self, Bool.and_true, Bool.true_and, Bool.false_eq_true, if_true, if_false, go_sem, Nat.reduceEqDiff, Nat.reduceLT, Nat.reduceAdd, Nat.reduceSub, Nat.reduceLeDiff, List.reduceReplicate, Int.reduceToNat]
  unfold slices_partialInsertionSortCmpFunc_api_Rec.L2
  refine loop1 (σ := Nat) (fun i => .int .i64 i) (fun s => .box A.V :: .map (.sb m) :: .row .own v (.recs l) :: T) (fun i => b - i) (fun i => a + 1 ≤ i ∧ i ≤ b ∧ SegS a i l) (a + 1) rfl rfl ⟨by omega, by omega, SegS.one (by omega)⟩ ?_
  rintro I2 back2 i ⟨hi1, hi2, hs⟩
  have e1 : IntKind.i64.wrap ((i : Int) - 1) = ((i - 1 : Nat) : Int) := by rw [w64 (by omega) (by omega)]; omega
  have e2 : IntKind.i64.wrap ((b : Int) - a) = ((b - a : Nat) : Int) := by rw [w64 (by omega) (by omega)]; omega
  by_cases hib : i < b
  · have d1 : decide ((i : Int) < (b : Int)) = true := decide_eq_true (by omega)
    simp only [hTn, SkT.norm, h2, joinW_eq, d1, e1, e2, Int.toNat_natCast, seek_Hits_1.C, d0_def, kyL_def, cmpI_neg, rec_eta, swapL_def, List.length_set, joinW_eq, guard_tt, guard_tf, guard_ft, guard_ff, Int.reduceEq, Int.reduceLT, Int.reduceLE, decide_false, decide_true, Bool.not_false, Bool.not_true, Bool.not_not, not_true_eq_false, not_false_eq_true, true_implies, false_implies, implies_true, and_true, true_and, reduceCtorEq, Bool.and_self, Bool.or_self, Bool.and_true, Bool.true_and, Bool.false_eq_true, if_true, if_false, go_sem, Nat.reduceEqDiff, Nat.reduceLT, Nat.reduceAdd, Nat.reduceSub, Nat.reduceLeDiff, List.reduceReplicate, Int.reduceToNat]
    refine ⟨⟨by omega, by omega⟩, by omega, ⟨by omega, by omega⟩, by omega, ?_⟩
    cases hlt : ltB (kyL l i) (kyL l (i - 1)) with
    | false =>
      simp only [joinW_eq, guard_tt, guard_tf, guard_ft, guard_ff, Int.reduceEq, Int.reduceLT, Int.reduceLE, decide_false, decide_true, Bool.not_false, Bool.not_true, Bool.not_not, not_true_eq_false, not_false_eq_true, true_implies, false_implies, implies_true, and_true, true_and, reduceCtorEq, Bool.and_self, Bool.or_self, Bool.and_true, Bool.true_and, Bool.false_eq_true, if_true, if_false, go_sem, Nat.reduceEqDiff, Nat.reduceLT, Nat.reduceAdd, Nat.reduceSub, Nat.reduceLeDiff, List.reduceReplicate, Int.reduceToNat]
      refine back2 (i + 1) (by omega) (by rw [wnext (by omega)]) rfl ⟨by omega, by omega, ?_⟩
      intro p q h1 h2 h3
      by_cases hq : q = i
      · subst hq
        by_cases hp : p = q - 1
        · subst hp; exact hlt
        · exact leB_trans (hs p (q - 1) h1 (by omega) (by omega)) hlt
      · exact hs p q h1 h2 (by omega)
    | true =>
      simp only [joinW_eq, guard_tt, guard_tf, guard_ft, guard_ff, Int.reduceEq, Int.reduceLT, Int.reduceLE, decide_false, decide_true, Bool.not_false, Bool.not_true, Bool.not_not, not_true_eq_false, not_false_eq_true, true_implies, false_implies, implies_true, and_true, true_and, reduceCtorEq, Bool.and_self, Bool.or_self, Bool.and_true, Bool.true_and, Bool.false_eq_true, if_true, if_false, go_sem, Nat.reduceEqDiff, Nat.reduceLT, Nat.reduceAdd, Nat.reduceSub, Nat.reduceLeDiff, List.reduceReplicate, Int.reduceToNat]
      exact ⟨fun h => absurd h (by omega), fun _ => ⟨fun _ => hK2, fun h => absurd h (by omega)⟩⟩
  · obtain rfl : i = b := by omega
    have d1 : decide ((i : Int) < (i : Int)) = false := decide_eq_false (by omega)
    simp only [hTn, SkT.norm, h2, joinW_eq, d1, decide_true, joinW_eq, guard_tt, guard_tf, guard_ft, guard_ff, Int.reduceEq, Int.reduceLT, Int.reduceLE, decide_false, decide_true, Bool.not_false, Bool.not_true, Bool.not_not, not_true_eq_false, not_false_eq_true, true_implies, false_implies, implies_true, and_true, true_and, reduceCtorEq, Bool.and_self, Bool.or_self, Bool.and_true, Bool.true_and, Bool.false_eq_true, if_true, if_false, go_sem, Nat.reduceEqDiff, Nat.reduceLT, Nat.reduceAdd, Nat.reduceSub, Nat.reduceLeDiff, List.reduceReplicate, Int.reduceToNat]
    exact hK1 hs
def slices_partitionCmpFunc_api_Rec.K : Con := fun args h K => match args with
  | [a0, a1, a2, a3, a4] => slices_partitionCmpFunc_api_Rec.H (ctx [(68, seek_Hits_1.C)] [] slices_partitionCmpFunc_api_Rec.loops) a0 a1 a2 a3 a4 h K
  | _ => False
theorem slices_partitionCmpFunc_api_Rec.spec : SSpec Try.prog 121 slices_partitionCmpFunc_api_Rec.K := by
  refine SSpec.of (ctx_ok (F := [(68, seek_Hits_1.C)]) (S := []) (by simpa using seek_Hits_1.spec) (by simp) slices_partitionCmpFunc_api_Rec.loops) slices_partitionCmpFunc_api_Rec.at slices_partitionCmpFunc_api_Rec.nm slices_partitionCmpFunc_api_Rec.bd ?_
  intro args h K hC
  unfold slices_partitionCmpFunc_api_Rec.K at hC
  split at hC
  · rw [slices_partitionCmpFunc_api_Rec.eq]; exact hC
  · exact hC.elim
/-- how far a partition has come -/
def PartS (a b i j : Nat) (l : List RecT) : Prop := a + 1 ≤ i ∧ i ≤ j + 1 ∧ j < b ∧ a ≤ j ∧ (∀ k, a < k → k < i → leB (kyL l k) (kyL l a)) ∧ ∀ k, j < k → k < b → leB (kyL l a) (kyL l k)
theorem PartS.swap {a b i j : Nat} {l : List RecT} (h : PartS a b i j l) (hij : i < j) (hb : b ≤ l.length) (h1 : leB (kyL l a) (kyL l i)) (h2 : leB (kyL l j) (kyL l a)) : PartS a b (i + 1) (j - 1) (swapL l i j) := by
  obtain ⟨q1, q2, q3, q4, q5, q6⟩ := h
  have hil : i < l.length := by omega
  have hjl : j < l.length := by omega
  have ea : kyL (swapL l i j) a = kyL l a := by rw [kyL_swap hil hjl, if_neg (by omega), if_neg (by omega)]
  refine ⟨by omega, by omega, by omega, by omega, fun k k1 k2 => ?_, fun k k1 k2 => ?_⟩
  · rw [ea, kyL_swap hil hjl, if_neg (by omega)]
    by_cases e : k = i
    · rw [if_pos e]; exact h2
    · rw [if_neg e]; exact q5 k k1 (by omega)
  · rw [ea, kyL_swap hil hjl]
    by_cases e : k = j
    · rw [if_pos e]; exact h1
    · rw [if_neg e, if_neg (by omega)]; exact q6 k (by omega) k2
theorem PartS.fin {a b i j : Nat} {l : List RecT} (h : PartS a b i j l) (hij : j < i) (hb : b ≤ l.length) : Parted a j b (swapL l a j) := by
  obtain ⟨q1, q2, q3, q4, q5, q6⟩ := h
  have hal : a < l.length := by omega
  have hjl : j < l.length := by omega
  have ej : kyL (swapL l a j) j = kyL l a := by rw [kyL_swap hal hjl, if_pos rfl]
  refine ⟨fun k k1 k2 => ?_, fun k k1 k2 => ?_⟩
  · rw [ej, kyL_swap hal hjl, if_neg (by omega)]
    by_cases e : k = a
    · rw [if_pos e]; exact q5 j (by omega) (by omega)
    · rw [if_neg e]; exact q5 k (by omega) (by omega)
  · rw [ej, kyL_swap hal hjl, if_neg (by omega), if_neg (by omega)]; exact q6 k k1 k2
theorem swapL_comm {l : List RecT} {i j : Nat} (hi : i < l.length) (hj : j < l.length) : swapL l i j = swapL l j i := by
  refine List.ext_getElem? fun k => ?_
  have h : ∀ k, (swapL l i j).getD k d0 = (swapL l j i).getD k d0 := fun k => by
    rw [swapL_get hi hj, swapL_get hj hi]
    by_cases e1 : k = j
    · by_cases e2 : k = i
      · rw [if_pos e1, if_pos e2, ← e1, ← e2]
      · rw [if_pos e1, if_neg e2, if_pos e1]
    · rw [if_neg e1, if_neg e1]
  rcases Nat.lt_or_ge k l.length with hk | hk
  · have := h k
    rw [List.getD_eq_getElem?_getD, List.getD_eq_getElem?_getD, List.getElem?_eq_getElem (by rw [swapL_len]; exact hk), List.getElem?_eq_getElem (by rw [swapL_len]; exact hk)] at this
    rw [List.getElem?_eq_getElem (by rw [swapL_len]; exact hk), List.getElem?_eq_getElem (by rw [swapL_len]; exact hk)]
    exact congrArg some this
  · rw [List.getElem?_eq_none (by rw [swapL_len]; exact hk), List.getElem?_eq_none (by rw [swapL_len]; exact hk)]
theorem partition_L4 : slices_partitionCmpFunc_api_Rec.L4 = slices_partitionCmpFunc_api_Rec.L1 := rfl
theorem partition_L5 : slices_partitionCmpFunc_api_Rec.L5 = slices_partitionCmpFunc_api_Rec.L2 := rfl
theorem partition_up (c : Ctx) (hd : c.drawn = false) (hf : c.envF 68 = seek_Hits_1.C) (A : SkT) (m : Bytes → Bool) (v : Nat) (l : List RecT) (T : List AObj) (n a j i0 : Nat) (hTn : ∀ k h, T.map (normO k h) = T) (hn : n = l.length) (ha : a < i0) (hj : j < n) (hij : i0 ≤ j + 1) (hr : roomy n)
    (J : AV → AV → AV → AV → AV → List AObj → Prop) (K : AOut → List AObj → Prop)
    (hJ : ∀ i : Nat, i0 ≤ i → i ≤ j + 1 → (∀ k, i0 ≤ k → k < i → leB (kyL l k) (kyL l a)) → (i ≤ j → leB (kyL l a) (kyL l i)) → J (.sref false 2 v 0 n) (.int .i64 a) hitF (.int .i64 i) (.int .i64 j) (.box A.V :: .map (.sb m) :: .row .own v (.recs l) :: T)) :
    slices_partitionCmpFunc_api_Rec.L1 c J K [.int .i64 i0] (.box A.V :: .map (.sb m) :: .row .own v (.recs l) :: T) (T.length + 1 + 1 + 1) (.sref false 2 v 0 n) (.int .i64 a) hitF (.int .i64 j) := by
  have hr' := hr
  unfold roomy at hr'
  have h2 : 2 < T.length + 1 + 1 + 1 := by omega
  unfold slices_partitionCmpFunc_api_Rec.L1
  refine loop1 (σ := Nat) (fun i => .int .i64 i) (fun s => .box A.V :: .map (.sb m) :: .row .own v (.recs l) :: T) (fun i => j + 1 - i) (fun i => i0 ≤ i ∧ i ≤ j + 1 ∧ ∀ k, i0 ≤ k → k < i → leB (kyL l k) (kyL l a)) i0 rfl rfl ⟨Nat.le_refl _, hij, fun k h1 h2 => by omega⟩ ?_
  rintro I back i ⟨hi1, hi2, hall⟩
  by_cases hle : i ≤ j
  · have d1 : decide ((i : Int) ≤ (j : Int)) = true := decide_eq_true (by omega)
    simp only [hTn, SkT.norm, h2, joinW_eq, d1, hd, hf, Int.toNat_natCast, seek_Hits_1.C, d0_def, kyL_def, cmpI_neg, joinW_eq, guard_tt, guard_tf, guard_ft, guard_ff, Int.reduceEq, Int.reduceLT, Int.reduceLE, decide_false, decide_true, Bool.not_false, Bool.not_true, Bool.not_not, not_true_eq_false, not_false_eq_true, true_implies, false_implies, implies_true, and_true, true_and, reduceCtorEq, Bool.and_self, Bool.or_self, Bool.and_true, Bool.true_and, Bool.false_eq_true, if_true, if_false, go_sem, Nat.reduceEqDiff, Nat.reduceLT, Nat.reduceAdd, Nat.reduceSub, Nat.reduceLeDiff, List.reduceReplicate, Int.reduceToNat]
    refine ⟨⟨by omega, by omega⟩, by omega, ⟨by omega, by omega⟩, by omega, fun h => ?_, fun h => hJ i hi1 hi2 hall fun _ => by unfold leB; simpa using h⟩
    refine back (i + 1) (by omega) (by rw [wnext (by omega)]) rfl ⟨by omega, by omega, fun k k1 k2 => ?_⟩
    by_cases e : k = i
    · subst e; exact leB_of_lt h
    · exact hall k k1 (by omega)
  · have d1 : decide ((i : Int) ≤ (j : Int)) = false := decide_eq_false (by omega)
    simp only [hTn, SkT.norm, h2, joinW_eq, d1, joinW_eq, guard_tt, guard_tf, guard_ft, guard_ff, Int.reduceEq, Int.reduceLT, Int.reduceLE, decide_false, decide_true, Bool.not_false, Bool.not_true, Bool.not_not, not_true_eq_false, not_false_eq_true, true_implies, false_implies, implies_true, and_true, true_and, reduceCtorEq, Bool.and_self, Bool.or_self, Bool.and_true, Bool.true_and, Bool.false_eq_true, if_true, if_false, go_sem, Nat.reduceEqDiff, Nat.reduceLT, Nat.reduceAdd, Nat.reduceSub, Nat.reduceLeDiff, List.reduceReplicate, Int.reduceToNat]
    exact hJ i hi1 hi2 hall fun h => absurd h hle
theorem partition_down (c : Ctx) (hd : c.drawn = false) (hf : c.envF 68 = seek_Hits_1.C) (A : SkT) (m : Bytes → Bool) (v : Nat) (l : List RecT) (T : List AObj) (n a i j0 : Nat) (hTn : ∀ k h, T.map (normO k h) = T) (hn : n = l.length) (ha : a < i) (hj : j0 < n) (hij : i ≤ j0 + 1) (hr : roomy n)
    (J : AV → AV → AV → AV → AV → List AObj → Prop) (K : AOut → List AObj → Prop)
    (hJ : ∀ j : Nat, j ≤ j0 → i ≤ j + 1 → (∀ k, j < k → k ≤ j0 → leB (kyL l a) (kyL l k)) → (i ≤ j → ltB (kyL l j) (kyL l a) = true) → J (.sref false 2 v 0 n) (.int .i64 a) hitF (.int .i64 i) (.int .i64 j) (.box A.V :: .map (.sb m) :: .row .own v (.recs l) :: T)) :
    slices_partitionCmpFunc_api_Rec.L2 c J K [.int .i64 j0] (.box A.V :: .map (.sb m) :: .row .own v (.recs l) :: T) (T.length + 1 + 1 + 1) (.sref false 2 v 0 n) (.int .i64 a) hitF (.int .i64 i) := by
  have hr' := hr
  unfold roomy at hr'
  have h2 : 2 < T.length + 1 + 1 + 1 := by omega
  unfold slices_partitionCmpFunc_api_Rec.L2
  refine loop1 (σ := Nat) (fun i => .int .i64 i) (fun s => .box A.V :: .map (.sb m) :: .row .own v (.recs l) :: T) (fun j => j) (fun j => j ≤ j0 ∧ i ≤ j + 1 ∧ ∀ k, j < k → k ≤ j0 → leB (kyL l a) (kyL l k)) j0 rfl rfl ⟨Nat.le_refl _, hij, fun k h1 h2 => by omega⟩ ?_
  rintro I back j ⟨hj1, hj2, hall⟩
  by_cases hle : i ≤ j
  · have d1 : decide ((i : Int) ≤ (j : Int)) = true := decide_eq_true (by omega)
    have e1 : IntKind.i64.wrap ((j : Int) - 1) = ((j - 1 : Nat) : Int) := by rw [w64 (by omega) (by omega)]; omega
    simp only [hTn, SkT.norm, h2, joinW_eq, d1, e1, hd, hf, Int.toNat_natCast, seek_Hits_1.C, d0_def, kyL_def, cmpI_neg, joinW_eq, guard_tt, guard_tf, guard_ft, guard_ff, Int.reduceEq, Int.reduceLT, Int.reduceLE, decide_false, decide_true, Bool.not_false, Bool.not_true, Bool.not_not, not_true_eq_false, not_false_eq_true, true_implies, false_implies, implies_true, and_true, true_and, reduceCtorEq, Bool.and_self, Bool.or_self, Bool.and_true, Bool.true_and, Bool.false_eq_true, if_true, if_false, go_sem, Nat.reduceEqDiff, Nat.reduceLT, Nat.reduceAdd, Nat.reduceSub, Nat.reduceLeDiff, List.reduceReplicate, Int.reduceToNat]
    refine ⟨⟨by omega, by omega⟩, by omega, ⟨by omega, by omega⟩, by omega, ?_⟩
    cases hlt : ltB (kyL l j) (kyL l a) with
    | false =>
      simp only [joinW_eq, guard_tt, guard_tf, guard_ft, guard_ff, Int.reduceEq, Int.reduceLT, Int.reduceLE, decide_false, decide_true, Bool.not_false, Bool.not_true, Bool.not_not, not_true_eq_false, not_false_eq_true, true_implies, false_implies, implies_true, and_true, true_and, reduceCtorEq, Bool.and_self, Bool.or_self, Bool.and_true, Bool.true_and, Bool.false_eq_true, if_true, if_false, go_sem, Nat.reduceEqDiff, Nat.reduceLT, Nat.reduceAdd, Nat.reduceSub, Nat.reduceLeDiff, List.reduceReplicate, Int.reduceToNat]
      refine back (j - 1) (by omega) rfl rfl ⟨by omega, by omega, fun k k1 k2 => ?_⟩
      by_cases e : k = j
      · subst e; exact hlt
      · exact hall k (by omega) k2
    | true =>
      simp only [joinW_eq, guard_tt, guard_tf, guard_ft, guard_ff, Int.reduceEq, Int.reduceLT, Int.reduceLE, decide_false, decide_true, Bool.not_false, Bool.not_true, Bool.not_not, not_true_eq_false, not_false_eq_true, true_implies, false_implies, implies_true, and_true, true_and, reduceCtorEq, Bool.and_self, Bool.or_self, Bool.and_true, Bool.true_and, Bool.false_eq_true, if_true, if_false, go_sem, Nat.reduceEqDiff, Nat.reduceLT, Nat.reduceAdd, Nat.reduceSub, Nat.reduceLeDiff, List.reduceReplicate, Int.reduceToNat]
      exact hJ j hj1 hj2 hall fun _ => hlt
  · have d1 : decide ((i : Int) ≤ (j : Int)) = false := decide_eq_false (by omega)
    simp only [hTn, SkT.norm, h2, joinW_eq, d1, joinW_eq, guard_tt, guard_tf, guard_ft, guard_ff, Int.reduceEq, Int.reduceLT, Int.reduceLE, decide_false, decide_true, Bool.not_false, Bool.not_true, Bool.not_not, not_true_eq_false, not_false_eq_true, true_implies, false_implies, implies_true, and_true, true_and, reduceCtorEq, Bool.and_self, Bool.or_self, Bool.and_true, Bool.true_and, Bool.false_eq_true, if_true, if_false, go_sem, Nat.reduceEqDiff, Nat.reduceLT, Nat.reduceAdd, Nat.reduceSub, Nat.reduceLeDiff, List.reduceReplicate, Int.reduceToNat]
    exact hJ j hj1 hj2 hall fun h => absurd h hle
theorem partition_K (A : SkT) (m : Bytes → Bool) (v : Nat) (l : List RecT) (tl : List Int) (n a b p : Nat) (hn : n = l.length) (hab : a + 1 < b) (hbn : b ≤ n) (hp : a ≤ p) (hpb : p < b) (hr : roomy n) (K : AOut → List AObj → Prop)
    (hK : ∀ l' q al, SegP a b l l' → a ≤ q → q < b → Parted a q b l' → K (.ret (.tup [.int .i64 q, .bool al])) (hpS A m v l' tl)) :
    slices_partitionCmpFunc_api_Rec.K [.sref false 2 v 0 n, .int .i64 a, .int .i64 b, .int .i64 p, hitF] (hpS A m v l tl) K := by
  have hr' := hr
  unfold roomy at hr'
  obtain ⟨T, hT, hTn⟩ : ∃ T, tl.map (fun n => AObj.box (.int .i64 n)) = T ∧ ∀ k h, T.map (normO k h) = T := ⟨_, rfl, fun k h => by
    rw [List.map_map]; exact List.map_congr_left fun _ _ => rfl⟩
  have h2 : 2 < T.length + 1 + 1 + 1 := by omega
  have e1 : IntKind.i64.wrap ((b : Int) - 1) = ((b - 1 : Nat) : Int) := by rw [w64 (by omega) (by omega)]; omega
  unfold slices_partitionCmpFunc_api_Rec.K slices_partitionCmpFunc_api_Rec.H
  simp only [hpS, hT, hTn, SkT.norm, h2, e1, wnext (show a < 4611686018427387904 by omega), joinW_eq, Int.toNat_natCast, d0_def, kyL_def, rec_eta, swapL_def, List.length_set, joinW_eq, guard_tt, guard_tf, guard_ft, guard_ff, Int.reduceEq, Int.reduceLT, Int.reduceLE, decide_false, decide_true, Bool.not_false, Bool.not_true, Bool.not_not, not_true_eq_false, not_false_eq_true, true_implies, false_implies, implies_true, and_true, true_and, reduceCtorEq, Bool.and_self, Bool.or_self, Bool.and_true, Bool.true_and, Bool.false_eq_true, if_true, if_false, go_sem, Nat.reduceEqDiff, Nat.reduceLT, Nat.reduceAdd, Nat.reduceSub, Nat.reduceLeDiff, List.reduceReplicate, Int.reduceToNat] at hK ⊢
  refine ⟨⟨by omega, by omega⟩, by omega, ⟨by omega, by omega⟩, by omega, ⟨by omega, by omega⟩, by omega, ⟨by omega, by omega⟩, by omega, ?_⟩
  have hp1 : SegP a b l (swapL l a p) := SegP.swap (by omega) (by omega) (by omega) (by omega) (by omega)
  generalize swapL l a p = l1 at *
  have hl1 := hp1.len
  refine partition_up _ rfl rfl A m v l1 T n a (b - 1) (a + 1) hTn (by omega) (by omega) (by omega) (by omega) hr _ _ fun i hi1 hi2 hi3 hi4 => ?_
  simp only [hTn, SkT.norm, h2, joinW_eq, guard_tt, guard_tf, guard_ft, guard_ff, Int.reduceEq, Int.reduceLT, Int.reduceLE, decide_false, decide_true, Bool.not_false, Bool.not_true, Bool.not_not, not_true_eq_false, not_false_eq_true, true_implies, false_implies, implies_true, and_true, true_and, reduceCtorEq, Bool.and_self, Bool.or_self, Bool.and_true, Bool.true_and, Bool.false_eq_true, if_true, if_false, go_sem, Nat.reduceEqDiff, Nat.reduceLT, Nat.reduceAdd, Nat.reduceSub, Nat.reduceLeDiff, List.reduceReplicate, Int.reduceToNat]
  refine partition_down _ rfl rfl A m v l1 T n a i (b - 1) hTn (by omega) (by omega) (by omega) (by omega) hr _ _ fun j hj1 hj2 hj3 hj4 => ?_
  have hS : PartS a b i j l1 := ⟨hi1, hj2, by omega, by omega, fun k k1 k2 => hi3 k (by omega) k2, fun k k1 k2 => hj3 k k1 (by omega)⟩
  have e2 : j ≠ 0 → IntKind.i64.wrap ((j : Int) - 1) = ((j - 1 : Nat) : Int) := fun h => by rw [w64 (by omega) (by omega)]; omega
  simp only [hTn, SkT.norm, h2, wnext (show i < 4611686018427387904 by omega), joinW_eq, Int.toNat_natCast, d0_def, kyL_def, rec_eta, swapL_def, List.length_set, joinW_eq, guard_tt, guard_tf, guard_ft, guard_ff, Int.reduceEq, Int.reduceLT, Int.reduceLE, decide_false, decide_true, Bool.not_false, Bool.not_true, Bool.not_not, not_true_eq_false, not_false_eq_true, true_implies, false_implies, implies_true, and_true, true_and, reduceCtorEq, Bool.and_self, Bool.or_self, Bool.and_true, Bool.true_and, Bool.false_eq_true, if_true, if_false, go_sem, Nat.reduceEqDiff, Nat.reduceLT, Nat.reduceAdd, Nat.reduceSub, Nat.reduceLeDiff, List.reduceReplicate, Int.reduceToNat]
  refine ⟨fun hgt => ⟨⟨by omega, by omega⟩, by omega, ⟨by omega, by omega⟩, by omega, ⟨by omega, by omega⟩, by omega, ⟨by omega, by omega⟩, by omega, ?_⟩, fun hle => ⟨⟨by omega, by omega⟩, by omega, ⟨by omega, by omega⟩, by omega, ⟨by omega, by omega⟩, by omega, ⟨by omega, by omega⟩, by omega, ?_⟩⟩
  · rw [swapL_comm (by omega) (by omega)]
    exact hK _ j true (hp1.trans (SegP.swap (by omega) (by omega) (by omega) (by omega) (by omega))) (by omega) (by omega) (hS.fin (by omega) (by omega))
  have hij : i < j := by
    rcases Nat.lt_or_ge i j with h | h
    · exact h
    · exfalso
      obtain rfl : i = j := by omega
      have := hj4 (Nat.le_refl _)
      have h' := hi4 (by omega)
      unfold leB at h'
      rw [this] at h'; cases h'
  have hS2 := hS.swap hij (by omega) (hi4 (by omega)) (leB_of_lt (hj4 (by omega)))
  have hp2 : SegP a b l (swapL l1 i j) := hp1.trans (SegP.swap (by omega) (by omega) (by omega) (by omega) (by omega))
  generalize swapL l1 i j = l2 at *
  rw [e2 (by omega)]
  unfold slices_partitionCmpFunc_api_Rec.L3
  refine loop2 (σ := List RecT × Nat × Nat) (fun s => .int .i64 s.2.1) (fun s => .int .i64 s.2.2) (fun s => .box A.V :: .map (.sb m) :: .row .own v (.recs s.1) :: T) (fun s => s.2.2) (fun s => SegP a b l s.1 ∧ PartS a b s.2.1 s.2.2 s.1) (l2, i + 1, j - 1) rfl rfl ⟨hp2, hS2⟩ ?_
  rintro I back ⟨l3, i3, j3⟩ ⟨hp3, q1, q2, q3, q4, q5, q6⟩
  simp only at hp3 q1 q2 q3 q4 q5 q6 ⊢
  have hl3 := hp3.len
  simp only [hTn, SkT.norm, h2, joinW_eq, partition_L4, partition_L5, joinW_eq, guard_tt, guard_tf, guard_ft, guard_ff, Int.reduceEq, Int.reduceLT, Int.reduceLE, decide_false, decide_true, Bool.not_false, Bool.not_true, Bool.not_not, not_true_eq_false, not_false_eq_true, true_implies, false_implies, implies_true, and_true, true_and, reduceCtorEq, Bool.and_self, Bool.or_self, Bool.and_true, Bool.true_and, Bool.false_eq_true, if_true, if_false, go_sem, Nat.reduceEqDiff, Nat.reduceLT, Nat.reduceAdd, Nat.reduceSub, Nat.reduceLeDiff, List.reduceReplicate, Int.reduceToNat]
  refine partition_up _ rfl rfl A m v l3 T n a j3 i3 hTn (by omega) (by omega) (by omega) (by omega) hr _ _ fun i4 g1 g2 g3 g4 => ?_
  simp only [hTn, SkT.norm, h2, joinW_eq, guard_tt, guard_tf, guard_ft, guard_ff, Int.reduceEq, Int.reduceLT, Int.reduceLE, decide_false, decide_true, Bool.not_false, Bool.not_true, Bool.not_not, not_true_eq_false, not_false_eq_true, true_implies, false_implies, implies_true, and_true, true_and, reduceCtorEq, Bool.and_self, Bool.or_self, Bool.and_true, Bool.true_and, Bool.false_eq_true, if_true, if_false, go_sem, Nat.reduceEqDiff, Nat.reduceLT, Nat.reduceAdd, Nat.reduceSub, Nat.reduceLeDiff, List.reduceReplicate, Int.reduceToNat]
  refine partition_down _ rfl rfl A m v l3 T n a i4 j3 hTn (by omega) (by omega) (by omega) (by omega) hr _ _ fun j4 k1 k2 k3 k4 => ?_
  have hS4 : PartS a b i4 j4 l3 := ⟨by omega, k2, by omega, by omega, fun k z1 z2 => by
    by_cases e : k < i3
    · exact q5 k z1 e
    · exact g3 k (by omega) z2, fun k z1 z2 => by
    by_cases e : j3 < k
    · exact q6 k e z2
    · exact k3 k z1 (by omega)⟩
  have e4 : j4 ≠ 0 → IntKind.i64.wrap ((j4 : Int) - 1) = ((j4 - 1 : Nat) : Int) := fun h => by rw [w64 (by omega) (by omega)]; omega
  simp only [hTn, SkT.norm, h2, wnext (show i4 < 4611686018427387904 by omega), joinW_eq, Int.toNat_natCast, d0_def, kyL_def, rec_eta, swapL_def, List.length_set, joinW_eq, guard_tt, guard_tf, guard_ft, guard_ff, Int.reduceEq, Int.reduceLT, Int.reduceLE, decide_false, decide_true, Bool.not_false, Bool.not_true, Bool.not_not, not_true_eq_false, not_false_eq_true, true_implies, false_implies, implies_true, and_true, true_and, reduceCtorEq, Bool.and_self, Bool.or_self, Bool.and_true, Bool.true_and, Bool.false_eq_true, if_true, if_false, go_sem, Nat.reduceEqDiff, Nat.reduceLT, Nat.reduceAdd, Nat.reduceSub, Nat.reduceLeDiff, List.reduceReplicate, Int.reduceToNat]
  refine ⟨fun hgt => ⟨⟨by omega, by omega⟩, by omega, ⟨by omega, by omega⟩, by omega, ⟨by omega, by omega⟩, by omega, ⟨by omega, by omega⟩, by omega, ?_⟩, fun hle => ⟨⟨by omega, by omega⟩, by omega, ⟨by omega, by omega⟩, by omega, ⟨by omega, by omega⟩, by omega, ⟨by omega, by omega⟩, by omega, ?_⟩⟩
  · rw [swapL_comm (by omega) (by omega)]
    exact hK _ j4 false (hp3.trans (SegP.swap (by omega) (by omega) (by omega) (by omega) (by omega))) (by omega) (by omega) (hS4.fin (by omega) (by omega))
  · have hij4 : i4 < j4 := by
      rcases Nat.lt_or_ge i4 j4 with h | h
      · exact h
      · exfalso
        obtain rfl : i4 = j4 := by omega
        have := k4 (Nat.le_refl _)
        have h' := g4 (by omega)
        unfold leB at h'
        rw [this] at h'; cases h'
    rw [e4 (by omega)]
    exact back (swapL l3 i4 j4, i4 + 1, j4 - 1) (by simp only; omega) rfl rfl ⟨hp3.trans (SegP.swap (by omega) (by omega) (by omega) (by omega) (by omega)), hS4.swap hij4 (by omega) (g4 (by omega)) (leB_of_lt (k4 (by omega)))⟩
end Lam
namespace Lam
set_option maxRecDepth 20000
open Go Go.Proofs
set_option linter.unusedVariables false
set_option linter.unnecessarySimpa false
set_option linter.unusedSimpArgs false
def slices_pdqsortCmpFunc_api_Rec.K : Con := fun args h K => match args with
  | [a0, a1, a2, a3, a4] => slices_pdqsortCmpFunc_api_Rec.H (ctx [(68, seek_Hits_1.C)] [(114, slices_insertionSortCmpFunc_api_Rec.K)] slices_pdqsortCmpFunc_api_Rec.loops) a0 a1 a2 a3 a4 h K
  | _ => False
theorem slices_pdqsortCmpFunc_api_Rec.spec : SSpec Try.prog 92 slices_pdqsortCmpFunc_api_Rec.K := by
  refine SSpec.of (ctx_ok (F := [(68, seek_Hits_1.C)]) (S := [(114, slices_insertionSortCmpFunc_api_Rec.K)]) (by simpa using seek_Hits_1.spec) (by simpa using slices_insertionSortCmpFunc_api_Rec.spec) slices_pdqsortCmpFunc_api_Rec.loops) slices_pdqsortCmpFunc_api_Rec.at slices_pdqsortCmpFunc_api_Rec.nm slices_pdqsortCmpFunc_api_Rec.bd ?_
  intro args h K hC
  unfold slices_pdqsortCmpFunc_api_Rec.K at hC
  split at hC
  · rw [slices_pdqsortCmpFunc_api_Rec.eq]; exact hC
  · exact hC.elim
theorem pdq0_K (A : SkT) (m : Bytes → Bool) (v : Nat) (l : List RecT) (tl : List Int) (n a b : Nat) (lim : Int) (hn : n = l.length) (hab : a ≤ b) (hbn : b ≤ n) (h12 : b ≤ a + 12) (hr : roomy n) (K : AOut → List AObj → Prop)
    (hK : ∀ l', SegP a b l l' → SegS a b l' → K (.ret (.tup [])) (hpS A m v l' tl)) :
    slices_pdqsortCmpFunc_api_Rec.K [.sref false 2 v 0 n, .int .i64 a, .int .i64 b, .int .i64 lim, hitF] (hpS A m v l tl) K := by
  have hr' := hr
  unfold roomy at hr'
  obtain ⟨T, hT, hTn⟩ : ∃ T, tl.map (fun n => AObj.box (.int .i64 n)) = T ∧ ∀ k h, T.map (normO k h) = T := ⟨_, rfl, fun k h => by
    rw [List.map_map]; exact List.map_congr_left fun _ _ => rfl⟩
  have h2 : 2 < T.length + 1 + 1 + 1 := by omega
  unfold slices_pdqsortCmpFunc_api_Rec.K slices_pdqsortCmpFunc_api_Rec.H
  simp only [hpS, hT, hTn, SkT.norm, h2, joinW_eq, joinW_eq, guard_tt, guard_tf, guard_ft, guard_ff, Int.reduceEq, Int.reduceLT, Int.reduceLE, decide_false, decide_true, Bool.not_false, Bool.not_true, Bool.not_not, not_true_eq_false, not_false_eq_true, true_implies, false_implies, implies_true, and_true, true_and, reduceCtorEq, Bool.and_self, Bool.or_self, Bool.and_true, Bool.true_and, Bool.false_eq_true, if_true, if_false, go_sem, Nat.reduceEqDiff, Nat.reduceLT, Nat.reduceAdd, Nat.reduceSub, Nat.reduceLeDiff, List.reduceReplicate, Int.reduceToNat]
  unfold slices_pdqsortCmpFunc_api_Rec.L1
  refine loop5 (σ := Unit) (fun s => .int .i64 a) (fun s => .int .i64 b) (fun s => .int .i64 lim) (fun s => .bool true) (fun s => .bool true) (fun s => .box A.V :: .map (.sb m) :: .row .own v (.recs l) :: T) (fun s => 0) (fun s => True) () rfl rfl trivial ?_
  rintro I back _ _
  have e2 : IntKind.i64.wrap ((b : Int) - a) = ((b - a : Nat) : Int) := by rw [w64 (by omega) (by omega)]; omega
  have d1 : decide (((b - a : Nat) : Int) ≤ 12) = true := decide_eq_true (by omega)
  simp only [hTn, SkT.norm, h2, e2, d1, joinW_eq, joinW_eq, guard_tt, guard_tf, guard_ft, guard_ff, Int.reduceEq, Int.reduceLT, Int.reduceLE, decide_false, decide_true, Bool.not_false, Bool.not_true, Bool.not_not, not_true_eq_false, not_false_eq_true, true_implies, false_implies, implies_true, and_true, true_and, reduceCtorEq, Bool.and_self, Bool.or_self, Bool.and_true, Bool.true_and, Bool.false_eq_true, if_true, if_false, go_sem, Nat.reduceEqDiff, Nat.reduceLT, Nat.reduceAdd, Nat.reduceSub, Nat.reduceLeDiff, List.reduceReplicate, Int.reduceToNat]
  subst hT
  exact ins_K A m v l tl n a b hn hab hbn hr _ fun l' p s => hK l' p s
abbrev pdq1_ctx : Ctx := ctx [(68, seek_Hits_1.C)] [(114, slices_insertionSortCmpFunc_api_Rec.K), (117, slices_choosePivotCmpFunc_api_Rec.K), (119, slices_partialInsertionSortCmpFunc_api_Rec.K), (121, slices_partitionCmpFunc_api_Rec.K), (92, slices_pdqsortCmpFunc_api_Rec.K)] slices_pdqsortCmpFunc_api_Rec.loops
def pdq1.K : Con := fun args h K => match args with
  | [a0, a1, a2, a3, a4] => slices_pdqsortCmpFunc_api_Rec.H pdq1_ctx a0 a1 a2 a3 a4 h K
  | _ => False
theorem pdq1.spec : SSpec Try.prog 92 pdq1.K := by
  refine SSpec.of (c := pdq1_ctx) (ctx_ok (by simpa using seek_Hits_1.spec) (by simpa using ⟨slices_insertionSortCmpFunc_api_Rec.spec, slices_choosePivotCmpFunc_api_Rec.spec, slices_partialInsertionSortCmpFunc_api_Rec.spec, slices_partitionCmpFunc_api_Rec.spec, slices_pdqsortCmpFunc_api_Rec.spec⟩) slices_pdqsortCmpFunc_api_Rec.loops) slices_pdqsortCmpFunc_api_Rec.at slices_pdqsortCmpFunc_api_Rec.nm slices_pdqsortCmpFunc_api_Rec.bd ?_
  intro args h K hC
  unfold pdq1.K at hC
  split at hC
  · rw [slices_pdqsortCmpFunc_api_Rec.eq]; exact hC
  · exact hC.elim
theorem pdq1_K (A : SkT) (m : Bytes → Bool) (v : Nat) (l : List RecT) (n : Nat) (lim : Int) (hl : 12 < n → lim ≠ 0) (hn : n = l.length) (h13 : n ≤ 13) (K : AOut → List AObj → Prop)
    (hK : ∀ l' tl, SegP 0 n l l' → SegS 0 n l' → K (.ret (.tup [])) (hpS A m v l' tl)) :
    pdq1.K [.sref false 2 v 0 n, .int .i64 0, .int .i64 n, .int .i64 lim, hitF] (hpS A m v l []) K := by
  have hr : roomy n := by unfold roomy; omega
  unfold pdq1.K slices_pdqsortCmpFunc_api_Rec.H
  simp only [hpS, List.map_nil, SkT.norm, joinW_eq, joinW_eq, guard_tt, guard_tf, guard_ft, guard_ff, Int.reduceEq, Int.reduceLT, Int.reduceLE, decide_false, decide_true, Bool.not_false, Bool.not_true, Bool.not_not, not_true_eq_false, not_false_eq_true, true_implies, false_implies, implies_true, and_true, true_and, reduceCtorEq, Bool.and_self, Bool.or_self, Bool.and_true, Bool.true_and, Bool.false_eq_true, if_true, if_false, go_sem, Nat.reduceEqDiff, Nat.reduceLT, Nat.reduceAdd, Nat.reduceSub, Nat.reduceLeDiff, List.reduceReplicate, Int.reduceToNat]
  unfold slices_pdqsortCmpFunc_api_Rec.L1
  refine loop5 (σ := List RecT × Nat × Nat × Bool × Bool) (fun s => .int .i64 s.2.1) (fun s => .int .i64 s.2.2.1) (fun s => .int .i64 lim) (fun s => .bool s.2.2.2.1) (fun s => .bool s.2.2.2.2) (fun s => .box A.V :: .map (.sb m) :: [.row .own v (.recs s.1)]) (fun s => s.2.2.1 - s.2.1)
    (fun s => (n = 13 ∧ s.1 = l ∧ s.2.1 = 0 ∧ s.2.2.1 = n ∧ s.2.2.2.1 = true ∧ s.2.2.2.2 = true) ∨ (s.2.2.1 ≤ s.2.1 + 12 ∧ s.2.1 ≤ s.2.2.1 ∧ s.2.2.1 ≤ n ∧ SegP 0 n l s.1 ∧ ∀ l', SegP s.2.1 s.2.2.1 s.1 l' → SegS s.2.1 s.2.2.1 l' → SegS 0 n l')) (l, 0, n, true, true) rfl rfl ?_ ?_
  · by_cases h : 12 < n
    · exact .inl ⟨by omega, rfl, rfl, rfl, rfl, rfl⟩
    · exact .inr ⟨by simp only; omega, Nat.zero_le _, Nat.le_refl _, SegP.refl, fun l' _ h => h⟩
  rintro I back ⟨l1, a, b, t10, t11⟩ hq
  simp only at hq ⊢
  rcases hq with ⟨rfl, rfl, rfl, rfl, rfl, rfl⟩ | ⟨g1, g2, g3, g4, g5⟩
  rotate_left
  · have e2 : IntKind.i64.wrap ((b : Int) - a) = ((b - a : Nat) : Int) := by rw [w64 (by omega) (by omega)]; omega
    have d1 : decide (((b - a : Nat) : Int) ≤ 12) = true := decide_eq_true (by omega)
    simp only [SkT.norm, e2, d1, joinW_eq, joinW_eq, guard_tt, guard_tf, guard_ft, guard_ff, Int.reduceEq, Int.reduceLT, Int.reduceLE, decide_false, decide_true, Bool.not_false, Bool.not_true, Bool.not_not, not_true_eq_false, not_false_eq_true, true_implies, false_implies, implies_true, and_true, true_and, reduceCtorEq, Bool.and_self, Bool.or_self, Bool.and_true, Bool.true_and, Bool.false_eq_true, if_true, if_false, go_sem, Nat.reduceEqDiff, Nat.reduceLT, Nat.reduceAdd, Nat.reduceSub, Nat.reduceLeDiff, List.reduceReplicate, Int.reduceToNat]
    refine ins_K A m v l1 [] n a b (by rw [g4.len]; exact hn) g2 g3 hr _ fun l' p s => ?_
    exact hK l' [] (g4.trans (p.mono (Nat.zero_le _) g3)) (g5 l' p s)
  · have e2 : IntKind.i64.wrap ((13 : Int) - 0) = 13 := by decide +kernel
    have d1 : decide ((13 : Int) ≤ 12) = false := by decide
    have d2 : decide (lim = 0) = false := decide_eq_false (hl (by decide))
    simp only [SkT.norm, e2, d1, d2, joinW_eq, joinW_eq, guard_tt, guard_tf, guard_ft, guard_ff, Int.reduceEq, Int.reduceLT, Int.reduceLE, decide_false, decide_true, Bool.not_false, Bool.not_true, Bool.not_not, not_true_eq_false, not_false_eq_true, true_implies, false_implies, implies_true, and_true, true_and, reduceCtorEq, Bool.and_self, Bool.or_self, Bool.and_true, Bool.true_and, Bool.false_eq_true, if_true, if_false, go_sem, Nat.reduceEqDiff, Nat.reduceLT, Nat.reduceAdd, Nat.reduceSub, Nat.reduceLeDiff, List.reduceReplicate, Int.reduceToNat]
    refine choose_K A m v l1 13 0 13 hn (by decide) (by decide) (by decide) hr _ fun p e s hp0 hp hee => ?_
    have hmain : ∀ (pv : Nat) (K2 : AOut → List AObj → Prop), pv < 13 → (∀ (l' : List RecT) (q : Nat) (al : Bool), SegP 0 13 l1 l' → q < 13 → Parted 0 q 13 l' → K2 (.ret (.tup [.int .i64 q, .bool al])) (hpS A m v l' [s])) → slices_partitionCmpFunc_api_Rec.K [.sref false 2 v 0 13, .int .i64 0, .int .i64 13, .int .i64 pv, hitF] (hpS A m v l1 [s]) K2 := fun pv K2 hpv h2 =>
      partition_K A m v l1 [s] 13 0 13 pv hn (by decide) (by decide) (Nat.zero_le _) hpv hr _ fun l' q al h3 _ h4 h5 => h2 l' q al h3 h4 h5
    have he2 : ¬ (e : Int) = 2 := by omega
    simp only [hpS, List.map_cons, List.map_nil, he2, decide_false, joinW_eq, joinW_eq, guard_tt, guard_tf, guard_ft, guard_ff, Int.reduceEq, Int.reduceLT, Int.reduceLE, decide_false, decide_true, Bool.not_false, Bool.not_true, Bool.not_not, not_true_eq_false, not_false_eq_true, true_implies, false_implies, implies_true, and_true, true_and, reduceCtorEq, Bool.and_self, Bool.or_self, Bool.and_true, Bool.true_and, Bool.false_eq_true, if_true, if_false, go_sem, Nat.reduceEqDiff, Nat.reduceLT, Nat.reduceAdd, Nat.reduceSub, Nat.reduceLeDiff, List.reduceReplicate, Int.reduceToNat]
    refine ⟨fun _ => part_K A m v l1 [s] 13 0 13 hn (by decide) (by decide) (by decide) hr _ (fun hs => ?_) ?_, fun _ => ?_⟩
    · simp only [hpS, List.map_cons, List.map_nil, joinW_eq, guard_tt, guard_tf, guard_ft, guard_ff, Int.reduceEq, Int.reduceLT, Int.reduceLE, decide_false, decide_true, Bool.not_false, Bool.not_true, Bool.not_not, not_true_eq_false, not_false_eq_true, true_implies, false_implies, implies_true, and_true, true_and, reduceCtorEq, Bool.and_self, Bool.or_self, Bool.and_true, Bool.true_and, Bool.false_eq_true, if_true, if_false, go_sem, Nat.reduceEqDiff, Nat.reduceLT, Nat.reduceAdd, Nat.reduceSub, Nat.reduceLeDiff, List.reduceReplicate, Int.reduceToNat]
      exact hK l1 [s] SegP.refl hs
    all_goals
      try simp only [hpS, List.map_cons, List.map_nil, joinW_eq, guard_tt, guard_tf, guard_ft, guard_ff, Int.reduceEq, Int.reduceLT, Int.reduceLE, decide_false, decide_true, Bool.not_false, Bool.not_true, Bool.not_not, not_true_eq_false, not_false_eq_true, true_implies, false_implies, implies_true, and_true, true_and, reduceCtorEq, Bool.and_self, Bool.or_self, Bool.and_true, Bool.true_and, Bool.false_eq_true, if_true, if_false, go_sem, Nat.reduceEqDiff, Nat.reduceLT, Nat.reduceAdd, Nat.reduceSub, Nat.reduceLeDiff, List.reduceReplicate, Int.reduceToNat]
      refine hmain p _ hp fun l' q al h3 h4 h5 => ?_
      have f1 : IntKind.i64.wrap ((q : Int) - 0) = q := by rw [Int.sub_zero]; exact w64 (by omega) (by omega)
      have f2 : IntKind.i64.wrap ((13 : Int) - q) = ((13 - q : Nat) : Int) := by rw [w64 (by omega) (by omega)]; omega
      simp only [hpS, List.map_cons, List.map_nil, SkT.norm, f1, f2, wnext (show q < 4611686018427387904 by omega), joinW_eq, guard_tt, guard_tf, guard_ft, guard_ff, Int.reduceEq, Int.reduceLT, Int.reduceLE, decide_false, decide_true, Bool.not_false, Bool.not_true, Bool.not_not, not_true_eq_false, not_false_eq_true, true_implies, false_implies, implies_true, and_true, true_and, reduceCtorEq, Bool.and_self, Bool.or_self, Bool.and_true, Bool.true_and, Bool.false_eq_true, if_true, if_false, go_sem, Nat.reduceEqDiff, Nat.reduceLT, Nat.reduceAdd, Nat.reduceSub, Nat.reduceLeDiff, List.reduceReplicate, Int.reduceToNat]
      refine ⟨fun hlt => ?_, fun hge => ?_⟩
      · refine pdq0_K A m v l' [s] 13 0 q lim (by rw [h3.len]; exact hn) (by omega) (by omega) (by omega) hr _ fun l2 s1 s2 => ?_
        simp only [hpS, List.map_cons, List.map_nil, SkT.norm, wnext (show q < 4611686018427387904 by omega), joinW_eq, guard_tt, guard_tf, guard_ft, guard_ff, Int.reduceEq, Int.reduceLT, Int.reduceLE, decide_false, decide_true, Bool.not_false, Bool.not_true, Bool.not_not, not_true_eq_false, not_false_eq_true, true_implies, false_implies, implies_true, and_true, true_and, reduceCtorEq, Bool.and_self, Bool.or_self, Bool.and_true, Bool.true_and, Bool.false_eq_true, if_true, if_false, go_sem, Nat.reduceEqDiff, Nat.reduceLT, Nat.reduceAdd, Nat.reduceSub, Nat.reduceLeDiff, List.reduceReplicate, Int.reduceToNat]
        have hl2 := h5.left s1
        refine back (l2, q + 1, 13, _, _) (by simp only; omega) rfl rfl (.inr ⟨by simp only; omega, by simp only; omega, by simp only; omega, h3.trans (s1.mono (by omega) (by omega)), fun l3 t1 t2 => ?_⟩)
        exact (hl2.right t1).sorted (s2.keep t1 (.inl (by simp only; omega))) t2
      · refine pdq0_K A m v l' [s] 13 (q + 1) 13 lim (by rw [h3.len]; exact hn) (by omega) (by omega) (by omega) hr _ fun l2 s1 s2 => ?_
        simp only [hpS, List.map_cons, List.map_nil, SkT.norm, wnext (show q < 4611686018427387904 by omega), joinW_eq, guard_tt, guard_tf, guard_ft, guard_ff, Int.reduceEq, Int.reduceLT, Int.reduceLE, decide_false, decide_true, Bool.not_false, Bool.not_true, Bool.not_not, not_true_eq_false, not_false_eq_true, true_implies, false_implies, implies_true, and_true, true_and, reduceCtorEq, Bool.and_self, Bool.or_self, Bool.and_true, Bool.true_and, Bool.false_eq_true, if_true, if_false, go_sem, Nat.reduceEqDiff, Nat.reduceLT, Nat.reduceAdd, Nat.reduceSub, Nat.reduceLeDiff, List.reduceReplicate, Int.reduceToNat]
        have hl2 := h5.right s1
        refine back (l2, 0, q, _, _) (by simp only; omega) rfl rfl (.inr ⟨by simp only; omega, by simp only; omega, by simp only; omega, h3.trans (s1.mono (by omega) (by omega)), fun l3 t1 t2 => ?_⟩)
        exact (hl2.left t1).sorted t2 (s2.keep t1 (.inr (by simp only; omega)))
end Lam
namespace Lam
set_option maxRecDepth 20000
open Go Go.Proofs
set_option linter.unusedVariables false
set_option linter.unnecessarySimpa false
set_option linter.unusedSimpArgs false
def lenN (n : Nat) : Nat := if n = 0 then 0 else if n < 2 then 1 else if n < 4 then 2 else if n < 8 then 3 else 4
def math_bits_Len64.C : Contract
  | [.int .u64 n] => some (false, pD (0 ≤ n ∧ n < 16) (.int .i64 (lenN n.toNat)))
  | _ => none
set_option maxRecDepth 20000 in
theorem math_bits_Len64.spec : FSpec Try.prog 123 math_bits_Len64.C := by
  refine FSpec.of (ctx_ok (F := []) (S := []) (by simp) (by simp) math_bits_Len64.loops) math_bits_Len64.at math_bits_Len64.nm math_bits_Len64.bd ?_
  intro vs b S v news e hS
  unfold math_bits_Len64.C at e
  split at e
  rotate_left
  · cases e
  cases e
  rw [math_bits_Len64.eq]
  unfold math_bits_Len64.H
  simp (maxSteps := 4000000) only [go_sem, Nat.reduceEqDiff, Nat.reduceLT, Nat.reduceAdd, Nat.reduceSub, Nat.reduceLeDiff, List.reduceReplicate, Int.reduceToNat]
  rename_i n
  have d1 : decide ((4294967296 : Int) ≤ n) = false := decide_eq_false (by omega)
  have d2 : decide ((65536 : Int) ≤ n) = false := decide_eq_false (by omega)
  have d3 : decide ((256 : Int) ≤ n) = false := decide_eq_false (by omega)
  have g1 : ¬ (4294967296 : Int) ≤ n := by omega
  simp only [g1, d1, d2, d3, joinW_eq, joinW_eq, guard_tt, guard_tf, guard_ft, guard_ff, Int.reduceEq, Int.reduceLT, Int.reduceLE, decide_false, decide_true, Bool.not_false, Bool.not_true, Bool.not_not, not_true_eq_false, not_false_eq_true, true_implies, false_implies, implies_true, and_true, true_and, reduceCtorEq, Bool.and_self, Bool.or_self, Bool.and_true, Bool.true_and, Bool.false_eq_true, if_true, if_false, go_sem, Nat.reduceEqDiff, Nat.reduceLT, Nat.reduceAdd, Nat.reduceSub, Nat.reduceLeDiff, List.reduceReplicate, Int.reduceToNat]
  have hc : n = 0 ∨ n = 1 ∨ n = 2 ∨ n = 3 ∨ n = 4 ∨ n = 5 ∨ n = 6 ∨ n = 7 ∨ n = 8 ∨ n = 9 ∨ n = 10 ∨ n = 11 ∨ n = 12 ∨ n = 13 ∨ n = 14 ∨ n = 15 := by omega
  rcases hc with rfl | rfl | rfl | rfl | rfl | rfl | rfl | rfl | rfl | rfl | rfl | rfl | rfl | rfl | rfl | rfl <;> exact ⟨by decide, post_val rfl rfl⟩
def math_bits_Len.C : Contract
  | [.int .u64 n] => some (false, pD (0 ≤ n ∧ n < 16) (.int .i64 (lenN n.toNat)))
  | _ => none
set_option maxRecDepth 20000 in
theorem math_bits_Len.spec : FSpec Try.prog 93 math_bits_Len.C := by
  refine FSpec.of (ctx_ok (F := [(123, math_bits_Len64.C)]) (S := []) (by simpa using math_bits_Len64.spec) (by simp) math_bits_Len.loops) math_bits_Len.at math_bits_Len.nm math_bits_Len.bd ?_
  intro vs b S v news e hS
  unfold math_bits_Len.C at e
  split at e
  rotate_left
  · cases e
  cases e
  rw [math_bits_Len.eq]
  unfold math_bits_Len.H
  simp (maxSteps := 4000000) only [go_sem, Nat.reduceEqDiff, Nat.reduceLT, Nat.reduceAdd, Nat.reduceSub, Nat.reduceLeDiff, List.reduceReplicate, Int.reduceToNat, math_bits_Len64.C]
  rename_i n
  exact ⟨hS, post_val rfl rfl⟩
def slices_SortFunc_sl_api_Rec_api_Rec.K : Con := fun args h K => match args with
  | [a0, a1] => slices_SortFunc_sl_api_Rec_api_Rec.H (ctx [(93, math_bits_Len.C)] [(92, pdq1.K)] slices_SortFunc_sl_api_Rec_api_Rec.loops) a0 a1 h K
  | _ => False
theorem slices_SortFunc_sl_api_Rec_api_Rec.spec : SSpec Try.prog 67 slices_SortFunc_sl_api_Rec_api_Rec.K := by
  refine SSpec.of (c := ctx [(93, math_bits_Len.C)] [(92, pdq1.K)] slices_SortFunc_sl_api_Rec_api_Rec.loops) (ctx_ok (by simpa using math_bits_Len.spec) (by simpa using pdq1.spec) slices_SortFunc_sl_api_Rec_api_Rec.loops) slices_SortFunc_sl_api_Rec_api_Rec.at slices_SortFunc_sl_api_Rec_api_Rec.nm slices_SortFunc_sl_api_Rec_api_Rec.bd ?_
  intro args h K hC
  unfold slices_SortFunc_sl_api_Rec_api_Rec.K at hC
  split at hC
  · rw [slices_SortFunc_sl_api_Rec_api_Rec.eq]; exact hC
  · exact hC.elim
theorem sort_K (A : SkT) (m : Bytes → Bool) (v : Nat) (l : List RecT) (n : Nat) (hn : n = l.length) (h13 : n ≤ 13) (K : AOut → List AObj → Prop)
    (hK : ∀ l' tl, l'.Perm l → SegS 0 n l' → K (.ret (.tup [])) (hpS A m v l' tl)) :
    slices_SortFunc_sl_api_Rec_api_Rec.K [.sref false 2 v 0 n, hitF] (hpS A m v l []) K := by
  have hr : roomy n := by unfold roomy; omega
  have e1 : IntKind.u64.wrap (n : Int) = n := by simp [IntKind.wrap, IntKind.bits, IntKind.signed]; omega
  unfold slices_SortFunc_sl_api_Rec_api_Rec.K slices_SortFunc_sl_api_Rec_api_Rec.H
  simp only [hpS, List.map_nil, math_bits_Len.C, e1, Int.toNat_natCast, joinW_eq, guard_tt, guard_tf, guard_ft, guard_ff, Int.reduceEq, Int.reduceLT, Int.reduceLE, decide_false, decide_true, Bool.not_false, Bool.not_true, Bool.not_not, not_true_eq_false, not_false_eq_true, true_implies, false_implies, implies_true, and_true, true_and, reduceCtorEq, Bool.and_self, Bool.or_self, Bool.and_true, Bool.true_and, Bool.false_eq_true, if_true, if_false, go_sem, Nat.reduceEqDiff, Nat.reduceLT, Nat.reduceAdd, Nat.reduceSub, Nat.reduceLeDiff, List.reduceReplicate, Int.reduceToNat]
  refine ⟨⟨by omega, by omega⟩, pdq1_K A m v l n _ (fun h => ?_) hn h13 _ fun l' tl s1 s2 => hK l' tl s1.1 s2⟩
  unfold lenN
  rw [if_neg (by omega), if_neg (by omega), if_neg (by omega), if_neg (by omega)]; decide
end Lam
namespace Lam
open Go Go.Proofs
set_option linter.unusedVariables false
def slices_Equal_sl_int_int.loops : Nat → LInfo
  | 4 => ⟨[13], [false], [0, 1, 12], [], [], []⟩
  | _ => ⟨[], [], [], [], [], []⟩
def slices_Equal_sl_int_int.L1 (c : Ctx) (J1 : List AObj → Prop) (K : AOut → List AObj → Prop) (lv : List AV) (h0 : List AObj) (n0 : Nat) (c0 : AV) (c1 : AV) (c12 : AV) : Prop :=
  ∃ I : Nat → List AV → List AObj → Prop, (∃ n, I n lv h0) ∧ ∀ n h, ∀ t13, I n [t13] h →
    runD (binD T_int .lss t13 c12) h fun t14 h =>
    condW t14
    (runD (indexAddrD T_sl_int h c0 t13) h fun t18 h =>
    runD (fitD T_int (loadD h t18)) h fun t19 h =>
    runD (indexAddrD T_sl_int h c1 t13) h fun t22 h =>
    runD (fitD T_int (loadD h t22)) h fun t23 h =>
    runD (binD T_int .neq t19 t23) h fun t24 h =>
    condW t24
    (K (.ret (.bool false)) h)
    (runD (binD T_int .add t13 (.int .i64 1)) h fun t25 h =>
    (∃ m, m < n ∧ I m (AV.norms n0 h [t25]) (normH n0 h)) ∧ AV.norms n0 h [c0, c1, c12] = [c0, c1, c12]))
    (J1 h)
def slices_Equal_sl_int_int.H (c : Ctx) (t0 : AV) (t1 : AV) (h : List AObj) (K : AOut → List AObj → Prop) : Prop :=
  runD (lenD T_sl_int h t0) h fun t7 h =>
  runD (lenD T_sl_int h t1) h fun t9 h =>
  runD (binD T_int .neq t7 t9) h fun t10 h =>
  condW t10
  (K (.ret (.bool false)) h)
  (runD (lenD T_sl_int h t0) h fun t12 h =>
  joinW (fun (J1 : List AObj → Prop) =>
  promV [false] [(.int .i64 0)] h fun lv h => slices_Equal_sl_int_int.L1 c J1 K (AV.norms h.length h lv) (normH h.length h) h.length (AV.norm h.length h t0) (AV.norm h.length h t1) (AV.norm h.length h t12))
  (fun h => K (.ret (.bool true)) h))
def slices_Clone_sl_int_int.loops : Nat → LInfo
  | _ => ⟨[], [], [], [], [], []⟩
def slices_Clone_sl_int_int.H (c : Ctx) (t0 : AV) (h : List AObj) (K : AOut → List AObj → Prop) : Prop :=
  nilEqO (AV.len T_sl_int h t0) h fun t4 h =>
  condW t4
  (K (.ret (.sl true (.ints .i64 []))) h)
  (runD (buildSliceD T_sl_int 0 [] h.length) h fun t5 h =>
  runDM (appendD T_sl_int h t5 t0 h.length) (appendH T_sl_int h t5 t0) h fun t7 h =>
  K (.ret t7) h)
def slices_Contains_sl_int_int.loops : Nat → LInfo
  | _ => ⟨[], [], [], [], [], []⟩
def slices_Contains_sl_int_int.H (c : Ctx) (t0 : AV) (t1 : AV) (h : List AObj) (K : AOut → List AObj → Prop) : Prop :=
  callW false c (.fn (.func 110) [] []) [t0, t1] h (fun t7 h =>
  runD (binD T_int .geq t7 (.int .i64 0)) h fun t8 h =>
  K (.ret t8) h)
  (fun v h => K (.pan v) h)
def slices_IndexFunc_sl_int_int.loops : Nat → LInfo
  | 2 => ⟨[8], [false], [0, 1, 7], [], [], []⟩
  | _ => ⟨[], [], [], [], [], []⟩
def slices_IndexFunc_sl_int_int.L1 (c : Ctx) (J1 : List AObj → Prop) (K : AOut → List AObj → Prop) (lv : List AV) (h0 : List AObj) (n0 : Nat) (c0 : AV) (c1 : AV) (c7 : AV) : Prop :=
  ∃ I : Nat → List AV → List AObj → Prop, (∃ n, I n lv h0) ∧ ∀ n h, ∀ t8, I n [t8] h →
    runD (binD T_int .lss t8 c7) h fun t9 h =>
    condW t9
    (runD (indexAddrD T_sl_int h c0 t8) h fun t14 h =>
    runD (fitD T_int (loadD h t14)) h fun t15 h =>
    callW false c c1 [t15] h (fun t16 h =>
    condW t16
    (K (.ret t8) h)
    (runD (binD T_int .add t8 (.int .i64 1)) h fun t18 h =>
    (∃ m, m < n ∧ I m (AV.norms n0 h [t18]) (normH n0 h)) ∧ AV.norms n0 h [c0, c1, c7] = [c0, c1, c7]))
    (fun v h => K (.pan v) h))
    (J1 h)
def slices_IndexFunc_sl_int_int.H (c : Ctx) (t0 : AV) (t1 : AV) (h : List AObj) (K : AOut → List AObj → Prop) : Prop :=
  runD (lenD T_sl_int h t0) h fun t7 h =>
  joinW (fun (J1 : List AObj → Prop) =>
  promV [false] [(.int .i64 0)] h fun lv h => slices_IndexFunc_sl_int_int.L1 c J1 K (AV.norms h.length h lv) (normH h.length h) h.length (AV.norm h.length h t0) (AV.norm h.length h t1) (AV.norm h.length h t7))
  (fun h => K (.ret (.int .i64 (-1))) h)
def slices_ContainsFunc_sl_int_int.loops : Nat → LInfo
  | _ => ⟨[], [], [], [], [], []⟩
def slices_ContainsFunc_sl_int_int.H (c : Ctx) (t0 : AV) (t1 : AV) (h : List AObj) (K : AOut → List AObj → Prop) : Prop :=
  callW false c (.fn (.func 89) [] []) [t0, t1] h (fun t7 h =>
  runD (binD T_int .geq t7 (.int .i64 0)) h fun t8 h =>
  K (.ret t8) h)
  (fun v h => K (.pan v) h)
def slices_Index_sl_int_int.loops : Nat → LInfo
  | 2 => ⟨[8], [false], [0, 1, 7], [], [], []⟩
  | _ => ⟨[], [], [], [], [], []⟩
def slices_Index_sl_int_int.L1 (c : Ctx) (J1 : List AObj → Prop) (K : AOut → List AObj → Prop) (lv : List AV) (h0 : List AObj) (n0 : Nat) (c0 : AV) (c1 : AV) (c7 : AV) : Prop :=
  ∃ I : Nat → List AV → List AObj → Prop, (∃ n, I n lv h0) ∧ ∀ n h, ∀ t8, I n [t8] h →
    runD (binD T_int .lss t8 c7) h fun t9 h =>
    condW t9
    (runD (indexAddrD T_sl_int h c0 t8) h fun t14 h =>
    runD (fitD T_int (loadD h t14)) h fun t15 h =>
    runD (binD T_int .eql c1 t15) h fun t16 h =>
    condW t16
    (K (.ret t8) h)
    (runD (binD T_int .add t8 (.int .i64 1)) h fun t18 h =>
    (∃ m, m < n ∧ I m (AV.norms n0 h [t18]) (normH n0 h)) ∧ AV.norms n0 h [c0, c1, c7] = [c0, c1, c7]))
    (J1 h)
def slices_Index_sl_int_int.H (c : Ctx) (t0 : AV) (t1 : AV) (h : List AObj) (K : AOut → List AObj → Prop) : Prop :=
  runD (lenD T_sl_int h t0) h fun t7 h =>
  joinW (fun (J1 : List AObj → Prop) =>
  promV [false] [(.int .i64 0)] h fun lv h => slices_Index_sl_int_int.L1 c J1 K (AV.norms h.length h lv) (normH h.length h) h.length (AV.norm h.length h t0) (AV.norm h.length h t1) (AV.norm h.length h t7))
  (fun h => K (.ret (.int .i64 (-1))) h)
def slices_Compact_sl_int_int.loops : Nat → LInfo
  | 4 => ⟨[3], [false], [0], [], [], []⟩
  | 9 => ⟨[3, 5], [false, false], [0, 4], [], [], []⟩
  | _ => ⟨[], [], [], [], [], []⟩
def slices_Compact_sl_int_int.L2 (c : Ctx) (J3 : AV → AV → List AObj → Prop) (K : AOut → List AObj → Prop) (lv : List AV) (h0 : List AObj) (n0 : Nat) (c0 : AV) (c4 : AV) : Prop :=
  ∃ I : Nat → List AV → List AObj → Prop, (∃ n, I n lv h0) ∧ ∀ n h, ∀ t3, ∀ t5, I n [t3, t5] h →
    runD (lenD T_sl_int h c4) h fun t31 h =>
    runD (binD T_int .lss t5 t31) h fun t32 h =>
    condW t32
    (runD (indexAddrD T_sl_int h c4 t5) h fun t37 h =>
    runD (fitD T_int (loadD h t37)) h fun t38 h =>
    runD (binD T_int .sub t5 (.int .i64 1)) h fun t41 h =>
    runD (indexAddrD T_sl_int h c4 t41) h fun t42 h =>
    runD (fitD T_int (loadD h t42)) h fun t43 h =>
    runD (binD T_int .neq t38 t43) h fun t44 h =>
    joinW (fun (J4 : AV → List AObj → Prop) =>
    condW t44
    (runD (indexAddrD T_sl_int h c4 t5) h fun t49 h =>
      runD (fitD T_int (loadD h t49)) h fun t50 h =>
      runD (indexAddrD T_sl_int h c0 t3) h fun t51 h =>
      runH (storeH T_int h t51 t50) h fun _ h =>
      runD (binD T_int .add t3 (.int .i64 1)) h fun t53 h =>
      J4 t53 h)
    (J4 t3 h))
    (fun t3 h => runD (binD T_int .add t5 (.int .i64 1)) h fun t34 h =>
    (∃ m, m < n ∧ I m (AV.norms n0 h [t3, t34]) (normH n0 h)) ∧ AV.norms n0 h [c0, c4] = [c0, c4]))
    (J3 c0 t3 h)
def slices_Compact_sl_int_int.L1 (c : Ctx) (J1 : AV → List AObj → Prop) (K : AOut → List AObj → Prop) (lv : List AV) (h0 : List AObj) (n0 : Nat) (c0 : AV) : Prop :=
  ∃ I : Nat → List AV → List AObj → Prop, (∃ n, I n lv h0) ∧ ∀ n h, ∀ t3, I n [t3] h →
    runD (lenD T_sl_int h c0) h fun t12 h =>
    runD (binD T_int .lss t3 t12) h fun t13 h =>
    condW t13
    (joinW (fun (J2 : AV → AV → List AObj → Prop) =>
    runD (indexAddrD T_sl_int h c0 t3) h fun t18 h =>
    runD (fitD T_int (loadD h t18)) h fun t19 h =>
    runD (binD T_int .sub t3 (.int .i64 1)) h fun t22 h =>
    runD (indexAddrD T_sl_int h c0 t22) h fun t23 h =>
    runD (fitD T_int (loadD h t23)) h fun t24 h =>
    runD (binD T_int .eql t19 t24) h fun t25 h =>
    condW t25
    (runD (sliceD T_sl_int h c0 (some t3) none none) h fun t28 h =>
      joinW (fun (J3 : AV → AV → List AObj → Prop) =>
      promV [false, false] [t3, (.int .i64 1)] h fun lv h => slices_Compact_sl_int_int.L2 c J3 K (AV.norms h.length h lv) (normH h.length h) h.length (AV.norm h.length h c0) (AV.norm h.length h t28))
      (fun t0 t3 h => runD (sliceD T_sl_int h t0 (some t3) none none) h fun t56 h =>
      runM (clearH T_sl_int h t56) h fun _ h =>
      runD (sliceD T_sl_int h t0 none (some t3) none) h fun t59 h =>
      K (.ret t59) h))
    (J2 c0 t3 h))
    (fun t0 t3 h => runD (binD T_int .add t3 (.int .i64 1)) h fun t15 h =>
    (∃ m, m < n ∧ I m (AV.norms n0 h [t15]) (normH n0 h)) ∧ AV.norms n0 h [t0] = [c0]))
    (J1 c0 h)
def slices_Compact_sl_int_int.H (c : Ctx) (t0 : AV) (h : List AObj) (K : AOut → List AObj → Prop) : Prop :=
  runD (lenD T_sl_int h t0) h fun t7 h =>
  runD (binD T_int .lss t7 (.int .i64 2)) h fun t8 h =>
  condW t8
  (K (.ret t0) h)
  (joinW (fun (J1 : AV → List AObj → Prop) =>
  promV [false] [(.int .i64 1)] h fun lv h => slices_Compact_sl_int_int.L1 c J1 K (AV.norms h.length h lv) (normH h.length h) h.length (AV.norm h.length h t0))
  (fun t0 h => K (.ret t0) h))
theorem slices_Equal_sl_int_int.eq (F : List (FuncId × Contract)) (S : List (FuncId × Con)) (t0 t1 : AV) (h : List AObj) (K : AOut → List AObj → Prop) : funW (ctx F S slices_Equal_sl_int_int.loops) Try.f59 [t0, t1] h K = slices_Equal_sl_int_int.H (ctx F S slices_Equal_sl_int_int.loops) t0 t1 h K := by kernel_rfl
theorem slices_Clone_sl_int_int.eq (F : List (FuncId × Contract)) (S : List (FuncId × Con)) (t0 : AV) (h : List AObj) (K : AOut → List AObj → Prop) : funW (ctx F S slices_Clone_sl_int_int.loops) Try.f64 [t0] h K = slices_Clone_sl_int_int.H (ctx F S slices_Clone_sl_int_int.loops) t0 h K := by kernel_rfl
theorem slices_Contains_sl_int_int.eq (F : List (FuncId × Contract)) (S : List (FuncId × Con)) (t0 t1 : AV) (h : List AObj) (K : AOut → List AObj → Prop) : funW (ctx F S slices_Contains_sl_int_int.loops) Try.f83 [t0, t1] h K = slices_Contains_sl_int_int.H (ctx F S slices_Contains_sl_int_int.loops) t0 t1 h K := by kernel_rfl
theorem slices_IndexFunc_sl_int_int.eq (F : List (FuncId × Contract)) (S : List (FuncId × Con)) (t0 t1 : AV) (h : List AObj) (K : AOut → List AObj → Prop) : funW (ctx F S slices_IndexFunc_sl_int_int.loops) Try.f89 [t0, t1] h K = slices_IndexFunc_sl_int_int.H (ctx F S slices_IndexFunc_sl_int_int.loops) t0 t1 h K := by kernel_rfl
theorem slices_ContainsFunc_sl_int_int.eq (F : List (FuncId × Contract)) (S : List (FuncId × Con)) (t0 t1 : AV) (h : List AObj) (K : AOut → List AObj → Prop) : funW (ctx F S slices_ContainsFunc_sl_int_int.loops) Try.f99 [t0, t1] h K = slices_ContainsFunc_sl_int_int.H (ctx F S slices_ContainsFunc_sl_int_int.loops) t0 t1 h K := by kernel_rfl
theorem slices_Index_sl_int_int.eq (F : List (FuncId × Contract)) (S : List (FuncId × Con)) (t0 t1 : AV) (h : List AObj) (K : AOut → List AObj → Prop) : funW (ctx F S slices_Index_sl_int_int.loops) Try.f110 [t0, t1] h K = slices_Index_sl_int_int.H (ctx F S slices_Index_sl_int_int.loops) t0 t1 h K := by kernel_rfl
theorem slices_Compact_sl_int_int.eq (F : List (FuncId × Contract)) (S : List (FuncId × Con)) (t0 : AV) (h : List AObj) (K : AOut → List AObj → Prop) : funW (ctx F S slices_Compact_sl_int_int.loops) Try.f111 [t0] h K = slices_Compact_sl_int_int.H (ctx F S slices_Compact_sl_int_int.loops) t0 h K := by kernel_rfl
theorem slices_Equal_sl_int_int.at : Try.prog.funcs[59]? = some Try.f59 := by kernel_rfl
theorem slices_Equal_sl_int_int.nm : (Try.f59.name == "runtime.NumGoroutine") = false := by kernel_rfl
theorem slices_Equal_sl_int_int.bd : Try.f59.body.isNone = false := by kernel_rfl
theorem slices_Clone_sl_int_int.at : Try.prog.funcs[64]? = some Try.f64 := by kernel_rfl
theorem slices_Clone_sl_int_int.nm : (Try.f64.name == "runtime.NumGoroutine") = false := by kernel_rfl
theorem slices_Clone_sl_int_int.bd : Try.f64.body.isNone = false := by kernel_rfl
theorem slices_Contains_sl_int_int.at : Try.prog.funcs[83]? = some Try.f83 := by kernel_rfl
theorem slices_Contains_sl_int_int.nm : (Try.f83.name == "runtime.NumGoroutine") = false := by kernel_rfl
theorem slices_Contains_sl_int_int.bd : Try.f83.body.isNone = false := by kernel_rfl
theorem slices_IndexFunc_sl_int_int.at : Try.prog.funcs[89]? = some Try.f89 := by kernel_rfl
theorem slices_IndexFunc_sl_int_int.nm : (Try.f89.name == "runtime.NumGoroutine") = false := by kernel_rfl
theorem slices_IndexFunc_sl_int_int.bd : Try.f89.body.isNone = false := by kernel_rfl
theorem slices_ContainsFunc_sl_int_int.at : Try.prog.funcs[99]? = some Try.f99 := by kernel_rfl
theorem slices_ContainsFunc_sl_int_int.nm : (Try.f99.name == "runtime.NumGoroutine") = false := by kernel_rfl
theorem slices_ContainsFunc_sl_int_int.bd : Try.f99.body.isNone = false := by kernel_rfl
theorem slices_Index_sl_int_int.at : Try.prog.funcs[110]? = some Try.f110 := by kernel_rfl
theorem slices_Index_sl_int_int.nm : (Try.f110.name == "runtime.NumGoroutine") = false := by kernel_rfl
theorem slices_Index_sl_int_int.bd : Try.f110.body.isNone = false := by kernel_rfl
theorem slices_Compact_sl_int_int.at : Try.prog.funcs[111]? = some Try.f111 := by kernel_rfl
theorem slices_Compact_sl_int_int.nm : (Try.f111.name == "runtime.NumGoroutine") = false := by kernel_rfl
theorem slices_Compact_sl_int_int.bd : Try.f111.body.isNone = false := by kernel_rfl
end Lam
namespace Lam
open Go Go.Proofs
set_option linter.unusedVariables false
def fast_Slots.loops : Nat → LInfo
  | 1 => ⟨[], [], [], [(4, none), (5, some [10, 15])], [], []⟩
  | _ => ⟨[], [], [], [], [], []⟩
def fast_Slots.H (c : Ctx) (t0 : AV) (t1 : AV) (h : List AObj) (K : AOut → List AObj → Prop) : Prop :=
  callW false c (.fn (.func 88) [] []) [t1] h (fun t8 h =>
  runD (unD .not t8) h fun t9 h =>
  joinW (fun (J1 : AV → AV → List AObj → Prop) =>
  guardW t9 false
  (runD (binD T_int .add t1 (.int .i64 16)) h fun t12 h =>
    runD (lenD T_sl_int h t0) h fun t14 h =>
    runD (binD T_int .gtr t12 t14) h fun t15 h =>
    J1 (.bool false) t15 h)
  (J1 (.bool true) .und h))
  (fun t10 t15 h => runD (pickD t10 (.bool true) t15) h fun t16 h =>
  condW t16
  (K (.ret (.sl true (.ints .i64 []))) h)
  (runD (binD T_int .add t1 (.int .i64 3)) h fun t19 h =>
  runD (binD T_int .add t1 (.int .i64 16)) h fun t21 h =>
  runD (binD T_int .add t1 (.int .i64 16)) h fun t23 h =>
  runD (sliceD T_sl_int h t0 (some t19) (some t21) (some t23)) h fun t24 h =>
  callW false c (.fn (.func 89) [] []) [t24, (.fn (.func 90) [] [])] h (fun t26 h =>
  runD (binD T_int .lss t26 (.int .i64 0)) h fun t28 h =>
  joinW (fun (J2 : AV → List AObj → Prop) =>
  condW t28
  (runD (lenD T_sl_int h t24) h fun t30 h =>
    J2 t30 h)
  (J2 t26 h))
  (fun t6 h => runD (sliceD T_sl_int h t24 none (some t6) none) h fun t33 h =>
  callW false c (.fn (.func 64) [] []) [t33] h (fun t34 h =>
  K (.ret t34) h)
  (fun v h => K (.pan v) h)))
  (fun v h => K (.pan v) h))))
  (fun v h => K (.pan v) h)
def fast_Place.loops : Nat → LInfo
  | 1 => ⟨[], [], [], [(4, none), (2, some [8, 10]), (2, none), (2, some [12, 14])], [], []⟩
  | _ => ⟨[], [], [], [], [], []⟩
def fast_Place.H (c : Ctx) (t0 : AV) (t1 : AV) (h : List AObj) (K : AOut → List AObj → Prop) : Prop :=
  callW false c (.fn (.func 88) [] []) [t0] h (fun t6 h =>
  runD (unD .not t6) h fun t7 h =>
  joinW (fun (J1 : AV → AV → List AObj → Prop) =>
  guardW t7 false
  (runD (binD T_int .lss t1 (.int .i64 0)) h fun t10 h =>
    J1 (.bool false) t10 h)
  (J1 (.bool true) .und h))
  (fun t8 t10 h => runD (pickD t8 (.bool true) t10) h fun t11 h =>
  joinW (fun (J2 : AV → AV → List AObj → Prop) =>
  guardW t11 false
  (runD (binD T_int .geq t1 (.int .i64 13)) h fun t14 h =>
    J2 (.bool false) t14 h)
  (J2 (.bool true) .und h))
  (fun t12 t14 h => runD (pickD t12 (.bool true) t14) h fun t15 h =>
  condW t15
  (K (.ret (.int .i64 (-1))) h)
  (runD (binD T_int .add t0 (.int .i64 3)) h fun t17 h =>
  runD (binD T_int .add t17 t1) h fun t19 h =>
  K (.ret t19) h))))
  (fun v h => K (.pan v) h)
def fast_Plain.loops : Nat → LInfo
  | _ => ⟨[], [], [], [], [], []⟩
def fast_Plain.H (c : Ctx) (t0 : AV) (h : List AObj) (K : AOut → List AObj → Prop) : Prop :=
  callW false c (.fn (.func 64) [] []) [t0] h (fun t4 h =>
  callW false c (.fn (.func 111) [] []) [t4] h (fun t5 h =>
  K (.ret t5) h)
  (fun v h => K (.pan v) h))
  (fun v h => K (.pan v) h)
def fast_node.loops : Nat → LInfo
  | 1 => ⟨[], [], [], [(3, none), (3, some [5, 8]), (2, none), (3, some [10, 13])], [], []⟩
  | _ => ⟨[], [], [], [], [], []⟩
def fast_node.H (c : Ctx) (t0 : AV) (h : List AObj) (K : AOut → List AObj → Prop) : Prop :=
  runD (binD T_int .geq t0 (.int .i64 0)) h fun t4 h =>
  joinW (fun (J1 : AV → AV → List AObj → Prop) =>
  guardW t4 true
  (runD (binD T_int .add t0 (.int .i64 16)) h fun t7 h =>
    runD (binD T_int .leq t7 (.int .i64 4096)) h fun t8 h =>
    J1 (.bool true) t8 h)
  (J1 (.bool false) .und h))
  (fun t5 t8 h => runD (pickD t5 t8 (.bool false)) h fun t9 h =>
  joinW (fun (J2 : AV → AV → List AObj → Prop) =>
  guardW t9 true
  (runD (binD T_int .rem t0 (.int .i64 16)) h fun t12 h =>
    runD (binD T_int .eql t12 (.int .i64 0)) h fun t13 h =>
    J2 (.bool true) t13 h)
  (J2 (.bool false) .und h))
  (fun t10 t13 h => runD (pickD t10 t13 (.bool false)) h fun t14 h =>
  K (.ret t14) h))
def fast_Slots_1.loops : Nat → LInfo
  | _ => ⟨[], [], [], [], [], []⟩
def fast_Slots_1.H (c : Ctx) (t0 : AV) (h : List AObj) (K : AOut → List AObj → Prop) : Prop :=
  runD (binD T_int .lss t0 (.int .i64 1)) h fun t4 h =>
  K (.ret t4) h
def fast_may_1.loops : Nat → LInfo
  | _ => ⟨[], [], [], [], [], []⟩
def fast_may_1.H (c : Ctx) (t0 : AV) (h : List AObj) (K : AOut → List AObj → Prop) : Prop :=
  runD (binD T_int .lss t0 (.int .i64 1)) h fun t4 h =>
  K (.ret t4) h
theorem fast_Slots.eq (F : List (FuncId × Contract)) (S : List (FuncId × Con)) (t0 t1 : AV) (h : List AObj) (K : AOut → List AObj → Prop) : funW (ctx F S fast_Slots.loops) Try.f58 [t0, t1] h K = fast_Slots.H (ctx F S fast_Slots.loops) t0 t1 h K := by kernel_rfl
theorem fast_Place.eq (F : List (FuncId × Contract)) (S : List (FuncId × Con)) (t0 t1 : AV) (h : List AObj) (K : AOut → List AObj → Prop) : funW (ctx F S fast_Place.loops) Try.f63 [t0, t1] h K = fast_Place.H (ctx F S fast_Place.loops) t0 t1 h K := by kernel_rfl
theorem fast_Plain.eq (F : List (FuncId × Contract)) (S : List (FuncId × Con)) (t0 : AV) (h : List AObj) (K : AOut → List AObj → Prop) : funW (ctx F S fast_Plain.loops) Try.f84 [t0] h K = fast_Plain.H (ctx F S fast_Plain.loops) t0 h K := by kernel_rfl
theorem fast_node.eq (F : List (FuncId × Contract)) (S : List (FuncId × Con)) (t0 : AV) (h : List AObj) (K : AOut → List AObj → Prop) : funW (ctx F S fast_node.loops) Try.f88 [t0] h K = fast_node.H (ctx F S fast_node.loops) t0 h K := by kernel_rfl
theorem fast_Slots_1.eq (F : List (FuncId × Contract)) (S : List (FuncId × Con)) (t0 : AV) (h : List AObj) (K : AOut → List AObj → Prop) : funW (ctx F S fast_Slots_1.loops) Try.f90 [t0] h K = fast_Slots_1.H (ctx F S fast_Slots_1.loops) t0 h K := by kernel_rfl
theorem fast_may_1.eq (F : List (FuncId × Contract)) (S : List (FuncId × Con)) (t0 : AV) (h : List AObj) (K : AOut → List AObj → Prop) : funW (ctx F S fast_may_1.loops) Try.f106 [t0] h K = fast_may_1.H (ctx F S fast_may_1.loops) t0 h K := by kernel_rfl
theorem fast_Slots.at : Try.prog.funcs[58]? = some Try.f58 := by kernel_rfl
theorem fast_Slots.nm : (Try.f58.name == "runtime.NumGoroutine") = false := by kernel_rfl
theorem fast_Slots.bd : Try.f58.body.isNone = false := by kernel_rfl
theorem fast_Place.at : Try.prog.funcs[63]? = some Try.f63 := by kernel_rfl
theorem fast_Place.nm : (Try.f63.name == "runtime.NumGoroutine") = false := by kernel_rfl
theorem fast_Place.bd : Try.f63.body.isNone = false := by kernel_rfl
theorem fast_Plain.at : Try.prog.funcs[84]? = some Try.f84 := by kernel_rfl
theorem fast_Plain.nm : (Try.f84.name == "runtime.NumGoroutine") = false := by kernel_rfl
theorem fast_Plain.bd : Try.f84.body.isNone = false := by kernel_rfl
theorem fast_node.at : Try.prog.funcs[88]? = some Try.f88 := by kernel_rfl
theorem fast_node.nm : (Try.f88.name == "runtime.NumGoroutine") = false := by kernel_rfl
theorem fast_node.bd : Try.f88.body.isNone = false := by kernel_rfl
theorem fast_Slots_1.at : Try.prog.funcs[90]? = some Try.f90 := by kernel_rfl
theorem fast_Slots_1.nm : (Try.f90.name == "runtime.NumGoroutine") = false := by kernel_rfl
theorem fast_Slots_1.bd : Try.f90.body.isNone = false := by kernel_rfl
theorem fast_may_1.at : Try.prog.funcs[106]? = some Try.f106 := by kernel_rfl
theorem fast_may_1.nm : (Try.f106.name == "runtime.NumGoroutine") = false := by kernel_rfl
theorem fast_may_1.bd : Try.f106.body.isNone = false := by kernel_rfl
end Lam
namespace Lam
open Go Go.Proofs
set_option linter.unusedVariables false
def node_Read.loops : Nat → LInfo
  | 1 => ⟨[], [], [], [(3, none), (5, some [12, 17])], [], []⟩
  | 6 => ⟨[], [], [], [(3, none), (4, some [52, 56])], [], []⟩
  | _ => ⟨[], [], [], [], [], []⟩
def node_Read.H (c : Ctx) (t0 : AV) (t1 : AV) (h : List AObj) (K : AOut → List AObj → Prop) : Prop :=
  allocW T_api_Node h fun t4 h =>
  runD (binD T_int .lss t1 (.int .i64 0)) h fun t11 h =>
  joinW (fun (J1 : AV → AV → List AObj → Prop) =>
  guardW t11 false
  (runD (lenD T_sl_int h t0) h fun t15 h =>
    runD (binD T_int .quo t15 (.int .i64 16)) h fun t16 h =>
    runD (binD T_int .geq t1 t16) h fun t17 h =>
    J1 (.bool false) t17 h)
  (J1 (.bool true) .und h))
  (fun t12 t17 h => runD (pickD t12 (.bool true) t17) h fun t18 h =>
  condW t18
  (runD (buildD T_api_Node []) h fun t19 h =>
    runH (storeH T_api_Node h t4 t19) h fun _ h =>
    loadRes (fitD T_api_Node (loadD h t4)) fun r0 => K (.ret (.tup [r0, (.int .i64 1)])) h)
  (runD (binD T_int .mul (.int .i64 16) t1) h fun t22 h =>
  runD (binD T_int .add t1 (.int .i64 1)) h fun t24 h =>
  runD (binD T_int .mul (.int .i64 16) t24) h fun t25 h =>
  runD (sliceD T_sl_int h t0 (some t22) (some t25) none) h fun t26 h =>
  runD (indexAddrD T_sl_int h t26 (.int .i64 0)) h fun t28 h =>
  runD (fitD T_int (loadD h t28)) h fun t29 h =>
  runD (binD T_int .and t29 (.int .i64 15)) h fun t30 h =>
  runD (indexAddrD T_sl_int h t26 (.int .i64 0)) h fun t32 h =>
  runD (fitD T_int (loadD h t32)) h fun t33 h =>
  runD (binD T_int .andNot t33 (.int .i64 1152921504606846976)) h fun t34 h =>
  runD (binD T_int .shr t34 (.int .u64 4)) h fun t35 h =>
  runD (indexAddrD T_sl_int h t26 (.int .i64 1)) h fun t37 h =>
  runD (fitD T_int (loadD h t37)) h fun t38 h =>
  runD (indexAddrD T_sl_int h t26 (.int .i64 2)) h fun t40 h =>
  runD (fitD T_int (loadD h t40)) h fun t41 h =>
  callW false c.noS (.fn (.func 58) [] []) [t26, (.int .i64 0)] h (fun t43 h =>
  runD (buildD T_api_Node [(0, t30), (1, t35), (2, t38), (3, t41), (4, t43)]) h fun t44 h =>
  allocW T_api_Node h fun t7 h =>
  runH (storeH T_api_Node h t7 t44) h fun _ h =>
  runD (fitD T_api_Node (loadD h t7)) h fun t46 h =>
  callW false c (.fn (.func 35) [] []) [t46] h (fun t47 h =>
  runD (extractD t47 0) h fun t48 h =>
  runD (extractD t47 1) h fun t49 h =>
  runD (binD T_api_Errno .neq t49 (.int .i64 0)) h fun t51 h =>
  joinW (fun (J2 : AV → AV → List AObj → Prop) =>
  guardW t51 false
  (callW false c (.fn (.func 59) [] []) [t48, t26] h (fun t55 h =>
    runD (unD .not t55) h fun t56 h =>
    J2 (.bool false) t56 h)
    (fun v h => K (.pan v) h))
  (J2 (.bool true) .und h))
  (fun t52 t56 h => runD (pickD t52 (.bool true) t56) h fun t57 h =>
  condW t57
  (runD (buildD T_api_Node []) h fun t58 h =>
    runH (storeH T_api_Node h t4 t58) h fun _ h =>
    loadRes (fitD T_api_Node (loadD h t4)) fun r0 => K (.ret (.tup [r0, (.int .i64 90)])) h)
  (runD (fitD T_api_Node (loadD h t7)) h fun t59 h =>
  runH (storeH T_api_Node h t4 t59) h fun _ h =>
  loadRes (fitD T_api_Node (loadD h t4)) fun r0 => K (.ret (.tup [r0, (.int .i64 0)])) h)))
  (fun v h => K (.pan v) h))
  (fun _ _ => False)))
def node_Words.loops : Nat → LInfo
  | _ => ⟨[], [], [], [], [], []⟩
def node_Words.H (c : Ctx) (t0 : AV) (h : List AObj) (K : AOut → List AObj → Prop) : Prop :=
  boxW T_api_Node t0 h fun t1 h =>
  runD (fitD T_api_Node (loadD h t1)) h fun t5 h =>
  callW false c (.fn (.func 71) [] []) [t5] h (fun t6 h =>
  runD (unD .not t6) h fun t7 h =>
  condW t7
  (K (.ret (.tup [(.sl true (.ints .i64 [])), (.int .i64 90)])) h)
  (runD (makeSliceD T_sl_int (.int .i64 16) (.int .i64 16) h.length) h fun t8 h =>
  runD (fitD T_api_Node (loadD h t1)) h fun t12 h =>
  callW false c.noS (.fn (.func 72) [] []) [t12] h (fun t13 h =>
  runD (fieldAddrD T_api_Node t1 2) h fun t14 h =>
  runD (fitD T_int (loadD h t14)) h fun t15 h =>
  runD (fieldAddrD T_api_Node t1 3) h fun t16 h =>
  runD (fitD T_int (loadD h t16)) h fun t17 h =>
  runD (indexAddrD T_sl_int h t8 (.int .i64 0)) h fun t18 h =>
  runH (storeH T_int h t18 t13) h fun _ h =>
  runD (indexAddrD T_sl_int h t8 (.int .i64 1)) h fun t19 h =>
  runH (storeH T_int h t19 t15) h fun _ h =>
  runD (indexAddrD T_sl_int h t8 (.int .i64 2)) h fun t20 h =>
  runH (storeH T_int h t20 t17) h fun _ h =>
  sepB t18 [t14] = true ∧ sepB t18 [t16] = true ∧ sepB t19 [t16] = true ∧ runD (sliceD T_sl_int h t8 (some (.int .i64 3)) none none) h fun t22 h =>
  runD (fieldAddrD T_api_Node t1 4) h fun t23 h =>
  runD (fitD T_sl_int (loadD h t23)) h fun t24 h =>
  runM (copyH T_sl_int h t22 t24) h fun t25 h =>
  K (.ret (.tup [t8, (.int .i64 0)])) h)
  (fun _ _ => False)))
  (fun v h => K (.pan v) h)
def node_Check.loops : Nat → LInfo
  | 10 => ⟨[], [], [], [(2, none), (4, some [32, 36])], [], []⟩
  | _ => ⟨[], [], [], [], [], []⟩
def node_Check.H (c : Ctx) (t0 : AV) (h : List AObj) (K : AOut → List AObj → Prop) : Prop :=
  boxW T_api_Node t0 h fun t1 h =>
  joinW (fun (J1 : AV → List AObj → Prop) =>
  joinW (fun (J2 : List AObj → Prop) =>
  joinW (fun (J3 : List AObj → Prop) =>
  runD (fieldAddrD T_api_Node t1 0) h fun t5 h =>
  runD (fitD T_int (loadD h t5)) h fun t6 h =>
  runD (binD T_int .lss t6 (.int .i64 0)) h fun t7 h =>
  joinW (fun (J4 : AV → List AObj → Prop) =>
  condW t7
  (J4 t7 h)
  (runD (fieldAddrD T_api_Node t1 0) h fun t8 h =>
    runD (fitD T_int (loadD h t8)) h fun t9 h =>
    runD (binD T_int .gtr t9 (.int .i64 9)) h fun t10 h =>
    J4 t10 h))
  (fun t4 h => condW t4
  (J3 h)
  (runD (fieldAddrD T_api_Node t1 1) h fun t12 h =>
  runD (fitD T_int (loadD h t12)) h fun t13 h =>
  runD (binD T_int .lss t13 (.int .i64 0)) h fun t14 h =>
  joinW (fun (J5 : AV → List AObj → Prop) =>
  condW t14
  (J5 t14 h)
  (runD (fieldAddrD T_api_Node t1 1) h fun t15 h =>
    runD (fitD T_int (loadD h t15)) h fun t16 h =>
    runD (binD T_int .gtr t16 (.int .i64 1099511627776)) h fun t17 h =>
    J5 t17 h))
  (fun t11 h => condW t11
  (J3 h)
  (runD (fieldAddrD T_api_Node t1 2) h fun t19 h =>
  runD (fitD T_int (loadD h t19)) h fun t20 h =>
  callW false c (.fn (.func 98) [] []) [t20] h (fun t21 h =>
  runD (unD .not t21) h fun t22 h =>
  joinW (fun (J6 : AV → List AObj → Prop) =>
  condW t22
  (J6 t22 h)
  (runD (fieldAddrD T_api_Node t1 3) h fun t23 h =>
    runD (fitD T_int (loadD h t23)) h fun t24 h =>
    callW false c (.fn (.func 98) [] []) [t24] h (fun t25 h =>
    runD (unD .not t25) h fun t26 h =>
    joinW (fun (J7 : AV → List AObj → Prop) =>
    condW t26
    (J7 t26 h)
    (runD (fieldAddrD T_api_Node t1 4) h fun t27 h =>
      runD (fitD T_sl_int (loadD h t27)) h fun t28 h =>
      runD (lenD T_sl_int h t28) h fun t29 h =>
      runD (binD T_int .gtr t29 (.int .i64 13)) h fun t30 h =>
      J7 t30 h))
    (fun t18 h => J6 t18 h))
    (fun v h => K (.pan v) h)))
  (fun t18 h => condW t18
  (J2 h)
  (J1 (.bool true) h)))
  (fun v h => K (.pan v) h))))))
  (fun h => J2 h))
  (fun h => J1 (.bool false) h))
  (fun t3 h => joinW (fun (J8 : AV → AV → List AObj → Prop) =>
  guardW t3 true
  (runD (fieldAddrD T_api_Node t1 4) h fun t33 h =>
    runD (fitD T_sl_int (loadD h t33)) h fun t34 h =>
    callW false c (.fn (.func 99) [] []) [t34, (.fn (.func 100) [] [])] h (fun t35 h =>
    runD (unD .not t35) h fun t36 h =>
    J8 (.bool true) t36 h)
    (fun v h => K (.pan v) h))
  (J8 (.bool false) .und h))
  (fun t32 t36 h => runD (pickD t32 t36 (.bool false)) h fun t37 h =>
  K (.ret t37) h))
def node_first.loops : Nat → LInfo
  | _ => ⟨[], [], [], [], [], []⟩
def node_first.H (c : Ctx) (t0 : AV) (h : List AObj) (K : AOut → List AObj → Prop) : Prop :=
  boxW T_api_Node t0 h fun t1 h =>
  runD (fieldAddrD T_api_Node t1 1) h fun t3 h =>
  runD (fitD T_int (loadD h t3)) h fun t4 h =>
  runD (binD T_int .shl t4 (.int .u64 4)) h fun t5 h =>
  runD (binD T_int .or (.int .i64 1152921504606846976) t5) h fun t6 h =>
  runD (fieldAddrD T_api_Node t1 0) h fun t7 h =>
  runD (fitD T_int (loadD h t7)) h fun t8 h =>
  runD (binD T_int .or t6 t8) h fun t9 h =>
  K (.ret t9) h
def node_block.loops : Nat → LInfo
  | 1 => ⟨[], [], [], [(3, none), (2, some [5, 7])], [], []⟩
  | _ => ⟨[], [], [], [], [], []⟩
def node_block.H (c : Ctx) (t0 : AV) (h : List AObj) (K : AOut → List AObj → Prop) : Prop :=
  runD (binD T_int .geq t0 (.int .i64 0)) h fun t4 h =>
  joinW (fun (J1 : AV → AV → List AObj → Prop) =>
  guardW t4 true
  (runD (binD T_int .lss t0 (.int .i64 256)) h fun t7 h =>
    J1 (.bool true) t7 h)
  (J1 (.bool false) .und h))
  (fun t5 t7 h => runD (pickD t5 t7 (.bool false)) h fun t8 h =>
  K (.ret t8) h)
def node_Check_1.loops : Nat → LInfo
  | 1 => ⟨[], [], [], [(3, none), (3, some [5, 8])], [], []⟩
  | _ => ⟨[], [], [], [], [], []⟩
def node_Check_1.H (c : Ctx) (t0 : AV) (h : List AObj) (K : AOut → List AObj → Prop) : Prop :=
  runD (binD T_int .eql t0 (.int .i64 0)) h fun t4 h =>
  joinW (fun (J1 : AV → AV → List AObj → Prop) =>
  guardW t4 false
  (callW false c (.fn (.func 98) [] []) [t0] h (fun t7 h =>
    runD (unD .not t7) h fun t8 h =>
    J1 (.bool false) t8 h)
    (fun v h => K (.pan v) h))
  (J1 (.bool true) .und h))
  (fun t5 t8 h => runD (pickD t5 (.bool true) t8) h fun t9 h =>
  K (.ret t9) h)
theorem node_Read.eq (F : List (FuncId × Contract)) (S : List (FuncId × Con)) (t0 t1 : AV) (h : List AObj) (K : AOut → List AObj → Prop) : funW (ctx F S node_Read.loops) Try.f23 [t0, t1] h K = node_Read.H (ctx F S node_Read.loops) t0 t1 h K := by kernel_rfl
theorem node_Words.eq (F : List (FuncId × Contract)) (S : List (FuncId × Con)) (t0 : AV) (h : List AObj) (K : AOut → List AObj → Prop) : funW (ctx F S node_Words.loops) Try.f35 [t0] h K = node_Words.H (ctx F S node_Words.loops) t0 h K := by kernel_rfl
theorem node_Check.eq (F : List (FuncId × Contract)) (S : List (FuncId × Con)) (t0 : AV) (h : List AObj) (K : AOut → List AObj → Prop) : funW (ctx F S node_Check.loops) Try.f71 [t0] h K = node_Check.H (ctx F S node_Check.loops) t0 h K := by kernel_rfl
theorem node_first.eq (F : List (FuncId × Contract)) (S : List (FuncId × Con)) (t0 : AV) (h : List AObj) (K : AOut → List AObj → Prop) : funW (ctx F S node_first.loops) Try.f72 [t0] h K = node_first.H (ctx F S node_first.loops) t0 h K := by kernel_rfl
theorem node_block.eq (F : List (FuncId × Contract)) (S : List (FuncId × Con)) (t0 : AV) (h : List AObj) (K : AOut → List AObj → Prop) : funW (ctx F S node_block.loops) Try.f98 [t0] h K = node_block.H (ctx F S node_block.loops) t0 h K := by kernel_rfl
theorem node_Check_1.eq (F : List (FuncId × Contract)) (S : List (FuncId × Con)) (t0 : AV) (h : List AObj) (K : AOut → List AObj → Prop) : funW (ctx F S node_Check_1.loops) Try.f100 [t0] h K = node_Check_1.H (ctx F S node_Check_1.loops) t0 h K := by kernel_rfl
theorem node_Read.at : Try.prog.funcs[23]? = some Try.f23 := by kernel_rfl
theorem node_Read.nm : (Try.f23.name == "runtime.NumGoroutine") = false := by kernel_rfl
theorem node_Read.bd : Try.f23.body.isNone = false := by kernel_rfl
theorem node_Words.at : Try.prog.funcs[35]? = some Try.f35 := by kernel_rfl
theorem node_Words.nm : (Try.f35.name == "runtime.NumGoroutine") = false := by kernel_rfl
theorem node_Words.bd : Try.f35.body.isNone = false := by kernel_rfl
theorem node_Check.at : Try.prog.funcs[71]? = some Try.f71 := by kernel_rfl
theorem node_Check.nm : (Try.f71.name == "runtime.NumGoroutine") = false := by kernel_rfl
theorem node_Check.bd : Try.f71.body.isNone = false := by kernel_rfl
theorem node_first.at : Try.prog.funcs[72]? = some Try.f72 := by kernel_rfl
theorem node_first.nm : (Try.f72.name == "runtime.NumGoroutine") = false := by kernel_rfl
theorem node_first.bd : Try.f72.body.isNone = false := by kernel_rfl
theorem node_block.at : Try.prog.funcs[98]? = some Try.f98 := by kernel_rfl
theorem node_block.nm : (Try.f98.name == "runtime.NumGoroutine") = false := by kernel_rfl
theorem node_block.bd : Try.f98.body.isNone = false := by kernel_rfl
theorem node_Check_1.at : Try.prog.funcs[100]? = some Try.f100 := by kernel_rfl
theorem node_Check_1.nm : (Try.f100.name == "runtime.NumGoroutine") = false := by kernel_rfl
theorem node_Check_1.bd : Try.f100.body.isNone = false := by kernel_rfl
end Lam
namespace Lam
open Go Go.Proofs
set_option linter.unusedVariables false
end Lam
namespace Lam
open Go Go.Proofs
set_option linter.unusedVariables false
set_option linter.unnecessarySimpa false
set_option linter.unusedSimpArgs false
def slices_Clone_sl_int_int.C : Contract
  | [.sl _ (.ints .i64 l)] => some (true, some (roomy l.length, .sref false 0 0 0 l.length, [.row .own 0 (.ints .i64 l)]))
  | _ => none
set_option maxRecDepth 20000 in
theorem slices_Clone_sl_int_int.spec : FSpec Try.prog 64 slices_Clone_sl_int_int.C := by
  refine FSpec.of (ctx_ok (F := []) (S := []) (by simp) (by simp) slices_Clone_sl_int_int.loops) slices_Clone_sl_int_int.at slices_Clone_sl_int_int.nm slices_Clone_sl_int_int.bd ?_
  intro vs b S v news e hS
  unfold slices_Clone_sl_int_int.C at e
  split at e
  rotate_left
  · cases e
  cases e
  rw [slices_Clone_sl_int_int.eq]
  unfold slices_Clone_sl_int_int.H
  simp (maxSteps := 4000000) only [go_sem, Nat.reduceEqDiff, Nat.reduceLT, Nat.reduceAdd, Nat.reduceSub, Nat.reduceLeDiff, List.reduceReplicate, Int.reduceToNat]
  rename_i l
  intro b hb
  refine ⟨fun h => ?_, fun h => ⟨hS, post_row rfl (by simp)⟩⟩
  have : l = [] := List.eq_nil_of_length_eq_zero (hb h)
  subst this
  exact post_nil rfl
def slices_Equal_sl_int_int.C : Contract
  | [.sl _ (.ints .i64 a), .sl _ (.ints .i64 b)] => some (false, pD (roomy a.length) (.bool (decide (a = b))))
  | _ => none
set_option maxRecDepth 20000 in
theorem slices_Equal_sl_int_int.spec : FSpec Try.prog 59 slices_Equal_sl_int_int.C := by
  refine FSpec.of (ctx_ok (F := []) (S := []) (by simp) (by simp) slices_Equal_sl_int_int.loops) slices_Equal_sl_int_int.at slices_Equal_sl_int_int.nm slices_Equal_sl_int_int.bd ?_
  intro vs b S v news e hS
  unfold slices_Equal_sl_int_int.C at e
  split at e
  rotate_left
  · cases e
  cases e
  rw [slices_Equal_sl_int_int.eq]
  unfold slices_Equal_sl_int_int.H
  simp (maxSteps := 4000000) only [go_sem, Nat.reduceEqDiff, Nat.reduceLT, Nat.reduceAdd, Nat.reduceSub, Nat.reduceLeDiff, List.reduceReplicate, Int.reduceToNat]
  rename_i a _ b
  unfold roomy at hS
  refine ⟨fun hne => ?_, fun heq => ?_⟩
  · have : decide (a = b) = false := by rw [decide_eq_false_iff_not]; rintro rfl; exact hne rfl
    rw [this]; exact post_val rfl rfl
  rw [joinW_eq]
  unfold slices_Equal_sl_int_int.L1
  have hlen : a.length = b.length := by omega
  refine ⟨fun m lv h' => ∃ k : Nat, k + m = a.length ∧ lv = [.int .i64 k] ∧ h' = [] ∧ ∀ i, i < k → a.getD i 0 = b.getD i 0, ⟨a.length, 0, by omega, rfl, rfl, fun i hi => by omega⟩, ?_⟩
  rintro m h' t8 ⟨k, hk, hlv, rfl, hall⟩
  simp only [List.cons.injEq, and_true] at hlv
  subst hlv
  simp only [go_sem, Nat.reduceEqDiff, Nat.reduceLT, Nat.reduceAdd, Nat.reduceSub, Nat.reduceLeDiff, List.reduceReplicate, Int.reduceToNat]
  refine ⟨fun hlt => ⟨by omega, by omega, fun h0 => ?_, fun h0 => ?_⟩, fun hge => ?_⟩
  · have : decide (a = b) = false := by rw [decide_eq_false_iff_not]; rintro rfl; exact h0 rfl
    rw [this]; exact post_val rfl rfl
  · refine ⟨m - 1, by omega, k + 1, by omega, by rw [w64 (by omega) (by omega)]; rfl, ?_⟩
    intro i hi
    by_cases e : i = k
    · subst e; exact h0
    · exact hall i (by omega)
  · have : a = b := by
      apply List.ext_getElem hlen
      intro i h1 h2
      have := hall i (by omega)
      rw [List.getD_eq_getElem?_getD, List.getD_eq_getElem?_getD, List.getElem?_eq_getElem h1, List.getElem?_eq_getElem h2] at this
      exact this
    rw [decide_eq_true this]; exact post_val rfl rfl

end Lam
namespace Lam
open Go Go.Proofs
set_option linter.unusedVariables false
set_option linter.unnecessarySimpa false
set_option linter.unusedSimpArgs false
def fast_may_1.C : Contract
  | [.int .i64 n] => some (false, pD True (.bool (lt1 n)))
  | _ => none
set_option maxRecDepth 20000 in
theorem fast_may_1.spec : FSpec Try.prog 106 fast_may_1.C := by
  refine FSpec.of (ctx_ok (F := []) (S := []) (by simp) (by simp) fast_may_1.loops) fast_may_1.at fast_may_1.nm fast_may_1.bd ?_
  intro vs b S v news e hS
  unfold fast_may_1.C at e
  split at e
  rotate_left
  · cases e
  cases e
  rw [fast_may_1.eq]
  unfold fast_may_1.H
  simp (maxSteps := 4000000) only [go_sem, Nat.reduceEqDiff, Nat.reduceLT, Nat.reduceAdd, Nat.reduceSub, Nat.reduceLeDiff, List.reduceReplicate, Int.reduceToNat]
  exact post_val rfl rfl
def fast_Slots_1.C : Contract
  | [.int .i64 n] => some (false, pD True (.bool (lt1 n)))
  | _ => none
set_option maxRecDepth 20000 in
theorem fast_Slots_1.spec : FSpec Try.prog 90 fast_Slots_1.C := by
  refine FSpec.of (ctx_ok (F := []) (S := []) (by simp) (by simp) fast_Slots_1.loops) fast_Slots_1.at fast_Slots_1.nm fast_Slots_1.bd ?_
  intro vs b S v news e hS
  unfold fast_Slots_1.C at e
  split at e
  rotate_left
  · cases e
  cases e
  rw [fast_Slots_1.eq]
  unfold fast_Slots_1.H
  simp (maxSteps := 4000000) only [go_sem, Nat.reduceEqDiff, Nat.reduceLT, Nat.reduceAdd, Nat.reduceSub, Nat.reduceLeDiff, List.reduceReplicate, Int.reduceToNat]
  exact post_val rfl rfl
def node_block.C : Contract
  | [.int .i64 n] => some (false, pD True (.bool (blockB n)))
  | _ => none
set_option maxRecDepth 20000 in
theorem node_block.spec : FSpec Try.prog 98 node_block.C := by
  refine FSpec.of (ctx_ok (F := []) (S := []) (by simp) (by simp) node_block.loops) node_block.at node_block.nm node_block.bd ?_
  intro vs b S v news e hS
  unfold node_block.C at e
  split at e
  rotate_left
  · cases e
  cases e
  rw [node_block.eq]
  unfold node_block.H
  simp (maxSteps := 4000000) only [go_sem, Nat.reduceEqDiff, Nat.reduceLT, Nat.reduceAdd, Nat.reduceSub, Nat.reduceLeDiff, List.reduceReplicate, Int.reduceToNat]
  exact post_val rfl rfl
def node_Check_1.C : Contract
  | [.int .i64 n] => some (false, pD True (.bool (noBlock n)))
  | _ => none
set_option maxRecDepth 20000 in
theorem node_Check_1.spec : FSpec Try.prog 100 node_Check_1.C := by
  refine FSpec.of (ctx_ok (F := [(98, node_block.C)]) (S := []) (by simpa using node_block.spec) (by simp) node_Check_1.loops) node_Check_1.at node_Check_1.nm node_Check_1.bd ?_
  intro vs b S v news e hS
  unfold node_Check_1.C at e
  split at e
  rotate_left
  · cases e
  cases e
  rw [node_Check_1.eq]
  unfold node_Check_1.H
  simp (maxSteps := 4000000) only [go_sem, Nat.reduceEqDiff, Nat.reduceLT, Nat.reduceAdd, Nat.reduceSub, Nat.reduceLeDiff, List.reduceReplicate, Int.reduceToNat, node_block.C]
  exact post_val rfl rfl
theorem indexInts_vc (c : Ctx) (hd : c.drawn = false) (f : FuncId) (p : Int → Bool) (hf : ∀ n, c.envF f [.int .i64 n] = some (false, pD True (.bool (p n)))) (x : Bool) (l : List Int) (hr : roomy l.length) :
    slices_IndexFunc_sl_int_int.H c (.sl x (.ints .i64 l)) (.fn (.func f) [] []) [] (Post false (.int .i64 (idxI p l)) []) := by
  unfold roomy at hr
  unfold slices_IndexFunc_sl_int_int.H
  simp only [go_sem, Nat.reduceEqDiff, Nat.reduceLT, Nat.reduceAdd, Nat.reduceSub, Nat.reduceLeDiff, List.reduceReplicate, Int.reduceToNat]
  rw [joinW_eq]
  unfold slices_IndexFunc_sl_int_int.L1
  refine loop1 (σ := Nat) (fun k => .int .i64 k) (fun k => []) (fun k => l.length - k) (fun k => k ≤ l.length ∧ ∀ y ∈ l.take k, p y = false) 0 rfl rfl ⟨Nat.zero_le _, by simp⟩ ?_
  rintro I back k ⟨hk, hall⟩
  simp only [hf, hd, go_sem, Nat.reduceEqDiff, Nat.reduceLT, Nat.reduceAdd, Nat.reduceSub, Nat.reduceLeDiff, List.reduceReplicate, Int.reduceToNat]
  refine ⟨fun hlt => ⟨by omega, fun h => ?_, fun h => ?_⟩, fun hge => ?_⟩
  · have hkl : k < l.length := by omega
    have h1 : l.any p = true := List.any_eq_true.2 ⟨_, getD_mem l k 0 hkl, h⟩
    have h2 : l.findIdx p = k := by
      rw [List.findIdx_eq hkl]
      refine ⟨by rw [List.getD_eq_getElem?_getD, List.getElem?_eq_getElem hkl] at h; exact h, fun j hj => ?_⟩
      have := hall l[j] (List.mem_take_iff_getElem.2 ⟨j, by omega, rfl⟩)
      simpa using this
    unfold idxI; rw [if_pos h1, h2]
    exact post_val rfl rfl
  · refine back (k + 1) (by omega) (by rw [wnext (by omega)]) rfl ⟨by omega, fun y hy => ?_⟩
    rw [take_next l k 0 (by omega), List.mem_append, List.mem_singleton] at hy
    rcases hy with hy | rfl
    · exact hall y hy
    · exact h
  · obtain rfl : k = l.length := by omega
    rw [List.take_length] at hall
    have h1 : ¬ l.any p = true := by
      rw [List.any_eq_true]; rintro ⟨y, hy, hp⟩; rw [hall y hy] at hp; cases hp
    unfold idxI; rw [if_neg h1]
    exact post_val rfl rfl
def predI (f : Nat) : Option (Int → Bool) :=
  if f = 106 then some lt1 else
  if f = 90 then some lt1 else
  if f = 100 then some noBlock else
  none
@[go_sem] theorem predI_fm : predI 106 = some lt1 := rfl
@[go_sem] theorem predI_fs : predI 90 = some lt1 := rfl
@[go_sem] theorem predI_nc : predI 100 = some noBlock := rfl
def slices_IndexFunc_sl_int_int.C : Contract
  | [.sl _ (.ints .i64 l), .fn (.func f) [] []] => match predI f with
    | some p => some (false, pD (roomy l.length) (.int .i64 (idxI p l)))
    | none => none
  | _ => none
theorem slices_IndexFunc_sl_int_int.spec : FSpec Try.prog 89 slices_IndexFunc_sl_int_int.C := by
  refine FSpec.of (ctx_ok (F := [(106, fast_may_1.C), (90, fast_Slots_1.C), (100, node_Check_1.C)]) (S := []) (by simpa using ⟨fast_may_1.spec, fast_Slots_1.spec, node_Check_1.spec⟩) (by simp) slices_IndexFunc_sl_int_int.loops) slices_IndexFunc_sl_int_int.at slices_IndexFunc_sl_int_int.nm slices_IndexFunc_sl_int_int.bd ?_
  intro vs b S v news e hS
  unfold slices_IndexFunc_sl_int_int.C at e
  split at e
  rotate_left
  · cases e
  rw [slices_IndexFunc_sl_int_int.eq]
  rename_i x l f
  split at e
  rotate_left
  · cases e
  rename_i p hp
  cases e
  refine indexInts_vc _ rfl f p (fun n => ?_) x l hS
  unfold predI at hp
  simp only [ctx_envF]
  repeat' split at hp
  all_goals first | (rename_i h; subst h; cases hp; rfl) | cases hp
def slices_ContainsFunc_sl_int_int.C : Contract
  | [.sl _ (.ints .i64 l), .fn (.func f) [] []] => match predI f with
    | some p => some (false, pD (roomy l.length) (.bool (l.any p)))
    | none => none
  | _ => none
theorem slices_ContainsFunc_sl_int_int.spec : FSpec Try.prog 99 slices_ContainsFunc_sl_int_int.C := by
  refine FSpec.of (ctx_ok (F := [(89, slices_IndexFunc_sl_int_int.C)]) (S := []) (by simpa using slices_IndexFunc_sl_int_int.spec) (by simp) slices_ContainsFunc_sl_int_int.loops) slices_ContainsFunc_sl_int_int.at slices_ContainsFunc_sl_int_int.nm slices_ContainsFunc_sl_int_int.bd ?_
  intro vs b S v news e hS
  unfold slices_ContainsFunc_sl_int_int.C at e
  split at e
  rotate_left
  · cases e
  rw [slices_ContainsFunc_sl_int_int.eq]
  rename_i x l f
  split at e
  rotate_left
  · cases e
  rename_i p hp
  cases e
  unfold slices_ContainsFunc_sl_int_int.H
  simp only [slices_IndexFunc_sl_int_int.C, hp, go_sem, Nat.reduceEqDiff, Nat.reduceLT, Nat.reduceAdd, Nat.reduceSub, Nat.reduceLeDiff, List.reduceReplicate, Int.reduceToNat]
  refine ⟨hS, ?_⟩
  have : decide (0 ≤ idxI p l) = l.any p := by
    unfold idxI
    cases h : l.any p
    · rfl
    · rw [if_pos rfl]; exact decide_eq_true (by omega)
  rw [this]; exact post_val rfl rfl
end Lam
namespace Lam
open Go Go.Proofs
set_option linter.unusedVariables false
set_option linter.unnecessarySimpa false
set_option linter.unusedSimpArgs false
end Lam
namespace Lam
open Go Go.Proofs
set_option linter.unusedVariables false
end Lam
namespace Lam
open Go Go.Proofs
set_option linter.unusedVariables false
set_option linter.unnecessarySimpa false
set_option linter.unusedSimpArgs false
end Lam
namespace Lam
open Go Go.Proofs
set_option linter.unusedVariables false
set_option linter.unnecessarySimpa false
set_option linter.unusedSimpArgs false
def fast_node.C : Contract
  | [.int .i64 b] => some (false, pD True (.bool (nodeB b)))
  | _ => none
set_option maxRecDepth 20000 in
theorem fast_node.spec : FSpec Try.prog 88 fast_node.C := by
  refine FSpec.of (ctx_ok (F := []) (S := []) (by simp) (by simp) fast_node.loops) fast_node.at fast_node.nm fast_node.bd ?_
  intro vs b S v news e hS
  unfold fast_node.C at e
  split at e
  rotate_left
  · cases e
  cases e
  rw [fast_node.eq]
  unfold fast_node.H
  simp (maxSteps := 4000000) only [go_sem, Nat.reduceEqDiff, Nat.reduceLT, Nat.reduceAdd, Nat.reduceSub, Nat.reduceLeDiff, List.reduceReplicate, Int.reduceToNat]
  exact ⟨fun _ => by decide, post_val rfl rfl⟩
def fast_Place.C : Contract
  | [.int .i64 b, .int .i64 s] => some (false, pD True (.int .i64 (placeI b s)))
  | _ => none
set_option maxRecDepth 20000 in
theorem fast_Place.spec : FSpec Try.prog 63 fast_Place.C := by
  refine FSpec.of (ctx_ok (F := [(88, fast_node.C)]) (S := []) (by simpa using fast_node.spec) (by simp) fast_Place.loops) fast_Place.at fast_Place.nm fast_Place.bd ?_
  intro vs b S v news e hS
  unfold fast_Place.C at e
  split at e
  rotate_left
  · cases e
  cases e
  rw [fast_Place.eq]
  unfold fast_Place.H
  simp (maxSteps := 4000000) only [go_sem, Nat.reduceEqDiff, Nat.reduceLT, Nat.reduceAdd, Nat.reduceSub, Nat.reduceLeDiff, List.reduceReplicate, Int.reduceToNat, fast_node.C]
  rename_i b s
  have e : (!nodeB b || decide (s < 0) || decide (13 ≤ s)) = !(nodeB b && decide (0 ≤ s) && decide (s < 13)) := by
    cases nodeB b
    · rfl
    · rw [Bool.eq_iff_iff]; simp only [Bool.and_eq_true, Bool.or_eq_true, Bool.not_eq_true', Bool.not_eq_false', Bool.not_eq_true, decide_eq_true_eq, decide_eq_false_iff_not, Bool.or_eq_false_iff, Bool.and_eq_false_iff, beq_iff_eq]; simp <;> omega
  rw [e]
  unfold placeI
  refine ⟨fun h => ?_, fun h => ?_⟩
  · rw [Bool.not_eq_true'] at h
    rw [h]; exact post_val rfl rfl
  · rw [Bool.not_eq_false'] at h
    rw [h]; exact post_val rfl rfl
def fast_Slots.C : Contract
  | [.sl _ (.ints .i64 l), .int .i64 b] => some (false, pD (roomy l.length ∧ b ≤ 1099511627776) (.sl false (.ints .i64 (slotsOf l b))))
  | _ => none
set_option maxRecDepth 20000 in
theorem fast_Slots.spec : FSpec Try.prog 58 fast_Slots.C := by
  refine FSpec.of (ctx_ok (F := [(88, fast_node.C), (89, slices_IndexFunc_sl_int_int.C), (64, slices_Clone_sl_int_int.C)]) (S := []) (by simpa using ⟨fast_node.spec, slices_IndexFunc_sl_int_int.spec, slices_Clone_sl_int_int.spec⟩) (by simp) fast_Slots.loops) fast_Slots.at fast_Slots.nm fast_Slots.bd ?_
  intro vs b S v news e hS
  unfold fast_Slots.C at e
  split at e
  rotate_left
  · cases e
  cases e
  rw [fast_Slots.eq]
  unfold fast_Slots.H
  simp (maxSteps := 4000000) only [go_sem, Nat.reduceEqDiff, Nat.reduceLT, Nat.reduceAdd, Nat.reduceSub, Nat.reduceLeDiff, List.reduceReplicate, Int.reduceToNat, fast_node.C, slices_IndexFunc_sl_int_int.C, slices_Clone_sl_int_int.C]
  rename_i _ l b
  obtain ⟨hr, hb⟩ := hS
  unfold roomy at hr
  cases hn : nodeB b with
  | false =>
    refine ⟨fun h => ?_, fun h => by simp at h⟩
    unfold slotsOf; rw [hn]; exact post_val rfl rfl
  | true =>
    have hbb := (node_iff hb).1 hn
    have e1 : IntKind.i64.wrap (b + 16) = b + 16 := w64 (by omega) (by omega)
    have e2 : IntKind.i64.wrap (b + 3) = b + 3 := w64 (by omega) (by omega)
    rw [e1, e2]
    by_cases hlt : (l.length : Int) < b + 16
    · refine ⟨fun h => ?_, fun h => by simp at h; omega⟩
      unfold slotsOf; rw [hn, decide_eq_false (by omega)]; exact post_val rfl rfl
    · refine ⟨fun h => by simp at h; omega, fun h => ⟨by omega, ?_⟩⟩
      have e3 : (b + 16).toNat - (b + 3).toNat = 13 := by omega
      have e4 : (b + 3).toNat = b.toNat + 3 := by omega
      have hsl : slotsOf l b = upTo ((l.drop (b.toNat + 3)).take 13) := by
        unfold slotsOf; rw [hn, decide_eq_true (by omega)]; rfl
      rw [e3, e4, hsl]
      have hlen : ((l.drop (b.toNat + 3)).take 13).length = 13 := by simp; omega
      generalize (l.drop (b.toNat + 3)).take 13 = z at *
      have hu := upTo_idx z
      have hir := idxI_range lt1 z
      have hul : (upTo z).length ≤ z.length := by rw [← hu]; exact List.length_take_le' _ _
      refine ⟨by unfold roomy; omega, ?_⟩
      rw [joinW_eq]
      refine ⟨fun h => ?_, fun h => ?_⟩
      · rw [if_pos h] at hu
        rw [Int.toNat_natCast, List.take_length] at hu
        simp only [slices_Clone_sl_int_int.C, Int.toNat_natCast, List.take_length, go_sem, Nat.reduceEqDiff, Nat.reduceLT, Nat.reduceAdd, Nat.reduceSub, Nat.reduceLeDiff, List.reduceReplicate, Int.reduceToNat]
        refine ⟨by omega, by unfold roomy; omega, post_val ?_ rfl⟩
        simp only [go_sem, Nat.reduceEqDiff, Nat.reduceLT, Nat.reduceAdd, Nat.reduceSub, Nat.reduceLeDiff, List.reduceReplicate, Int.reduceToNat, List.take_length]
        rw [← hu]
      · rw [if_neg h] at hu
        simp only [slices_Clone_sl_int_int.C, hu, go_sem, Nat.reduceEqDiff, Nat.reduceLT, Nat.reduceAdd, Nat.reduceSub, Nat.reduceLeDiff, List.reduceReplicate, Int.reduceToNat]
        refine ⟨by omega, by unfold roomy; omega, post_val ?_ rfl⟩
        simp only [go_sem, Nat.reduceEqDiff, Nat.reduceLT, Nat.reduceAdd, Nat.reduceSub, Nat.reduceLeDiff, List.reduceReplicate, Int.reduceToNat, List.take_length]
def slices_Compact_sl_int_int.K : Con := fun args h K => match args with
  | [a0] => slices_Compact_sl_int_int.H (ctx [] [] slices_Compact_sl_int_int.loops) a0 h K
  | _ => False
theorem slices_Compact_sl_int_int.spec : SSpec Try.prog 111 slices_Compact_sl_int_int.K := by
  refine SSpec.of (ctx_ok (F := []) (S := []) (by simp) (by simp) slices_Compact_sl_int_int.loops) slices_Compact_sl_int_int.at slices_Compact_sl_int_int.nm slices_Compact_sl_int_int.bd ?_
  intro args h K hC
  unfold slices_Compact_sl_int_int.K at hC
  split at hC
  · rw [slices_Compact_sl_int_int.eq]; exact hC
  · exact hC.elim
theorem compact_vc (l : List Int) (hr : roomy l.length) (K : AOut → List AObj → Prop)
    (hK : ∀ x v l' k, k ≤ l'.length → l'.take k = plain l → K (.ret (.sref x 0 v 0 k)) [.row .own v (.ints .i64 l')]) :
    slices_Compact_sl_int_int.K [.sref false 0 0 0 l.length] [.row .own 0 (.ints .i64 l)] K := by
  unfold roomy at hr
  unfold slices_Compact_sl_int_int.K
  simp only
  unfold slices_Compact_sl_int_int.H
  simp only [go_sem, Nat.reduceEqDiff, Nat.reduceLT, Nat.reduceAdd, Nat.reduceSub, Nat.reduceLeDiff, List.reduceReplicate, Int.reduceToNat]
  refine ⟨fun h => ?_, fun h => ?_⟩
  · refine hK _ _ _ _ (Nat.le_refl _) ?_
    rw [List.take_length]
    rcases l with _ | ⟨a, _ | ⟨b, r⟩⟩
    · rfl
    · rfl
    · simp at h; omega
  rw [joinW_eq]
  unfold slices_Compact_sl_int_int.L1
  refine loop1 (σ := Nat) (fun k => .int .i64 k) (fun k => [.row .own 0 (.ints .i64 l)]) (fun k => l.length - k) (fun k => 0 < k ∧ k ≤ l.length ∧ ∀ i, 0 < i → i < k → l.getD i 0 ≠ l.getD (i - 1) 0) 1 rfl rfl ⟨by omega, by omega, fun i h1 h2 => by omega⟩ ?_
  rintro I back k ⟨h0, hk, hall⟩
  simp only [go_sem, Nat.reduceEqDiff, Nat.reduceLT, Nat.reduceAdd, Nat.reduceSub, Nat.reduceLeDiff, List.reduceReplicate, Int.reduceToNat]
  refine ⟨fun hlt => ?_, fun hge => ?_⟩
  · have e1 : IntKind.i64.wrap ((k : Int) - 1) = ((k - 1 : Nat) : Int) := by rw [w64 (by omega) (by omega)]; omega
    rw [joinW_eq, e1, Int.toNat_natCast]
    refine ⟨by omega, by omega, by omega, by omega, fun heq => ⟨by omega, ?_⟩, fun hne => ?_⟩
    · rw [joinW_eq]
      unfold slices_Compact_sl_int_int.L2
      have hp0 : plain (l.take (k + 1)) = l.take k := by
        rw [plain_take h0 (by omega), if_pos heq, plain_same]
        intro i hi0 hi
        rw [List.length_take] at hi
        have := hall i hi0 (by omega)
        rw [List.getD_eq_getElem?_getD, List.getD_eq_getElem?_getD, List.getElem?_take, List.getElem?_take, if_pos (by omega), if_pos (by omega), ← List.getD_eq_getElem?_getD, ← List.getD_eq_getElem?_getD]
        exact this
      refine loop2 (σ := Nat × Nat × List Int) (fun s => .int .i64 s.1) (fun s => .int .i64 s.2.1) (fun s => [.row .own 0 (.ints .i64 s.2.2)]) (fun s => l.length - k - s.2.1)
        (fun s => k ≤ s.1 ∧ s.1 ≤ k + s.2.1 - 1 ∧ 1 ≤ s.2.1 ∧ s.2.1 ≤ l.length - k ∧ s.2.2.length = l.length ∧ s.2.2.take s.1 = plain (l.take (k + s.2.1)) ∧ ∀ j, k + s.2.1 - 1 ≤ j → s.2.2.getD j 0 = l.getD j 0) (k, 1, l) rfl rfl
        ⟨Nat.le_refl _, by simp, Nat.le_refl _, by simp only; omega, rfl, hp0.symm, fun j _ => rfl⟩ ?_
      rintro I2 back2 ⟨w, q, R⟩ ⟨hw0, hw1, hq0, hq1, hRl, hRt, hRd⟩
      simp only [] at hw0 hw1 hq0 hq1 hRl hRt hRd ⊢
      simp only [go_sem, Nat.reduceEqDiff, Nat.reduceLT, Nat.reduceAdd, Nat.reduceSub, Nat.reduceLeDiff, List.reduceReplicate, Int.reduceToNat, hRl]
      have e2 : IntKind.i64.wrap ((q : Int) - 1) = ((q - 1 : Nat) : Int) := by rw [w64 (by omega) (by omega)]; omega
      refine ⟨fun hql => ?_, fun hql => ?_⟩
      · have hnext := plain_take (l := l) (k := k + q) (by omega) (by omega)
        rw [e2, Int.toNat_natCast, hRd (k + q) (by omega), hRd (k + (q - 1)) (by omega)]
        have e3 : k + q - 1 = k + (q - 1) := by omega
        rw [e3] at hnext
        refine ⟨by omega, by omega, by omega, by omega, ?_⟩
        rw [joinW_eq]
        refine ⟨fun hc => ⟨by omega, by omega, by omega, by omega, ?_⟩, fun hc => ?_⟩
        · simp only [go_sem, Nat.reduceEqDiff, Nat.reduceLT, Nat.reduceAdd, Nat.reduceSub, Nat.reduceLeDiff, List.reduceReplicate, Int.reduceToNat]
          rw [if_neg hc] at hnext
          refine back2 (w + 1, q + 1, R.set w (l.getD (k + q) 0)) (by show _ - (q + 1) < _ - q; omega) (by rw [wnext (by omega), wnext (by omega)]) rfl ⟨by show k ≤ w + 1; omega, by show w + 1 ≤ k + (q + 1) - 1; omega, by show 1 ≤ q + 1; omega, by show q + 1 ≤ _; omega, by show (R.set _ _).length = _; rw [List.length_set]; exact hRl, ?_, fun j hj => ?_⟩
          · show (R.set w _).take (w + 1) = plain (l.take (k + (q + 1)))
            rw [show k + (q + 1) = k + q + 1 from by omega, hnext, ← hRt, take_next _ w 0 (by rw [List.length_set]; omega), getD_set, if_pos ⟨rfl, by omega⟩, List.take_set_of_le (Nat.le_refl _)]
          · show (R.set w _).getD j 0 = _
            have hj : k + (q + 1) - 1 ≤ j := hj
            rw [getD_set, if_neg (by omega), hRd j (by omega)]
        · simp only [go_sem, Nat.reduceEqDiff, Nat.reduceLT, Nat.reduceAdd, Nat.reduceSub, Nat.reduceLeDiff, List.reduceReplicate, Int.reduceToNat]
          rw [if_pos hc] at hnext
          refine back2 (w, q + 1, R) (by show _ - (q + 1) < _ - q; omega) (by rw [wnext (by omega)]) rfl ⟨hw0, by show w ≤ k + (q + 1) - 1; omega, by show 1 ≤ q + 1; omega, by show q + 1 ≤ _; omega, hRl, ?_, fun j hj => hRd j (by have hj : k + (q + 1) - 1 ≤ j := hj; omega)⟩
          show R.take w = plain (l.take (k + (q + 1)))
          rw [show k + (q + 1) = k + q + 1 from by omega, hnext, hRt]
      · obtain rfl : q = l.length - k := by omega
        rw [show k + (l.length - k) = l.length from by omega, List.take_length] at hRt
        have hov : clearH (.slice (.int .i64)) [.row .own 0 (.ints .i64 R)] (.sref false 0 0 w (l.length - w)) = some (True, .tup [], 0, .row .own 0 (.ints .i64 (R.take w ++ List.replicate (l.length - w) 0))) := by
          have e4 : l.length - (w + (l.length - w)) = 0 := by omega
          simp [clearH, clearO, Lst.over, Lst.cut, Lst.app, LK.zeros, Lst.kind, rowKind, TyD.fitsRow, Lst.len, hRl, e4]
        rw [hov]
        simp only [go_sem, Nat.reduceEqDiff, Nat.reduceLT, Nat.reduceAdd, Nat.reduceSub, Nat.reduceLeDiff, List.reduceReplicate, Int.reduceToNat]
        have hl2 : (R.take w ++ List.replicate (l.length - w) 0).length = l.length := by simp [hRl]; omega
        refine ⟨⟨by omega, by omega⟩, ⟨by omega, by omega⟩, ?_⟩
        refine hK _ _ _ _ (by omega) ?_
        rw [List.take_append_of_le_length (by rw [List.length_take]; omega), List.take_take, Nat.min_self, hRt]
    · simp only [go_sem, Nat.reduceEqDiff, Nat.reduceLT, Nat.reduceAdd, Nat.reduceSub, Nat.reduceLeDiff, List.reduceReplicate, Int.reduceToNat]
      refine back (k + 1) (by omega) (by rw [wnext (by omega)]) rfl ⟨by omega, by omega, fun i hi0 hi => ?_⟩
      by_cases e : i = k
      · subst e; exact hne
      · exact hall i hi0 (by omega)
  · obtain rfl : k = l.length := by omega
    refine hK _ _ _ _ (Nat.le_refl _) ?_
    rw [List.take_length, plain_same l hall]
def fast_Plain.C : Contract
  | [.sl _ (.ints .i64 l)] => some (false, pD (roomy l.length) (.sl false (.ints .i64 (plain l))))
  | _ => none
set_option maxRecDepth 20000 in
theorem fast_Plain.spec : FSpec Try.prog 84 fast_Plain.C := by
  refine FSpec.of (ctx_ok (F := [(64, slices_Clone_sl_int_int.C)]) (S := [(111, slices_Compact_sl_int_int.K)]) (by simpa using slices_Clone_sl_int_int.spec) (by simpa using slices_Compact_sl_int_int.spec) fast_Plain.loops) fast_Plain.at fast_Plain.nm fast_Plain.bd ?_
  intro vs b S v news e hS
  unfold fast_Plain.C at e
  split at e
  rotate_left
  · cases e
  cases e
  rw [fast_Plain.eq]
  unfold fast_Plain.H
  simp (maxSteps := 4000000) only [go_sem, Nat.reduceEqDiff, Nat.reduceLT, Nat.reduceAdd, Nat.reduceSub, Nat.reduceLeDiff, List.reduceReplicate, Int.reduceToNat, slices_Clone_sl_int_int.C]
  rename_i _ l
  refine ⟨hS, compact_vc l hS _ fun x v l' k hk he => ?_⟩
  simp only [go_sem, Nat.reduceEqDiff, Nat.reduceLT, Nat.reduceAdd, Nat.reduceSub, Nat.reduceLeDiff, List.reduceReplicate, Int.reduceToNat]
  refine post_val ?_ rfl
  simp only [go_sem, Nat.reduceEqDiff, Nat.reduceLT, Nat.reduceAdd, Nat.reduceSub, Nat.reduceLeDiff, List.reduceReplicate, Int.reduceToNat, he]
end Lam
namespace Lam
open Go Go.Proofs
set_option linter.unusedVariables false
set_option linter.unnecessarySimpa false
set_option linter.unusedSimpArgs false
def node_Check.C : Contract
  | [.agg [.int .i64 a, .int .i64 b, .int .i64 c, .int .i64 d, .sl false (.ints .i64 l)]] => some (false, pD True (.bool (ndB ⟨a, b, c, d, l⟩)))
  | _ => none
set_option maxRecDepth 20000 in
theorem node_Check.spec : FSpec Try.prog 71 node_Check.C := by
  refine FSpec.of (ctx_ok (F := [(98, node_block.C), (99, slices_ContainsFunc_sl_int_int.C)]) (S := []) (by simpa using ⟨node_block.spec, slices_ContainsFunc_sl_int_int.spec⟩) (by simp) node_Check.loops) node_Check.at node_Check.nm node_Check.bd ?_
  intro vs b S v news e hS
  unfold node_Check.C at e
  split at e
  rotate_left
  · cases e
  cases e
  rw [node_Check.eq]
  unfold node_Check.H
  simp (maxSteps := 4000000) only [go_sem, Nat.reduceEqDiff, Nat.reduceLT, Nat.reduceAdd, Nat.reduceSub, Nat.reduceLeDiff, List.reduceReplicate, Int.reduceToNat, node_block.C, slices_ContainsFunc_sl_int_int.C]
  rename_i a b c d l
  have h1 : (a < 0 ∨ 9 < a ∨ b < 0 ∨ 1099511627776 < b ∨ blockB c = false ∨ blockB d = false ∨ 13 < (l.length : Int)) → ndB ⟨a, b, c, d, l⟩ = false := by
    intro h
    rw [Bool.eq_false_iff]
    intro hh
    obtain ⟨q1, q2, q3, q4, q5, q6, q7, q8⟩ := nd_iff.1 hh
    simp only at q1 q2 q3 q4 q5 q6 q7 q8
    unfold blockB at h
    simp only [Bool.and_eq_false_iff, decide_eq_false_iff_not] at h
    omega
  have h2 : ¬ (a < 0 ∨ 9 < a ∨ b < 0 ∨ 1099511627776 < b ∨ blockB c = false ∨ blockB d = false ∨ 13 < (l.length : Int)) → ndB ⟨a, b, c, d, l⟩ = !l.any noBlock := by
    intro h
    simp only [not_or, Bool.not_eq_false] at h
    obtain ⟨q1, q2, q3, q4, q5, q6, q7⟩ := h
    unfold ndB
    rw [decide_eq_true (show 0 ≤ a by omega), decide_eq_true (show a ≤ 9 by omega), decide_eq_true (show 0 ≤ b by omega), decide_eq_true (show b ≤ 1099511627776 by omega), q5, q6, decide_eq_true (show l.length ≤ 13 by omega)]
    rfl
  generalize ndB ⟨a, b, c, d, l⟩ = R at *
  simp only [node_block.C, slices_ContainsFunc_sl_int_int.C, joinW_eq, guard_tt, guard_tf, guard_ft, guard_ff, Int.reduceEq, Int.reduceLT, Int.reduceLE, decide_false, decide_true, Bool.not_false, Bool.not_true, Bool.not_not, not_true_eq_false, not_false_eq_true, true_implies, false_implies, implies_true, and_true, true_and, reduceCtorEq, Bool.and_self, Bool.or_self, Bool.and_true, Bool.true_and, Bool.false_eq_true, if_true, if_false, go_sem, Nat.reduceEqDiff, Nat.reduceLT, Nat.reduceAdd, Nat.reduceSub, Nat.reduceLeDiff, List.reduceReplicate, Int.reduceToNat]
  repeat' (first | (with_reducible apply And.intro) | (with_reducible intro _))
  all_goals first
    | omega
    | (unfold roomy; omega)
    | (exfalso; simp_all; done)
    | (rw [h1 (by grind)]; exact post_val rfl rfl)
    | (rw [h2 (by grind)]; exact post_val rfl rfl)
    | skip
  all_goals trace_state
def node_first.C : Contract
  | [.agg [.int .i64 a, .int .i64 b, .int .i64 c, .int .i64 d, .sl false (.ints .i64 l)]] => some (false, pD (0 ≤ a ∧ a ≤ 9 ∧ 0 ≤ b ∧ b ≤ 1099511627776) (.int .i64 (firstN ⟨a, b, c, d, l⟩)))
  | _ => none
set_option maxRecDepth 20000 in
theorem node_first.spec : FSpec Try.prog 72 node_first.C := by
  refine FSpec.of (ctx_ok (F := []) (S := []) (by simp) (by simp) node_first.loops) node_first.at node_first.nm node_first.bd ?_
  intro vs b S v news e hS
  unfold node_first.C at e
  split at e
  rotate_left
  · cases e
  cases e
  rw [node_first.eq]
  unfold node_first.H
  simp (maxSteps := 4000000) only [go_sem, Nat.reduceEqDiff, Nat.reduceLT, Nat.reduceAdd, Nat.reduceSub, Nat.reduceLeDiff, List.reduceReplicate, Int.reduceToNat]
  rename_i a b c d l
  rw [first_bits hS.1 (by omega) hS.2.2.1 hS.2.2.2]
  exact ⟨by decide, post_val rfl rfl⟩
def wordsV (n : Nd) : AV := if ndB n = true then .tup [.sl false (.ints .i64 (wordsNd n)), .int .i64 0] else .tup [.sl false (.ints .i64 []), .int .i64 90]
def node_Words.C : Contract
  | [.agg [.int .i64 a, .int .i64 b, .int .i64 c, .int .i64 d, .sl false (.ints .i64 l)]] => some (false, pD True (wordsV ⟨a, b, c, d, l⟩))
  | _ => none
set_option maxRecDepth 20000 in
theorem node_Words.spec : FSpec Try.prog 35 node_Words.C := by
  refine FSpec.of (ctx_ok (F := [(71, node_Check.C), (72, node_first.C)]) (S := []) (by simpa using ⟨node_Check.spec, node_first.spec⟩) (by simp) node_Words.loops) node_Words.at node_Words.nm node_Words.bd ?_
  intro vs b S v news e hS
  unfold node_Words.C at e
  split at e
  rotate_left
  · cases e
  cases e
  rw [node_Words.eq]
  unfold node_Words.H
  simp (maxSteps := 4000000) only [go_sem, Nat.reduceEqDiff, Nat.reduceLT, Nat.reduceAdd, Nat.reduceSub, Nat.reduceLeDiff, List.reduceReplicate, Int.reduceToNat, node_Check.C, node_first.C]
  rename_i a b c d l
  refine ⟨fun h => ?_, fun h => ?_⟩
  · unfold wordsV; rw [h]; exact post_val rfl rfl
  · have hok := nd_iff.1 h
    obtain ⟨q1, q2, q3, q4, _, _, q7, _⟩ := hok
    simp only at q1 q2 q3 q4 q7
    have hw : firstN ⟨a, b, c, d, l⟩ :: c :: d :: (l.take 13 ++ List.take (16 - (3 + min 13 l.length)) (List.drop (3 + min 13 l.length) [firstN ⟨a, b, c, d, l⟩, c, d, 0, 0, 0, 0, 0, 0, 0, 0, 0, 0, 0, 0, 0])) = wordsNd ⟨a, b, c, d, l⟩ := by
      unfold wordsNd
      simp only
      rw [take_len l q7, Nat.min_eq_right q7]
      congr 4
      have : ∀ k, k ≤ 13 → List.take (16 - (3 + k)) (List.drop (3 + k) [firstN ⟨a, b, c, d, l⟩, c, d, 0, 0, 0, 0, 0, 0, 0, 0, 0, 0, 0, 0, 0]) = List.replicate (13 - k) 0 := by
        intro k hk
        rcases k with _|_|_|_|_|_|_|_|_|_|_|_|_|_|k <;> first | rfl | omega
      exact this _ q7
    rw [hw]
    unfold wordsV; simp only [h, if_true]
    refine ⟨⟨by decide, by decide, by unfold roomy; omega⟩, ⟨q1, q2, q3, q4⟩, ⟨by decide, by decide⟩, ⟨by decide, by decide⟩, ⟨by decide, by decide⟩, rfl, rfl, rfl, ⟨by decide, by decide⟩, post_val ?_ rfl⟩
    simp only [go_sem, Nat.reduceEqDiff, Nat.reduceLT, Nat.reduceAdd, Nat.reduceSub, Nat.reduceLeDiff, List.reduceReplicate, Int.reduceToNat]
    rw [take_len _ (Nat.le_of_eq (words_len (nd_iff.1 h)))]
def readV (words : List Int) (at_ : Int) : AV := if (decide (at_ < 0) || decide (((words.length / 16 : Nat) : Int) ≤ at_)) = true then .tup [zeroNd.V, .int .i64 1] else match readN (blockAt words at_.toNat) with
  | some n => .tup [n.V, .int .i64 0]
  | none => .tup [zeroNd.V, .int .i64 90]
def node_Read.C : Contract
  | [.sl _ (.ints .i64 l), .int .i64 k] => some (false, pD (roomy l.length) (readV l k))
  | _ => none
set_option maxRecDepth 20000 in
theorem node_Read.spec : FSpec Try.prog 23 node_Read.C := by
  refine FSpec.of (ctx_ok (F := [(58, fast_Slots.C), (35, node_Words.C), (59, slices_Equal_sl_int_int.C)]) (S := []) (by simpa using ⟨fast_Slots.spec, node_Words.spec, slices_Equal_sl_int_int.spec⟩) (by simp) node_Read.loops) node_Read.at node_Read.nm node_Read.bd ?_
  intro vs b S v news e hS
  unfold node_Read.C at e
  split at e
  rotate_left
  · cases e
  cases e
  rw [node_Read.eq]
  unfold node_Read.H
  simp (maxSteps := 4000000) only [go_sem, Nat.reduceEqDiff, Nat.reduceLT, Nat.reduceAdd, Nat.reduceSub, Nat.reduceLeDiff, List.reduceReplicate, Int.reduceToNat, fast_Slots.C, node_Words.C, slices_Equal_sl_int_int.C]
  rename_i l k
  have hrl := hS
  unfold roomy at hS
  have e0 : IntKind.i64.wrap ((l.length : Int).tdiv 16) = ((l.length / 16 : Nat) : Int) := by
    rw [Int.tdiv_eq_ediv_of_nonneg (by omega)]; exact w64 (by omega) (by omega)
  rw [e0]
  unfold readV
  refine ⟨fun _ => by decide, fun h => ?_, fun h => ?_⟩
  · rw [if_pos h]
    refine post_val ?_ rfl
    simp only [zeroNd, go_sem, Nat.reduceEqDiff, Nat.reduceLT, Nat.reduceAdd, Nat.reduceSub, Nat.reduceLeDiff, List.reduceReplicate, Int.reduceToNat]
  · rw [h]
    simp only [Bool.or_eq_false_iff, decide_eq_false_iff_not] at h
    obtain ⟨k, rfl⟩ := Int.eq_ofNat_of_zero_le (show 0 ≤ k by omega)
    have hk : 16 * k + 16 ≤ l.length := by omega
    have e1 : IntKind.i64.wrap (16 * (k : Int)) = 16 * (k : Int) := w64 (by omega) (by omega)
    have e2 : IntKind.i64.wrap ((k : Int) + 1) = (k : Int) + 1 := w64 (by omega) (by omega)
    have e3 : IntKind.i64.wrap (16 * ((k : Int) + 1)) = 16 * ((k : Int) + 1) := w64 (by omega) (by omega)
    have e4 : (16 * ((k : Int) + 1)).toNat - (16 * (k : Int)).toNat = 16 := by omega
    have e5 : (16 * (k : Int)).toNat = 16 * k := by omega
    have eb : (l.drop (16 * k)).take 16 = blockAt l k := rfl
    have hbl : (blockAt l k).length = 16 := by unfold blockAt; simp; omega
    rw [e2, e1, e3, e4, e5, eb, Int.toNat_natCast]
    generalize blockAt l k = w at *
    have hdp : (⟨andI .i64 (w.getD 0 0) 15, (andNotI .i64 (w.getD 0 0) 1152921504606846976).fdiv (2 ^ min 4 64), w.getD 1 0, w.getD 2 0, slotsOf w 0⟩ : Nd) = decP w := rfl
    have hV : (decP w).V = .agg [.int .i64 (andI .i64 (w.getD 0 0) 15), .int .i64 ((andNotI .i64 (w.getD 0 0) 1152921504606846976).fdiv (2 ^ min 4 64)), .int .i64 (w.getD 1 0), .int .i64 (w.getD 2 0), .sl false (.ints .i64 (slotsOf w 0))] := rfl
    rw [hdp, hbl, ← readP_eq]
    have hsr := slotsOf_roomy w 0
    refine ⟨by omega, by omega, by omega, by decide, by omega, by omega, ⟨by unfold roomy; omega, by decide⟩, ?_⟩
    unfold readBy wordsV
    cases hd : ndB (decP w) with
    | false =>
      simp only [Bool.false_eq_true, if_false, Bool.false_and, joinW_eq, joinW_eq, guard_tt, guard_tf, guard_ft, guard_ff, Int.reduceEq, Int.reduceLT, Int.reduceLE, decide_false, decide_true, Bool.not_false, Bool.not_true, Bool.not_not, not_true_eq_false, not_false_eq_true, true_implies, false_implies, implies_true, and_true, true_and, reduceCtorEq, Bool.and_self, Bool.or_self, Bool.and_true, Bool.true_and, Bool.false_eq_true, if_true, if_false, go_sem, Nat.reduceEqDiff, Nat.reduceLT, Nat.reduceAdd, Nat.reduceSub, Nat.reduceLeDiff, List.reduceReplicate, Int.reduceToNat]
      refine post_val ?_ rfl
      simp only [zeroNd, go_sem, Nat.reduceEqDiff, Nat.reduceLT, Nat.reduceAdd, Nat.reduceSub, Nat.reduceLeDiff, List.reduceReplicate, Int.reduceToNat]
    | true =>
      have hok := nd_iff.1 hd
      have hwl := words_len hok
      simp only [if_true, Bool.true_and, slices_Equal_sl_int_int.C, hwl, hbl, joinW_eq, guard_tt, guard_tf, guard_ft, guard_ff, Int.reduceEq, Int.reduceLT, Int.reduceLE, decide_false, decide_true, Bool.not_false, Bool.not_true, Bool.not_not, not_true_eq_false, not_false_eq_true, true_implies, false_implies, implies_true, and_true, true_and, reduceCtorEq, Bool.and_self, Bool.or_self, Bool.and_true, Bool.true_and, Bool.false_eq_true, if_true, if_false, go_sem, Nat.reduceEqDiff, Nat.reduceLT, Nat.reduceAdd, Nat.reduceSub, Nat.reduceLeDiff, List.reduceReplicate, Int.reduceToNat]
      refine ⟨by unfold roomy; omega, fun h => ?_, fun h => ?_⟩
      · rw [if_neg h]
        refine post_val ?_ rfl
        simp only [zeroNd, go_sem, Nat.reduceEqDiff, Nat.reduceLT, Nat.reduceAdd, Nat.reduceSub, Nat.reduceLeDiff, List.reduceReplicate, Int.reduceToNat]
      · rw [if_pos h]
        exact post_val rfl rfl
end Lam
namespace Lam
open Go Go.Proofs
set_option linter.unusedVariables false
def key_Text.loops : Nat → LInfo
  | 1 => ⟨[], [], [], [(3, none), (9, some [14, 23])], [], []⟩
  | 5 => ⟨[6, 31], [true, false], [1, 29, 30], [], [], []⟩
  | 7 => ⟨[], [], [], [(3, none), (2, some [37, 39])], [], []⟩
  | 10 => ⟨[6, 41], [true, false], [1, 8, 29, 30, 31], [], [], []⟩
  | 16 => ⟨[59], [false], [1, 6, 57, 58], [], [], []⟩
  | _ => ⟨[], [], [], [], [], []⟩
def key_Text.L2 (c : Ctx) (J5 : AV → AV → AV → AV → AV → List AObj → Prop) (K : AOut → List AObj → Prop) (lv : List AV) (h0 : List AObj) (n0 : Nat) (c1 : AV) (c8 : AV) (c29 : AV) (c30 : AV) (c31 : AV) : Prop :=
  ∃ I : Nat → List AV → List AObj → Prop, (∃ n, I n lv h0) ∧ ∀ n h, ∀ t6, ∀ t41, I n [t6, t41] h →
    runD (binD T_int .lss t41 (.int .i64 7)) h fun t42 h =>
    condW t42
    (runD (binD T_int .sub (.int .i64 6) t41) h fun t47 h =>
    runD (binD T_int .mul (.int .i64 8) t47) h fun t48 h =>
    runD (binD T_int .shr c8 t48) h fun t49 h =>
    runD (convD h T_int T_uint8 t49) h fun t50 h =>
    runD (buildSliceD T_sl_uint8 1 [(0, t50)] h.length) h fun t51 h =>
    runDM (appendD T_sl_uint8 h t6 t51 h.length) (appendH T_sl_uint8 h t6 t51) h fun t52 h =>
    runD (binD T_int .add t41 (.int .i64 1)) h fun t53 h =>
    (∃ m, m < n ∧ I m (AV.norms n0 h [t52, t53]) (normH n0 h)) ∧ AV.norms n0 h [c1, c8, c29, c30, c31] = [c1, c8, c29, c30, c31])
    (J5 c1 t6 c29 c30 c31 h)
def key_Text.L1 (c : Ctx) (J2 : AV → AV → List AObj → Prop) (K : AOut → List AObj → Prop) (lv : List AV) (h0 : List AObj) (n0 : Nat) (c1 : AV) (c29 : AV) (c30 : AV) : Prop :=
  ∃ I : Nat → List AV → List AObj → Prop, (∃ n, I n lv h0) ∧ ∀ n h, ∀ t6, ∀ t31, I n [t6, t31] h →
    runD (binD T_int .lss t31 c30) h fun t32 h =>
    condW t32
    (joinW (fun (J3 : AV → AV → AV → AV → AV → List AObj → Prop) =>
    runD (indexAddrD T_sl_int h c29 t31) h fun t33 h =>
    runD (fitD T_int (loadD h t33)) h fun t34 h =>
    runD (binD T_int .lss t34 (.int .i64 0)) h fun t36 h =>
    joinW (fun (J4 : AV → AV → List AObj → Prop) =>
    guardW t36 false
    (runD (binD T_int .geq t34 (.int .i64 72057594037927936)) h fun t39 h =>
      J4 (.bool false) t39 h)
    (J4 (.bool true) .und h))
    (fun t37 t39 h => runD (pickD t37 (.bool true) t39) h fun t40 h =>
    condW t40
    (K (.ret (.tup [(.str []), (.int .i64 20)])) h)
    (joinW (fun (J5 : AV → AV → AV → AV → AV → List AObj → Prop) =>
    promV [true, false] [t6, (.int .i64 0)] h fun lv h => key_Text.L2 c J5 K (AV.norms h.length h lv) (normH h.length h) h.length (AV.norm h.length h c1) (AV.norm h.length h t34) (AV.norm h.length h c29) (AV.norm h.length h c30) (AV.norm h.length h t31))
    (fun t1 t6 t29 t30 t31 h => J3 t1 t6 t29 t30 t31 h))))
    (fun t1 t6 t29 t30 t31 h => runD (binD T_int .add t31 (.int .i64 1)) h fun t54 h =>
    (∃ m, m < n ∧ I m (AV.norms n0 h [t6, t54]) (normH n0 h)) ∧ AV.norms n0 h [t1, t29, t30] = [c1, c29, c30]))
    (J2 c1 t6 h)
def key_Text.L3 (c : Ctx) (J6 : AV → AV → List AObj → Prop) (K : AOut → List AObj → Prop) (lv : List AV) (h0 : List AObj) (n0 : Nat) (c1 : AV) (c6 : AV) (c57 : AV) (c58 : AV) : Prop :=
  ∃ I : Nat → List AV → List AObj → Prop, (∃ n, I n lv h0) ∧ ∀ n h, ∀ t59, I n [t59] h →
    runD (binD T_int .lss t59 c58) h fun t60 h =>
    condW t60
    (runD (indexAddrD T_sl_uint8 h c57 t59) h fun t61 h =>
    runD (fitD T_uint8 (loadD h t61)) h fun t62 h =>
    runD (binD T_uint8 .neq t62 (.int .u8 0)) h fun t64 h =>
    condW t64
    (K (.ret (.tup [(.str []), (.int .i64 20)])) h)
    (runD (binD T_int .add t59 (.int .i64 1)) h fun t65 h =>
    (∃ m, m < n ∧ I m (AV.norms n0 h [t65]) (normH n0 h)) ∧ AV.norms n0 h [c1, c6, c57, c58] = [c1, c6, c57, c58]))
    (J6 c1 c6 h)
def key_Text.H (c : Ctx) (t0 : AV) (t1 : AV) (h : List AObj) (K : AOut → List AObj → Prop) : Prop :=
  runD (binD T_int .lss t1 (.int .i64 0)) h fun t13 h =>
  joinW (fun (J1 : AV → AV → List AObj → Prop) =>
  guardW t13 false
  (runD (lenD T_sl_int h t0) h fun t16 h =>
    runD (binD T_int .quo t1 (.int .i64 7)) h fun t18 h =>
    runD (binD T_int .rem t1 (.int .i64 7)) h fun t20 h =>
    runD (minD (.int .i64 1) t20) h fun t21 h =>
    runD (binD T_int .add t18 t21) h fun t22 h =>
    runD (binD T_int .neq t16 t22) h fun t23 h =>
    J1 (.bool false) t23 h)
  (J1 (.bool true) .und h))
  (fun t14 t23 h => runD (pickD t14 (.bool true) t23) h fun t24 h =>
  condW t24
  (K (.ret (.tup [(.str []), (.int .i64 20)])) h)
  (runD (lenD T_sl_int h t0) h fun t26 h =>
  runD (binD T_int .mul (.int .i64 7) t26) h fun t27 h =>
  runD (makeSliceD T_sl_uint8 (.int .i64 0) t27 h.length) h fun t28 h =>
  runD (lenD T_sl_int h t0) h fun t30 h =>
  joinW (fun (J2 : AV → AV → List AObj → Prop) =>
  promV [true, false] [t28, (.int .i64 0)] h fun lv h => key_Text.L1 c J2 K (AV.norms h.length h lv) (normH h.length h) h.length (AV.norm h.length h t1) (AV.norm h.length h t0) (AV.norm h.length h t30))
  (fun t1 t6 h => runD (sliceD T_sl_uint8 h t6 (some t1) none none) h fun t57 h =>
  runD (lenD T_sl_uint8 h t57) h fun t58 h =>
  joinW (fun (J6 : AV → AV → List AObj → Prop) =>
  promV [false] [(.int .i64 0)] h fun lv h => key_Text.L3 c J6 K (AV.norms h.length h lv) (normH h.length h) h.length (AV.norm h.length h t1) (AV.norm h.length h t6) (AV.norm h.length h t57) (AV.norm h.length h t58))
  (fun t1 t6 h => runD (sliceD T_sl_uint8 h t6 none (some t1) none) h fun t68 h =>
  runD (convD h T_sl_uint8 T_string t68) h fun t69 h =>
  K (.ret (.tup [t69, (.int .i64 0)])) h))))
def key_Check.loops : Nat → LInfo
  | 1 => ⟨[], [], [], [(3, none), (3, some [5, 8])], [], []⟩
  | _ => ⟨[], [], [], [], [], []⟩
def key_Check.H (c : Ctx) (t0 : AV) (h : List AObj) (K : AOut → List AObj → Prop) : Prop :=
  runD (binD T_string .neq t0 (.str [])) h fun t4 h =>
  joinW (fun (J1 : AV → AV → List AObj → Prop) =>
  guardW t4 true
  (runD (lenD T_string h t0) h fun t7 h =>
    runD (binD T_int .leq t7 (.int .i64 21)) h fun t8 h =>
    J1 (.bool true) t8 h)
  (J1 (.bool false) .und h))
  (fun t5 t8 h => runD (pickD t5 t8 (.bool false)) h fun t9 h =>
  K (.ret t9) h)
def key_CheckVal.loops : Nat → LInfo
  | _ => ⟨[], [], [], [], [], []⟩
def key_CheckVal.H (c : Ctx) (t0 : AV) (h : List AObj) (K : AOut → List AObj → Prop) : Prop :=
  runD (lenD T_string h t0) h fun t4 h =>
  runD (binD T_int .leq t4 (.int .i64 21)) h fun t5 h =>
  K (.ret t5) h
def key_Words.loops : Nat → LInfo
  | 2 => ⟨[], [], [], [], [2], []⟩
  | 5 => ⟨[4, 11], [false, false], [2, 3, 10], [], [], []⟩
  | _ => ⟨[], [], [], [], [], []⟩
def key_Words.L1 (c : Ctx) (id : Nat) (r : Loop) (J3 : AV → AV → List AObj → Prop) (K : AOut → List AObj → Prop) (lv : List AV) (h0 : List AObj) (n0 : Nat) (c2 : AV) (c3 : AV) (c10 : AV) : Prop :=
  ∃ I : Nat → List AV → List AObj → Prop, (∃ n, I n lv h0) ∧ ∀ n h, ∀ t4, ∀ t11, I n [t4, t11] h →
    runD (binD T_int .lss t11 c10) h fun t12 h =>
    condW t12
    (runD (indexD T_string c3 t11) h fun t17 h =>
    runD (convD h T_uint8 T_int t17) h fun t18 h =>
    runD (binD T_int .sub (.int .i64 6) t11) h fun t20 h =>
    runD (binD T_int .mul (.int .i64 8) t20) h fun t21 h =>
    runD (binD T_int .shl t18 t21) h fun t22 h =>
    runD (binD T_int .or t4 t22) h fun t23 h =>
    runD (binD T_int .add t11 (.int .i64 1)) h fun t24 h =>
    (∃ m, m < n ∧ I m (AV.norms n0 h [t23, t24]) (normH n0 h)) ∧ AV.norms n0 h [c2, c3, c10] = [c2, c3, c10])
    (J3 c2 t4 h)
def key_Words.H (c : Ctx) (t0 : AV) (h : List AObj) (K : AOut → List AObj → Prop) : Prop :=
  allocW T_sl_int h fun t2 h =>
  callW false c (.fn (.func 128) [] []) [t0] h (fun t7 h =>
  joinW (fun (J1 : AV → List AObj → Prop) =>
  rangeX c.iterS t7 (boxH [t2] h)
  (fun id r args h K => lpIs h id .ready r ∧ argX1 args fun t8 =>
  lpIs h id .ready r ∧
  joinW (fun (J2 : List AObj → Prop) =>
  runD (lenD T_string (List.set h id (.lp .busy none r)) t8) (List.set h id (.lp .busy none r)) fun t10 h =>
  joinW (fun (J3 : AV → AV → List AObj → Prop) =>
  promV [false, false] [(.int .i64 0), (.int .i64 0)] h fun lv h => key_Words.L1 c id r J3 K (AV.norms h.length h lv) (normH h.length h) h.length (AV.norm h.length h t2) (AV.norm h.length h t8) (AV.norm h.length h t10))
  (fun t2 t4 h => runD (fitD T_sl_int (loadD h t2)) h fun t25 h =>
  runD (buildSliceD T_sl_int 1 [(0, t4)] h.length) h fun t27 h =>
  runDM (appendD T_sl_int h t25 t27 h.length) (appendH T_sl_int h t25 t27) h fun t28 h =>
  runH (storeH T_sl_int h t2 t28) h fun _ h =>
  J2 h))
  (fun h => lpIs h id .busy r ∧ K (.ret (.bool true)) (List.set h id (.lp .ready none r))))
  (fun id r ao h => endX id r ao h
  (fun h => J1 t2 h)
  (fun h => loadRes (fitD T_sl_int (loadD h t2)) fun r0 => K (.ret r0) h)
  (fun i h => exitW i 0 (J1 t2 h) (False))
  (fun l h => False)
  (fun v h => K (.pan v) h)))
  (fun t2 h => runD (fitD T_sl_int (loadD h t2)) h fun t29 h =>
  runH (storeH T_sl_int h t2 t29) h fun _ h =>
  loadRes (fitD T_sl_int (loadD h t2)) fun r0 => K (.ret r0) h))
  (fun v h => K (.pan v) h)
def key_pieces.loops : Nat → LInfo
  | _ => ⟨[], [], [], [], [], []⟩
def key_pieces.H (c : Ctx) (t0 : AV) (h : List AObj) (K : AOut → List AObj → Prop) : Prop :=
  boxW T_string t0 h fun t1 h =>
  K (.ret (.fn (.func 145) [] [t1])) h
def key_pieces_1.loops : Nat → LInfo
  | 0 => ⟨[], [], [0, 1], [], [], []⟩
  | _ => ⟨[], [], [], [], [], []⟩
def key_pieces_1.L1 (c : Ctx) (J1 : List AObj → Prop) (K : AOut → List AObj → Prop) (lv : List AV) (h0 : List AObj) (n0 : Nat) (c0 : AV) (c1 : AV) : Prop :=
  ∃ I : Nat → List AV → List AObj → Prop, (∃ n, I n lv h0) ∧ ∀ n h, I n [] h →
    runD (fitD T_string (loadD h c1)) h fun t4 h =>
    runD (lenD T_string h t4) h fun t5 h =>
    runD (binD T_int .gtr t5 (.int .i64 0)) h fun t6 h =>
    condW t6
    (runD (fitD T_string (loadD h c1)) h fun t7 h =>
    runD (lenD T_string h t7) h fun t8 h =>
    runD (minD (.int .i64 7) t8) h fun t9 h =>
    runD (fitD T_string (loadD h c1)) h fun t11 h =>
    runD (sliceD T_string h t11 none (some t9) none) h fun t13 h =>
    callW false c c0 [t13] h (fun t14 h =>
    runD (unD .not t14) h fun t15 h =>
    condW t15
    (K (.ret (.tup [])) h)
    (runD (fitD T_string (loadD h c1)) h fun t16 h =>
    runD (sliceD T_string h t16 (some t9) none none) h fun t18 h =>
    runH (storeH T_string h c1 t18) h fun _ h =>
    (∃ m, m < n ∧ I m (AV.norms n0 h []) (normH n0 h)) ∧ AV.norms n0 h [c0, c1] = [c0, c1]))
    (fun v h => K (.pan v) h))
    (J1 h)
def key_pieces_1.H (c : Ctx) (t0 : AV) (t1 : AV) (h : List AObj) (K : AOut → List AObj → Prop) : Prop :=
  joinW (fun (J1 : List AObj → Prop) =>
  promV [] [] h fun lv h => key_pieces_1.L1 c J1 K (AV.norms h.length h lv) (normH h.length h) h.length (AV.norm h.length h t0) (AV.norm h.length h t1))
  (fun h => K (.ret (.tup [])) h)
theorem key_Text.eq (F : List (FuncId × Contract)) (S : List (FuncId × Con)) (t0 t1 : AV) (h : List AObj) (K : AOut → List AObj → Prop) : funW (ctx F S key_Text.loops) Try.f101 [t0, t1] h K = key_Text.H (ctx F S key_Text.loops) t0 t1 h K := by kernel_rfl
theorem key_Check.eq (F : List (FuncId × Contract)) (S : List (FuncId × Con)) (t0 : AV) (h : List AObj) (K : AOut → List AObj → Prop) : funW (ctx F S key_Check.loops) Try.f102 [t0] h K = key_Check.H (ctx F S key_Check.loops) t0 h K := by kernel_rfl
theorem key_CheckVal.eq (F : List (FuncId × Contract)) (S : List (FuncId × Con)) (t0 : AV) (h : List AObj) (K : AOut → List AObj → Prop) : funW (ctx F S key_CheckVal.loops) Try.f103 [t0] h K = key_CheckVal.H (ctx F S key_CheckVal.loops) t0 h K := by kernel_rfl
theorem key_Words.eq (F : List (FuncId × Contract)) (S : List (FuncId × Con)) (Is : List (FuncId × (Con → Con))) (t0 : AV) (h : List AObj) (K : AOut → List AObj → Prop) : funW (ctxI F S Is key_Words.loops) Try.f104 [t0] h K = key_Words.H (ctxI F S Is key_Words.loops) t0 h K := by kernel_rfl
theorem key_pieces.eq (F : List (FuncId × Contract)) (S : List (FuncId × Con)) (t0 : AV) (h : List AObj) (K : AOut → List AObj → Prop) : funW (ctx F S key_pieces.loops) Try.f128 [t0] h K = key_pieces.H (ctx F S key_pieces.loops) t0 h K := by kernel_rfl
theorem key_pieces_1.eq (F : List (FuncId × Contract)) (S : List (FuncId × Con)) (l : Nat) (Y : Con) (t0 t1 : AV) (h : List AObj) (K : AOut → List AObj → Prop) : funW ((ctx F S key_pieces_1.loops).withY l Y) Try.f145 [t0, t1] h K = key_pieces_1.H ((ctx F S key_pieces_1.loops).withY l Y) t0 t1 h K := by kernel_rfl
theorem key_Text.at : Try.prog.funcs[101]? = some Try.f101 := by kernel_rfl
theorem key_Text.nm : (Try.f101.name == "runtime.NumGoroutine") = false := by kernel_rfl
theorem key_Text.bd : Try.f101.body.isNone = false := by kernel_rfl
theorem key_Check.at : Try.prog.funcs[102]? = some Try.f102 := by kernel_rfl
theorem key_Check.nm : (Try.f102.name == "runtime.NumGoroutine") = false := by kernel_rfl
theorem key_Check.bd : Try.f102.body.isNone = false := by kernel_rfl
theorem key_CheckVal.at : Try.prog.funcs[103]? = some Try.f103 := by kernel_rfl
theorem key_CheckVal.nm : (Try.f103.name == "runtime.NumGoroutine") = false := by kernel_rfl
theorem key_CheckVal.bd : Try.f103.body.isNone = false := by kernel_rfl
theorem key_Words.at : Try.prog.funcs[104]? = some Try.f104 := by kernel_rfl
theorem key_Words.nm : (Try.f104.name == "runtime.NumGoroutine") = false := by kernel_rfl
theorem key_Words.bd : Try.f104.body.isNone = false := by kernel_rfl
theorem key_pieces.at : Try.prog.funcs[128]? = some Try.f128 := by kernel_rfl
theorem key_pieces.nm : (Try.f128.name == "runtime.NumGoroutine") = false := by kernel_rfl
theorem key_pieces.bd : Try.f128.body.isNone = false := by kernel_rfl
theorem key_pieces_1.at : Try.prog.funcs[145]? = some Try.f145 := by kernel_rfl
theorem key_pieces_1.nm : (Try.f145.name == "runtime.NumGoroutine") = false := by kernel_rfl
theorem key_pieces_1.bd : Try.f145.body.isNone = false := by kernel_rfl
end Lam
namespace Lam
open Go Go.Proofs
set_option linter.unusedVariables false
set_option linter.unnecessarySimpa false
set_option linter.unusedSimpArgs false
theorem key_Words_L1 (c : Ctx) (id : Nat) (r : Loop) (J : AV → AV → List AObj → Prop) (K : AOut → List AObj → Prop) (p : Bytes) (hp : p.length ≤ 7) (v k : Nat) (s : Bytes) (xs : List Int)
    (hJ : J (.ptr 0 []) (.int .i64 (pw p : Nat)) [.box (.sref false 2 v 0 k), .box (.str s), .row .own v (.ints .i64 xs), .lp .busy none r]) :
    key_Words.L1 c id r J K [.int .i64 0, .int .i64 0] [.box (.sref false 2 v 0 k), .box (.str s), .row .own v (.ints .i64 xs), .lp .busy none r] 4 (.ptr 0 []) (.str p) (.int .i64 p.length) := by
  unfold key_Words.L1
  refine ⟨fun m lv h' => ∃ j : Nat, j + m = p.length ∧ lv = [.int .i64 (pv (p.take j) * 256 ^ (7 - j) : Nat), .int .i64 j] ∧ h' = [.box (.sref false 2 v 0 k), .box (.str s), .row .own v (.ints .i64 xs), .lp .busy none r],
    ⟨p.length, 0, by omega, by simp [pv], rfl⟩, ?_⟩
  rintro m h' t4 t11 ⟨j, hj, hlv, rfl⟩
  simp only [List.cons.injEq, and_true] at hlv
  obtain ⟨rfl, rfl⟩ := hlv
  simp only [go_sem, Nat.reduceEqDiff, Nat.reduceLT, Nat.reduceAdd, Nat.reduceSub, Nat.reduceLeDiff, List.reduceReplicate, Int.reduceToNat]
  refine ⟨fun hlt => ?_, fun hge => ?_⟩
  · have hjp : j < p.length := by omega
    have e1 : IntKind.i64.wrap (6 - (j : Int)) = 6 - j := w64 (by omega) (by omega)
    refine ⟨by omega, by rw [e1, w64 (by omega) (by omega)]; omega, m - 1, by omega, j + 1, by omega, ?_⟩
    rw [pv_step p hp hjp, w64 (by omega) (by omega)]
    rfl
  · have : j = p.length := by omega
    subst this
    rw [List.take_length] at *
    exact hJ

def key_pieces_1.I : Con → Con := fun Y args h K => match args with
  | [.fn (.yield l) [] [], a0] => key_pieces_1.H ((ctx [] [] key_pieces_1.loops).withY l Y) (.fn (.yield l) [] []) a0 h K
  | _ => False
theorem key_pieces_1.spec : ISpec Try.prog 145 key_pieces_1.I := by
  refine ISpec.of (ctx_ok (F := []) (S := []) (by simp) (by simp) key_pieces_1.loops).toOkI key_pieces_1.at key_pieces_1.nm key_pieces_1.bd ?_
  intro Yc l cap h K hC
  unfold key_pieces_1.I at hC
  split at hC
  · rename_i e
    simp only [List.cons.injEq, AV.fn.injEq, Fn.yield.injEq, and_true, true_and] at e
    obtain ⟨rfl, rfl⟩ := e
    rw [key_pieces_1.eq]; exact hC
  · exact hC.elim
def key_pieces.K : Con := fun args h K => match args with
  | [a0] => key_pieces.H (ctx [] [] key_pieces.loops) a0 h K
  | _ => False
theorem key_pieces.spec : SSpec Try.prog 128 key_pieces.K := by
  refine SSpec.of (ctx_ok (F := []) (S := []) (by simp) (by simp) key_pieces.loops) key_pieces.at key_pieces.nm key_pieces.bd ?_
  intro args h K hC
  unfold key_pieces.K at hC
  split at hC
  · rw [key_pieces.eq]; exact hC
  · exact hC.elim
def key_Words.C : Contract
  | [.str s] => some (false, pD (roomy s.length) (.sl false (.ints .i64 (keyW s))))
  | _ => none
set_option maxRecDepth 20000 in
theorem key_Words.spec : FSpec Try.prog 104 key_Words.C := by
  refine FSpec.of (ctxI_ok (F := []) (S := [(128, key_pieces.K)]) (Is := [(145, key_pieces_1.I)]) (by simp) (by simpa using key_pieces.spec) (by simpa using key_pieces_1.spec) key_Words.loops) key_Words.at key_Words.nm key_Words.bd ?_
  intro vs b S v news e hS
  unfold key_Words.C at e
  split at e
  rotate_left
  · cases e
  cases e
  rw [key_Words.eq]
  unfold key_Words.H
  simp (maxSteps := 4000000) only [go_sem, Nat.reduceEqDiff, Nat.reduceLT, Nat.reduceAdd, Nat.reduceSub, Nat.reduceLeDiff, List.reduceReplicate, Int.reduceToNat, key_pieces.K, key_pieces.H, key_pieces_1.I, key_pieces_1.H, joinW_eq]
  rename_i s
  unfold roomy at hS
  intro l r
  unfold key_pieces_1.L1
  refine ⟨fun m lv h' => ∃ k v : Nat, k + m = nPieces s ∧ h' = [.box (.sref false 2 v 0 k), .box (.str (s.drop (7*k))), .row .own v (.ints .i64 ((keyW s).take k)), .lp .ready none r], ⟨nPieces s, 0, 0, by omega, by simp⟩, ?_⟩
  rintro m h' ⟨k, v, hk, rfl⟩
  have hwl : (keyW s).length = nPieces s := by simp [keyW]
  have hnp : nPieces s = (s.length + 6) / 7 := rfl
  have hacc : ((keyW s).take k).length = k := by simp; omega
  simp only [go_sem, Nat.reduceEqDiff, Nat.reduceLT, Nat.reduceAdd, Nat.reduceSub, Nat.reduceLeDiff, List.reduceReplicate, Int.reduceToNat, List.length_drop]
  refine ⟨fun hlt => ?_, fun hge => ?_⟩
  · have hn : (if ((s.length - 7 * k : Nat) : Int) < 7 then ((s.length - 7 * k : Nat) : Int) else 7) = ((min 7 (s.length - 7 * k) : Nat) : Int) := by split <;> omega
    simp only [hn, Int.toNat_natCast]
    have hpc : (s.drop (7 * k)).take (min 7 (s.length - 7 * k)) = pieceN s k := by
      unfold pieceN
      rcases Nat.lt_or_ge (s.length - 7 * k) 7 with h | h
      · rw [Nat.min_eq_right (by omega), List.take_of_length_le (by simp), List.take_of_length_le (by simp; omega)]
      · rw [Nat.min_eq_left (by omega)]
    rw [hpc]
    have hpl : (pieceN s k).length ≤ 7 := by unfold pieceN; simp; omega
    refine ⟨by omega, key_Words_L1 _ _ _ _ _ _ hpl _ _ _ _ ?_⟩
    simp only [go_sem, Nat.reduceEqDiff, Nat.reduceLT, Nat.reduceAdd, Nat.reduceSub, Nat.reduceLeDiff, List.reduceReplicate, Int.reduceToNat, hacc]
    have hkn : k < nPieces s := by omega
    have hnext : (keyW s).take (k + 1) = (keyW s).take k ++ [(pw (pieceN s k) : Int)] := by
      rw [take_next _ k 0 (by omega), getD_words s hkn]
    have hd : (s.drop (7 * k)).drop (min 7 (s.length - 7 * k)) = s.drop (7 * (k + 1)) := by
      rw [List.drop_drop]
      rcases Nat.lt_or_ge (s.length - 7 * k) 7 with h | h
      · rw [List.drop_eq_nil_of_le (by omega), List.drop_eq_nil_of_le (by omega)]
      · congr 1; omega
    have hl1 : ((keyW s).take (k + 1)).length = k + 1 := by simp; omega
    rw [← hnext, hd, hl1]
    refine ⟨by unfold roomy; omega, by simp; omega, m - 1, by omega, k + 1, v + 1, by omega, rfl⟩
  · have : k = nPieces s := by omega
    subst this
    rw [List.take_of_length_le (by omega)]
    refine post_val ?_ rfl
    have := hacc
    rw [List.take_of_length_le (by omega)] at this
    simp only [go_sem, Nat.reduceEqDiff, Nat.reduceLT, Nat.reduceAdd, Nat.reduceSub, Nat.reduceLeDiff, List.reduceReplicate, Int.reduceToNat, List.take_of_length_le (Nat.le_of_eq hwl)]
def textV (l : List Int) (n : Int) : AV := .tup [.str (if textB l n = true then textS l n else []), .int .i64 (if textB l n = true then 0 else 20)]
@[go_sem] theorem textV_noSl (l : List Int) (n : Int) : (textV l n).noSl = true := (rfl)
theorem text_bad {l : List Int} {n : Int} (hb : textB l n = false) (h : List AObj) : Post false (textV l n) [] (.ret (.tup [.str [], .int .i64 20])) h := by
  unfold textV; rw [hb]; exact post_val rfl rfl
def key_Text.C : Contract
  | [.sl _ (.ints .i64 l), .int .i64 n] => some (false, pD (roomy (7 * l.length) ∧ n < 9223372036854775808) (textV l n))
  | _ => none
theorem key_Text_L2 (c : Ctx) (J : AV → AV → AV → AV → AV → List AObj → Prop) (K : AOut → List AObj → Prop) (n w : Int) (l pre : List Int) (v k len : Nat) (hr : pre.length + 7 ≤ 1099511627776)
    (hJ : J (.int .i64 n) (.sref false 0 (v + 7) 0 (pre.length + 7)) (.sl false (.ints .i64 l)) (.int .i64 len) (.int .i64 k) [.row .own (v + 7) (.ints .u8 (pre ++ sevenI w))]) :
    key_Text.L2 c J K [.sref false 0 v 0 pre.length, .int .i64 0] [.row .own v (.ints .u8 pre)] 1 (.int .i64 n) (.int .i64 w) (.sl false (.ints .i64 l)) (.int .i64 len) (.int .i64 k) := by
  unfold key_Text.L2
  refine ⟨fun m lv h' => ∃ j : Nat, j + m = 7 ∧ lv = [.sref false 0 (v + j) 0 (pre.length + j), .int .i64 j] ∧ h' = [.row .own (v + j) (.ints .u8 (pre ++ (List.range j).map (byteI w)))],
    ⟨7, 0, by omega, by simp, by simp⟩, ?_⟩
  rintro m h' t6 t41 ⟨j, hj, hlv, rfl⟩
  simp only [List.cons.injEq, and_true] at hlv
  obtain ⟨rfl, rfl⟩ := hlv
  have hlen : (pre ++ (List.range j).map (byteI w)).length = pre.length + j := by simp
  simp only [go_sem, Nat.reduceEqDiff, Nat.reduceLT, Nat.reduceAdd, Nat.reduceSub, Nat.reduceLeDiff, List.reduceReplicate, Int.reduceToNat, hlen]
  refine ⟨fun hlt => ?_, fun hge => ?_⟩
  · have e1 : IntKind.i64.wrap (6 - (j : Int)) = 6 - j := w64 (by omega) (by omega)
    have e2 : IntKind.i64.wrap (8 * (6 - (j : Int))) = 8 * (6 - j) := w64 (by omega) (by omega)
    have e3 : (8 * (6 - (j : Int))).toNat = 8 * (6 - j) := by omega
    have e4 : min (8 * (6 - j)) 64 = 8 * (6 - j) := by omega
    simp only [e1, e2, e3, e4]
    have hz : (List.range j).map (byteI w) ++ [IntKind.u8.wrap (w.fdiv (2 ^ (8 * (6 - j))))] = (List.range (j + 1)).map (byteI w) := by rw [List.range_succ]; simp [byteI]
    have hl2 : (pre ++ (List.range (j + 1)).map (byteI w)).length = pre.length + (j + 1) := by simp
    rw [hz, hl2, w64 (by omega) (by omega)]
    exact ⟨by omega, by unfold roomy; omega, m - 1, by omega, j + 1, by omega, rfl, rfl⟩
  · have : j = 7 := by omega
    subst this
    exact hJ

set_option maxRecDepth 20000 in
theorem key_Text.spec : FSpec Try.prog 101 key_Text.C := by
  refine FSpec.of (ctx_ok (F := []) (S := []) (by simp) (by simp) key_Text.loops) key_Text.at key_Text.nm key_Text.bd ?_
  intro vs b S v news e hS
  unfold key_Text.C at e
  split at e
  rotate_left
  · cases e
  cases e
  rw [key_Text.eq]
  unfold key_Text.H
  simp (maxSteps := 4000000) only [go_sem, Nat.reduceEqDiff, Nat.reduceLT, Nat.reduceAdd, Nat.reduceSub, Nat.reduceLeDiff, List.reduceReplicate, Int.reduceToNat]
  rename_i l n
  unfold roomy at hS
  obtain ⟨hS, hn63⟩ := hS
  refine ⟨fun _ => by decide, fun hb => text_bad ?_ _, fun hb => ?_⟩
  · have hb : (!decide (n < 0) && decide ((l.length : Int) = lenT n)) = false := by
      unfold lenT
      revert hb
      cases decide (n < 0) <;> simp
    unfold textB
    rw [hb]; rfl
  have hb1 : ¬ n < 0 := by intro h; simp [h] at hb
  have hb2 : (l.length : Int) = lenT n := by
    rw [decide_eq_false hb1, Bool.false_or, Bool.not_eq_false', decide_eq_true_eq] at hb
    exact hb
  have e7 : IntKind.i64.wrap (7 * (l.length : Int)) = ((7 * l.length : Nat) : Int) := by rw [w64 (by omega) (by omega)]; omega
  refine ⟨⟨by omega, by rw [e7]; omega, by rw [e7, Int.toNat_natCast]; exact hS⟩, ?_⟩
  rw [joinW_eq]
  unfold key_Text.L1
  refine ⟨fun m lv h' => ∃ k v : Nat, k + m = l.length ∧ lv = [.sref false 0 v 0 (7 * k), .int .i64 k] ∧ h' = [.row .own v (.ints .u8 (flatI (l.take k)))] ∧ (l.take k).all wMay = true,
    ⟨l.length, 0, 0, by omega, rfl, rfl, rfl⟩, ?_⟩
  rintro m h' t6 t31 ⟨k, v, hk, hlv, rfl, hall⟩
  simp only [List.cons.injEq, and_true] at hlv
  obtain ⟨rfl, rfl⟩ := hlv
  have hfl : (flatI (l.take k)).length = 7 * k := by rw [flatI_len, List.length_take, Nat.min_eq_left (by omega)]
  simp only [go_sem, Nat.reduceEqDiff, Nat.reduceLT, Nat.reduceAdd, Nat.reduceSub, Nat.reduceLeDiff, List.reduceReplicate, Int.reduceToNat, hfl]
  refine ⟨fun hlt => ?_, fun hge => ?_⟩
  · have hkl : k < l.length := by omega
    rw [joinW_eq]
    refine ⟨by omega, fun hbad => text_bad ?_ _, fun hok => ?_⟩
    · have : l.all wMay = false := by
        rw [List.all_eq_false]
        refine ⟨_, getD_mem l k 0 hkl, fun h => ?_⟩
        simp only [wMay, Bool.and_eq_true, decide_eq_true_eq] at h
        simp only [Bool.or_eq_true, decide_eq_true_eq] at hbad
        omega
      simp [textB, this]
    · have hw : wMay (l.getD k 0) = true := by
        simp only [Bool.or_eq_false_iff, decide_eq_false_iff_not] at hok
        simp only [wMay, Bool.and_eq_true, decide_eq_true_eq]; omega
      rw [joinW_eq]
      have hL2 := key_Text_L2 (ctx [] [] key_Text.loops)
      rw [← hfl]
      refine hL2 _ _ _ _ _ _ _ _ _ (by rw [hfl]; omega) ?_
      have hnx : flatI (l.take k) ++ sevenI (l.getD k 0) = flatI (l.take (k + 1)) := by
        rw [take_next l k 0 hkl]; simp [flatI]
      rw [hnx, hfl]
      simp only [go_sem, Nat.reduceEqDiff, Nat.reduceLT, Nat.reduceAdd, Nat.reduceSub, Nat.reduceLeDiff, List.reduceReplicate, Int.reduceToNat]
      have hmx : ¬ (False) := id
      refine ⟨m - 1, by omega, k + 1, v + 7, by omega, by rw [w64 (by omega) (by omega)]; rfl, rfl, ?_⟩
      rw [take_next l k 0 hkl, List.all_append, hall, Bool.true_and, List.all_cons, hw]
      rfl
  · have : k = l.length := by omega
    subst this
    rw [List.take_length] at *
    obtain ⟨N, rfl⟩ : ∃ N : Nat, n = N := ⟨n.toNat, by omega⟩
    have hN : (l.length : Int) = ((N + 6) / 7 : Nat) := by rw [hb2, lenT_nat N (by omega)]
    refine ⟨by omega, ?_⟩
    rw [joinW_eq, Int.toNat_natCast]
    unfold key_Text.L3
    refine ⟨fun m lv h' => ∃ j : Nat, j + m = 7 * l.length - N ∧ lv = [.int .i64 j] ∧ h' = [.row .own v (.ints .u8 (flatI l))] ∧ ∀ i, i < j → (flatI l).getD (N + i) 0 = 0,
      ⟨_, 0, Nat.zero_add _, rfl, rfl, fun i hi => by omega⟩, ?_⟩
    rintro m h' t59 ⟨j, hj, hlv, rfl, hz⟩
    simp only [List.cons.injEq, and_true] at hlv
    subst hlv
    simp only [go_sem, Nat.reduceEqDiff, Nat.reduceLT, Nat.reduceAdd, Nat.reduceSub, Nat.reduceLeDiff, List.reduceReplicate, Int.reduceToNat, hfl]
    refine ⟨fun hlt => ⟨by omega, by omega, fun h0 => text_bad ?_ _, fun h0 => ?_⟩, fun hge => ⟨by omega, ?_⟩⟩
    · have : ((flatI l).drop N).all (fun b => decide (b = 0)) = false := by
        rw [List.all_eq_false]
        have hjl : j < ((flatI l).drop N).length := by rw [List.length_drop, hfl]; omega
        have e : ((flatI l).drop N).getD j 0 = (flatI l).getD (N + j) 0 := by rw [List.getD_eq_getElem?_getD, List.getD_eq_getElem?_getD, List.getElem?_drop]
        exact ⟨_, getD_mem _ j 0 hjl, by rw [e]; simpa using h0⟩
      simp [textB, this]
    · refine ⟨m - 1, by omega, j + 1, by omega, by rw [w64 (by omega) (by omega)]; rfl, fun i hi => ?_⟩
      by_cases e : i = j
      · subst e; exact h0
      · exact hz i (by omega)
    · have hj2 : j = 7 * l.length - N := by omega
      have hzero : ((flatI l).drop N).all (fun b => decide (b = 0)) = true := by
        rw [List.all_eq_true]
        intro b hb
        obtain ⟨i, hi, rfl⟩ := List.getElem_of_mem hb
        rw [List.length_drop, hfl] at hi
        have := hz i (by omega)
        rw [List.getD_eq_getElem?_getD, List.getElem?_eq_getElem (by rw [hfl]; omega)] at this
        rw [List.getElem_drop]
        simpa using this
      have hB : textB l N = true := by
        unfold textB
        rw [hall, Int.toNat_natCast, hzero, decide_eq_false hb1, decide_eq_true hb2]; rfl
      unfold textV textS
      simp only [hB, if_true]
      exact post_val rfl rfl
def key_Check.C : Contract
  | [.str s] => some (false, pD True (.bool (decide (s ≠ []) && decide ((s.length : Int) ≤ 21))))
  | _ => none
set_option maxRecDepth 20000 in
theorem key_Check.spec : FSpec Try.prog 102 key_Check.C := by
  refine FSpec.of (ctx_ok (F := []) (S := []) (by simp) (by simp) key_Check.loops) key_Check.at key_Check.nm key_Check.bd ?_
  intro vs b S v news e hS
  unfold key_Check.C at e
  split at e
  rotate_left
  · cases e
  cases e
  rw [key_Check.eq]
  unfold key_Check.H
  simp (maxSteps := 4000000) only [go_sem, Nat.reduceEqDiff, Nat.reduceLT, Nat.reduceAdd, Nat.reduceSub, Nat.reduceLeDiff, List.reduceReplicate, Int.reduceToNat]
  rename_i s
  have : (decide ¬s = []) = !decide (s = []) := by by_cases h : s = [] <;> simp [h]
  rw [this]
  exact post_val rfl rfl
def key_CheckVal.C : Contract
  | [.str s] => some (false, pD True (.bool (decide ((s.length : Int) ≤ 21))))
  | _ => none
set_option maxRecDepth 20000 in
theorem key_CheckVal.spec : FSpec Try.prog 103 key_CheckVal.C := by
  refine FSpec.of (ctx_ok (F := []) (S := []) (by simp) (by simp) key_CheckVal.loops) key_CheckVal.at key_CheckVal.nm key_CheckVal.bd ?_
  intro vs b S v news e hS
  unfold key_CheckVal.C at e
  split at e
  rotate_left
  · cases e
  cases e
  rw [key_CheckVal.eq]
  unfold key_CheckVal.H
  simp (maxSteps := 4000000) only [go_sem, Nat.reduceEqDiff, Nat.reduceLT, Nat.reduceAdd, Nat.reduceSub, Nat.reduceLeDiff, List.reduceReplicate, Int.reduceToNat]
  exact post_val rfl rfl
end Lam
namespace Lam
open Go Go.Proofs
set_option linter.unusedVariables false
def sum_Of.loops : Nat → LInfo
  | 4 => ⟨[4, 10], [false, false], [3, 8, 9], [], [], []⟩
  | _ => ⟨[], [], [], [], [], []⟩
def sum_Of.L1 (c : Ctx) (J1 : AV → List AObj → Prop) (K : AOut → List AObj → Prop) (lv : List AV) (h0 : List AObj) (n0 : Nat) (c3 : AV) (c8 : AV) (c9 : AV) : Prop :=
  ∃ I : Nat → List AV → List AObj → Prop, (∃ n, I n lv h0) ∧ ∀ n h, ∀ t4, ∀ t10, I n [t4, t10] h →
    runD (binD T_int .lss t10 c9) h fun t11 h =>
    condW t11
    (runD (indexAddrD T_sl_int h c8 t10) h fun t12 h =>
    runD (fitD T_int (loadD h t12)) h fun t13 h =>
    callW false c (.fn (.func 135) [] []) [c3, t4, t13] h (fun t16 h =>
    runD (binD T_int .add t10 (.int .i64 1)) h fun t17 h =>
    (∃ m, m < n ∧ I m (AV.norms n0 h [t16, t17]) (normH n0 h)) ∧ AV.norms n0 h [c3, c8, c9] = [c3, c8, c9])
    (fun v h => K (.pan v) h))
    (J1 t4 h)
def sum_Of.H (c : Ctx) (t0 : AV) (h : List AObj) (K : AOut → List AObj → Prop) : Prop :=
  callW false c (.fn (.func 134) [] []) [] h (fun t7 h =>
  allocW T_256_uint32 h fun t3 h =>
  runH (storeH T_256_uint32 h t3 t7) h fun _ h =>
  runD (lenD T_sl_int h t0) h fun t9 h =>
  joinW (fun (J1 : AV → List AObj → Prop) =>
  promV [false, false] [(.int .u32 4294967295), (.int .i64 0)] h fun lv h => sum_Of.L1 c J1 K (AV.norms h.length h lv) (normH h.length h) h.length (AV.norm h.length h t3) (AV.norm h.length h t0) (AV.norm h.length h t9))
  (fun t4 h => runD (unD .xor t4) h fun t19 h =>
  runD (convD h T_uint32 T_int t19) h fun t20 h =>
  K (.ret t20) h))
  (fun v h => K (.pan v) h)
def sum_table.loops : Nat → LInfo
  | 2 => ⟨[3], [false], [0], [], [], []⟩
  | 6 => ⟨[2, 8], [false, false], [0, 1, 3], [], [], []⟩
  | _ => ⟨[], [], [], [], [], []⟩
def sum_table.L2 (c : Ctx) (J3 : AV → AV → AV → AV → List AObj → Prop) (K : AOut → List AObj → Prop) (lv : List AV) (h0 : List AObj) (n0 : Nat) (c0 : AV) (c1 : AV) (c3 : AV) : Prop :=
  ∃ I : Nat → List AV → List AObj → Prop, (∃ n, I n lv h0) ∧ ∀ n h, ∀ t2, ∀ t8, I n [t2, t8] h →
    runD (binD T_int .lss t8 (.int .i64 8)) h fun t9 h =>
    condW t9
    (runD (binD T_uint32 .shr t2 (.int .u64 1)) h fun t11 h =>
    runD (binD T_uint32 .and t2 (.int .u32 1)) h fun t13 h =>
    runD (unD .neg t13) h fun t14 h =>
    runD (binD T_uint32 .and (.int .u32 3988292384) t14) h fun t15 h =>
    runD (binD T_uint32 .xor t11 t15) h fun t16 h =>
    runD (binD T_int .add t8 (.int .i64 1)) h fun t17 h =>
    (∃ m, m < n ∧ I m (AV.norms n0 h [t16, t17]) (normH n0 h)) ∧ AV.norms n0 h [c0, c1, c3] = [c0, c1, c3])
    (J3 c0 c1 t2 c3 h)
def sum_table.L1 (c : Ctx) (J1 : AV → List AObj → Prop) (K : AOut → List AObj → Prop) (lv : List AV) (h0 : List AObj) (n0 : Nat) (c0 : AV) : Prop :=
  ∃ I : Nat → List AV → List AObj → Prop, (∃ n, I n lv h0) ∧ ∀ n h, ∀ t3, I n [t3] h →
    runD (binD T_int .lss t3 (.int .i64 256)) h fun t4 h =>
    condW t4
    (joinW (fun (J2 : AV → AV → List AObj → Prop) =>
    runD (convD h T_int T_uint32 t3) h fun t7 h =>
    joinW (fun (J3 : AV → AV → AV → AV → List AObj → Prop) =>
    promV [false, false] [t7, (.int .i64 0)] h fun lv h => sum_table.L2 c J3 K (AV.norms h.length h lv) (normH h.length h) h.length (AV.norm h.length h c0) (AV.norm h.length h t3) (AV.norm h.length h t3))
    (fun t0 t1 t2 t3 h => runD (indexAddrD T_256_uint32 h t0 t1) h fun t20 h =>
    runH (storeH T_uint32 h t20 t2) h fun _ h =>
    J2 t0 t3 h))
    (fun t0 t3 h => runD (binD T_int .add t3 (.int .i64 1)) h fun t21 h =>
    (∃ m, m < n ∧ I m (AV.norms n0 h [t21]) (normH n0 h)) ∧ AV.norms n0 h [t0] = [c0]))
    (J1 c0 h)
def sum_table.H (c : Ctx) (h : List AObj) (K : AOut → List AObj → Prop) : Prop :=
  allocW T_256_uint32 h fun t0 h =>
  joinW (fun (J1 : AV → List AObj → Prop) =>
  promV [false] [(.int .i64 0)] h fun lv h => sum_table.L1 c J1 K (AV.norms h.length h lv) (normH h.length h) h.length (AV.norm h.length h t0))
  (fun t0 h => runD (fitD T_256_uint32 (loadD h t0)) h fun t22 h =>
  runH (storeH T_256_uint32 h t0 t22) h fun _ h =>
  loadRes (fitD T_256_uint32 (loadD h t0)) fun r0 => K (.ret r0) h)
def sum_word.loops : Nat → LInfo
  | 2 => ⟨[1, 7], [false, false], [0, 2], [], [], []⟩
  | _ => ⟨[], [], [], [], [], []⟩
def sum_word.L1 (c : Ctx) (J1 : AV → List AObj → Prop) (K : AOut → List AObj → Prop) (lv : List AV) (h0 : List AObj) (n0 : Nat) (c0 : AV) (c2 : AV) : Prop :=
  ∃ I : Nat → List AV → List AObj → Prop, (∃ n, I n lv h0) ∧ ∀ n h, ∀ t1, ∀ t7, I n [t1, t7] h →
    runD (binD T_int .geq t7 (.int .i64 0)) h fun t9 h =>
    condW t9
    (runD (convD h T_int T_uint64 c2) h fun t15 h =>
    runD (binD T_uint64 .shr t15 t7) h fun t17 h =>
    runD (convD h T_uint64 T_uint8 t17) h fun t18 h =>
    callW false c (.fn (.func 149) [] []) [c0, t1, t18] h (fun t19 h =>
    runD (binD T_int .sub t7 (.int .i64 8)) h fun t11 h =>
    (∃ m, m < n ∧ I m (AV.norms n0 h [t19, t11]) (normH n0 h)) ∧ AV.norms n0 h [c0, c2] = [c0, c2])
    (fun v h => K (.pan v) h))
    (J1 t1 h)
def sum_word.H (c : Ctx) (t0 : AV) (t1 : AV) (t2 : AV) (h : List AObj) (K : AOut → List AObj → Prop) : Prop :=
  joinW (fun (J1 : AV → List AObj → Prop) =>
  promV [false, false] [t1, (.int .i64 56)] h fun lv h => sum_word.L1 c J1 K (AV.norms h.length h lv) (normH h.length h) h.length (AV.norm h.length h t0) (AV.norm h.length h t2))
  (fun t1 h => K (.ret t1) h)
def sum_with.loops : Nat → LInfo
  | _ => ⟨[], [], [], [], [], []⟩
def sum_with.H (c : Ctx) (t0 : AV) (t1 : AV) (t2 : AV) (h : List AObj) (K : AOut → List AObj → Prop) : Prop :=
  runD (binD T_uint32 .shr t1 (.int .u64 8)) h fun t8 h =>
  runD (convD h T_uint32 T_uint8 t1) h fun t11 h =>
  runD (binD T_uint8 .xor t11 t2) h fun t13 h =>
  runD (nilCheckD t0) h fun t14 h =>
  runD (indexAddrD T_256_uint32 h t14 t13) h fun t15 h =>
  runD (fitD T_uint32 (loadD h t15)) h fun t16 h =>
  runD (binD T_uint32 .xor t8 t16) h fun t17 h =>
  K (.ret t17) h
theorem sum_Of.eq (F : List (FuncId × Contract)) (S : List (FuncId × Con)) (t0 : AV) (h : List AObj) (K : AOut → List AObj → Prop) : funW (ctx F S sum_Of.loops) Try.f109 [t0] h K = sum_Of.H (ctx F S sum_Of.loops) t0 h K := by kernel_rfl
theorem sum_table.eq (F : List (FuncId × Contract)) (S : List (FuncId × Con)) (h : List AObj) (K : AOut → List AObj → Prop) : funW (ctx F S sum_table.loops) Try.f134 [] h K = sum_table.H (ctx F S sum_table.loops)  h K := by kernel_rfl
theorem sum_word.eq (F : List (FuncId × Contract)) (S : List (FuncId × Con)) (t0 t1 t2 : AV) (h : List AObj) (K : AOut → List AObj → Prop) : funW (ctx F S sum_word.loops) Try.f135 [t0, t1, t2] h K = sum_word.H (ctx F S sum_word.loops) t0 t1 t2 h K := by kernel_rfl
theorem sum_with.eq (F : List (FuncId × Contract)) (S : List (FuncId × Con)) (t0 t1 t2 : AV) (h : List AObj) (K : AOut → List AObj → Prop) : funW (ctx F S sum_with.loops) Try.f149 [t0, t1, t2] h K = sum_with.H (ctx F S sum_with.loops) t0 t1 t2 h K := by kernel_rfl
theorem sum_Of.at : Try.prog.funcs[109]? = some Try.f109 := by kernel_rfl
theorem sum_Of.nm : (Try.f109.name == "runtime.NumGoroutine") = false := by kernel_rfl
theorem sum_Of.bd : Try.f109.body.isNone = false := by kernel_rfl
theorem sum_table.at : Try.prog.funcs[134]? = some Try.f134 := by kernel_rfl
theorem sum_table.nm : (Try.f134.name == "runtime.NumGoroutine") = false := by kernel_rfl
theorem sum_table.bd : Try.f134.body.isNone = false := by kernel_rfl
theorem sum_word.at : Try.prog.funcs[135]? = some Try.f135 := by kernel_rfl
theorem sum_word.nm : (Try.f135.name == "runtime.NumGoroutine") = false := by kernel_rfl
theorem sum_word.bd : Try.f135.body.isNone = false := by kernel_rfl
theorem sum_with.at : Try.prog.funcs[149]? = some Try.f149 := by kernel_rfl
theorem sum_with.nm : (Try.f149.name == "runtime.NumGoroutine") = false := by kernel_rfl
theorem sum_with.bd : Try.f149.body.isNone = false := by kernel_rfl
end Lam
set_option linter.unnecessarySimpa false
set_option linter.unusedSectionVars false
namespace Lam
open Go Go.Proofs
set_option linter.unusedVariables false
set_option linter.unusedSimpArgs false
theorem sum_table_L2 (c t3 : Int) (xs : List Int) (h : List AObj) (J : AV → AV → AV → AV → List AObj → Prop) (K : AOut → List AObj → Prop) (hh : h = [AObj.row .arr 0 (.ints .u32 xs)])
    (hJ : J (.ptr 0 []) (.int .i64 t3) (.int .u32 (bitN 8 c)) (.int .i64 t3) h) :
    sum_table.L2 (ctx [] [] sum_table.loops) J K [.int .u32 c, .int .i64 0] h 1 (.ptr 0 []) (.int .i64 t3) (.int .i64 t3) := by
  unfold sum_table.L2
  refine ⟨fun n lv h' => ∃ k : Nat, k + n = 8 ∧ lv = [.int .u32 (bitN k c), .int .i64 k] ∧ h' = h, ⟨8, 0, rfl, rfl, rfl⟩, ?_⟩
  rintro n h' t2 t8 ⟨k, hk, hlv, rfl⟩
  simp only [List.cons.injEq, and_true] at hlv
  obtain ⟨rfl, rfl⟩ := hlv
  subst hh
  simp only [go_sem, Nat.reduceLT]
  refine ⟨fun hlt => ⟨by decide, n - 1, by omega, k + 1, by omega, ?_⟩, fun hge => ?_⟩
  · rw [w64 (by omega) (by omega)]
    rfl
  · have : k = 8 := by omega
    subst this; exact hJ

theorem sum_table_L1 (J : AV → List AObj → Prop) (K : AOut → List AObj → Prop) (hJ : J (.ptr 0 []) [AObj.row .arr 0 (.ints .u32 tabL)]) :
    sum_table.L1 (ctx [] [] sum_table.loops) J K [.int .i64 0] [AObj.row .arr 0 (.ints .u32 (List.replicate 256 0))] 1 (.ptr 0 []) := by
  unfold sum_table.L1
  refine ⟨fun n lv h' => ∃ k : Nat, k + n = 256 ∧ lv = [.int .i64 k] ∧ h' = [AObj.row .arr 0 (.ints .u32 ((List.range k).map tabE ++ List.replicate n 0))], ⟨256, 0, rfl, rfl, rfl⟩, ?_⟩
  rintro n h' t3 ⟨k, hk, hlv, rfl⟩
  simp only [List.cons.injEq, and_true] at hlv
  subst hlv
  simp only [go_sem, Nat.reduceLT]
  refine ⟨fun hlt => ?_, fun hge => ?_⟩
  · simp only [joinW_eq]
    apply sum_table_L2 _ _ _ _ _ _ rfl
    have hlen : ((List.range k).map tabE ++ List.replicate n 0).length = 256 := by simp; omega
    simp only [go_sem, Nat.reduceLT, hlen, Int.toNat_natCast]
    refine ⟨by omega, by omega, n - 1, by omega, k + 1, by omega, ?_, ?_⟩
    · rw [w64 (by omega) (by omega)]; rfl
    · obtain ⟨m, rfl⟩ : ∃ m, n = m + 1 := ⟨n - 1, by omega⟩
      simp [List.range_succ, List.replicate_succ, tabE]
  · have hn : n = 0 := by omega
    have hk : k = 256 := by omega
    subst hn hk
    simpa [tabL] using hJ

theorem sum_table_vc : sum_table.H (ctx [] [] sum_table.loops) [] (Post false (.arr (.ints .u32 tabL)) []) := by
  unfold sum_table.H
  simp only [go_sem, Nat.reduceLT]
  simp only [joinW_eq]
  apply sum_table_L1
  have : tabL.length = 256 := by simp [tabL]
  simp only [go_sem, this]
  exact post_val rfl rfl

def sum_table.C : Contract
  | [] => some (false, pD True (.arr (.ints .u32 tabL)))
  | _ => none
theorem sum_table.spec : FSpec Try.prog 134 sum_table.C := by
  refine FSpec.of (ctx_ok (F := []) (S := []) (by simp) (by simp) sum_table.loops) sum_table.at sum_table.nm sum_table.bd ?_
  intro vs b S v news e hS
  unfold sum_table.C at e
  split at e
  rotate_left
  · cases e
  rw [sum_table.eq]
  cases e
  exact sum_table_vc
def sum_with.K : Con := fun args h K => match args with
  | [a0, a1, a2] => sum_with.H (ctx [] [] sum_with.loops) a0 a1 a2 h K
  | _ => False
theorem sum_with.spec : SSpec Try.prog 149 sum_with.K := by
  refine SSpec.of (ctx_ok (F := []) (S := []) (by simp) (by simp) sum_with.loops) sum_with.at sum_with.nm sum_with.bd ?_
  intro args h K hC
  unfold sum_with.K at hC
  split at hC
  · rw [sum_with.eq]; exact hC
  · exact hC.elim
theorem sum_with_vc (t : List Int) (ht : t.length = 256) (c b : Int) (h : List AObj) (K : AOut → List AObj → Prop) (id : Nat) (hid : h[id]? = some (.row .arr 0 (.ints .u32 t))) (hK : K (.ret (.int .u32 (withS t c b))) h) :
    sum_with.K [.ptr id [], .int .u32 c, .int .u8 b] h K := by
  unfold sum_with.K
  simp only
  unfold sum_with.H
  simp only [go_sem, hid, ht]
  have hr : 0 ≤ xorI .u8 (IntKind.u8.wrap c) b ∧ xorI .u8 (IntKind.u8.wrap c) b < 256 := u8_range _
  exact ⟨by decide, hr, (Int.toNat_lt hr.1).2 hr.2, hK⟩

def sum_word.K : Con := fun args h K => match args with
  | [a0, a1, a2] => sum_word.H (ctx [] [(149, sum_with.K)] sum_word.loops) a0 a1 a2 h K
  | _ => False
theorem sum_word.spec : SSpec Try.prog 135 sum_word.K := by
  refine SSpec.of (ctx_ok (F := []) (S := [(149, sum_with.K)]) (by simp) (by simpa using sum_with.spec) sum_word.loops) sum_word.at sum_word.nm sum_word.bd ?_
  intro args h K hC
  unfold sum_word.K at hC
  split at hC
  · rw [sum_word.eq]; exact hC
  · exact hC.elim
theorem sum_word_vc (t : List Int) (ht : t.length = 256) (c w : Int) (h : List AObj) (K : AOut → List AObj → Prop) (hh : h = [.row .arr 0 (.ints .u32 t)]) (hK : K (.ret (.int .u32 (wordS t c w))) h) :
    sum_word.K [.ptr 0 [], .int .u32 c, .int .i64 w] h K := by
  unfold sum_word.K
  simp only
  unfold sum_word.H
  subst hh
  simp only [joinW_eq, go_sem, Nat.reduceLT]
  unfold sum_word.L1
  refine ⟨fun n lv h' => ∃ k : Nat, k + n = 8 ∧ lv = [.int .u32 (wordN t w k c), .int .i64 (56 - 8 * k)] ∧ h' = [.row .arr 0 (.ints .u32 t)], ⟨8, 0, rfl, rfl, rfl⟩, ?_⟩
  rintro n h' t1 t7 ⟨k, hk, hlv, rfl⟩
  simp only [List.cons.injEq, and_true] at hlv
  obtain ⟨rfl, rfl⟩ := hlv
  simp only [go_sem, Nat.reduceLT, Nat.reduceEqDiff]
  refine ⟨fun hlt => ?_, fun hge => ?_⟩
  · refine ⟨hlt, ?_⟩
    apply sum_with_vc t ht _ _ _ _ _ rfl
    simp only [go_sem, Nat.reduceLT]
    refine ⟨n - 1, by omega, k + 1, by omega, ?_⟩
    rw [w64 (by omega) (by omega)]
    simp only [wordN]
    congr 3
    omega
  · have : k = 8 := by omega
    subst this; exact hK

def sum_Of.C : Contract
  | [.sl _ (.ints .i64 l)] => some (false, pD (roomy l.length) (.int .i64 (sumOf l)))
  | _ => none
theorem sum_Of.spec : FSpec Try.prog 109 sum_Of.C := by
  refine FSpec.of (ctx_ok (F := [(134, sum_table.C)]) (S := [(135, sum_word.K)]) (by simpa using sum_table.spec) (by simpa using sum_word.spec) sum_Of.loops) sum_Of.at sum_Of.nm sum_Of.bd ?_
  intro vs b S v news e hS
  unfold sum_Of.C at e
  split at e
  rotate_left
  · cases e
  rw [sum_Of.eq]
  rename_i x l
  cases e
  unfold roomy at hS
  unfold sum_Of.H
  have htl : tabL.length = 256 := tabL_len
  simp only [go_sem, Nat.reduceEqDiff, Nat.reduceLT, sum_table.C, htl, List.length_replicate, joinW_eq]
  unfold sum_Of.L1
  refine ⟨fun n lv h' => ∃ k : Nat, k + n = l.length ∧ lv = [.int .u32 ((l.take k).foldl (wordS tabL) 4294967295), .int .i64 k] ∧ h' = [.row .arr 0 (.ints .u32 tabL)], ⟨l.length, 0, by omega, rfl, rfl⟩, ?_⟩
  rintro n h' t4 t10 ⟨k, hk, hlv, rfl⟩
  simp only [List.cons.injEq, and_true] at hlv
  obtain ⟨rfl, rfl⟩ := hlv
  simp only [go_sem, Nat.reduceLT, Nat.reduceEqDiff]
  refine ⟨fun hlt => ?_, fun hge => ?_⟩
  · refine ⟨by omega, ?_⟩
    apply sum_word_vc tabL htl _ _ _ _ rfl
    simp only [go_sem, Nat.reduceLT]
    refine ⟨n - 1, by omega, k + 1, by omega, ?_⟩
    rw [w64 (by omega) (by omega)]
    have hkl : k < l.length := by omega
    have : l.take (k + 1) = l.take k ++ [l.getD k 0] := by
      rw [List.take_add_one, List.getElem?_eq_getElem hkl, List.getD_eq_getElem?_getD, List.getElem?_eq_getElem hkl]; rfl
    rw [this, List.foldl_append]
    rfl
  · have : k = l.length := by omega
    subst this
    rw [List.take_length]
    exact post_val rfl rfl
end Lam
namespace Lam
open Go Go.Proofs
set_option linter.unusedVariables false
def rec_Read.loops : Nat → LInfo
  | 1 => ⟨[], [], [], [(3, none), (5, some [11, 16])], [], []⟩
  | _ => ⟨[], [], [], [], [], []⟩
def rec_Read.H (c : Ctx) (t0 : AV) (t1 : AV) (h : List AObj) (K : AOut → List AObj → Prop) : Prop :=
  allocW T_api_Rec h fun t4 h =>
  runD (binD T_int .lss t1 (.int .i64 0)) h fun t10 h =>
  joinW (fun (J1 : AV → AV → List AObj → Prop) =>
  guardW t10 false
  (runD (lenD T_sl_int h t0) h fun t14 h =>
    runD (binD T_int .quo t14 (.int .i64 16)) h fun t15 h =>
    runD (binD T_int .geq t1 t15) h fun t16 h =>
    J1 (.bool false) t16 h)
  (J1 (.bool true) .und h))
  (fun t11 t16 h => runD (pickD t11 (.bool true) t16) h fun t17 h =>
  condW t17
  (runD (buildD T_api_Rec []) h fun t18 h =>
    runH (storeH T_api_Rec h t4 t18) h fun _ h =>
    loadRes (fitD T_api_Rec (loadD h t4)) fun r0 => K (.ret (.tup [r0, (.int .i64 1)])) h)
  (allocW T_rec_form h fun t6 h =>
  runD (sliceD T_rec_form h t6 none none none) h fun t19 h =>
  runD (binD T_int .mul (.int .i64 16) t1) h fun t22 h =>
  runD (sliceD T_sl_int h t0 (some t22) none none) h fun t23 h =>
  runM (copyH T_sl_int h t19 t23) h fun t24 h =>
  runD (indexAddrD T_rec_form h t6 (.int .i64 0)) h fun t25 h =>
  runD (fitD T_int (loadD h t25)) h fun t26 h =>
  runD (buildD T_api_Rec [(0, t26)]) h fun t27 h =>
  allocW T_api_Rec h fun t7 h =>
  runH (storeH T_api_Rec h t7 t27) h fun _ h =>
  runD (fitD T_rec_form (loadD h t6)) h fun t29 h =>
  runD (indexAddrD T_rec_form h t6 (.int .i64 1)) h fun t30 h =>
  runD (fitD T_int (loadD h t30)) h fun t31 h =>
  runD (binD T_int .quo t31 (.int .i64 32)) h fun t32 h =>
  callW false c (.fn (.func 73) [] []) [t29, (.int .i64 3), t32] h (fun t33 h =>
  runD (extractD t33 0) h fun t34 h =>
  runD (extractD t33 1) h fun t35 h =>
  runD (fieldAddrD T_api_Rec t7 1) h fun t36 h =>
  runH (storeH T_string h t36 t34) h fun _ h =>
  runD (unD .not t35) h fun t38 h =>
  condW t38
  (runD (buildD T_api_Rec []) h fun t39 h =>
    runH (storeH T_api_Rec h t4 t39) h fun _ h =>
    loadRes (fitD T_api_Rec (loadD h t4)) fun r0 => K (.ret (.tup [r0, (.int .i64 70)])) h)
  (runD (fieldAddrD T_api_Rec t7 0) h fun t40 h =>
  runD (fitD T_int (loadD h t40)) h fun t41 h =>
  runD (binD T_int .eql t41 (.int .i64 1)) h fun t43 h =>
  joinW (fun (J2 : AV → List AObj → Prop) =>
  condW t43
  (runD (fitD T_rec_form (loadD h t6)) h fun t45 h =>
    runD (indexAddrD T_rec_form h t6 (.int .i64 1)) h fun t46 h =>
    runD (fitD T_int (loadD h t46)) h fun t47 h =>
    runD (binD T_int .rem t47 (.int .i64 32)) h fun t48 h =>
    callW false c (.fn (.func 73) [] []) [t45, (.int .i64 6), t48] h (fun t49 h =>
    runD (extractD t49 0) h fun t50 h =>
    runD (extractD t49 1) h fun t51 h =>
    runD (fieldAddrD T_api_Rec t7 2) h fun t52 h =>
    runH (storeH T_string h t52 t50) h fun _ h =>
    J2 t51 h)
    (fun v h => K (.pan v) h))
  (runD (binD T_int .eql t41 (.int .i64 2)) h fun t54 h =>
    joinW (fun (J3 : List AObj → Prop) =>
    condW t54
    (runD (indexAddrD T_rec_form h t6 (.int .i64 6)) h fun t55 h =>
      runD (fitD T_int (loadD h t55)) h fun t56 h =>
      runD (fieldAddrD T_api_Rec t7 3) h fun t57 h =>
      runH (storeH T_int h t57 t56) h fun _ h =>
      J3 h)
    (J3 h))
    (fun h => J2 t35 h)))
  (fun t8 h => runD (unD .not t8) h fun t59 h =>
  joinW (fun (J4 : AV → AV → List AObj → Prop) =>
  guardW t59 false
  (runD (fitD T_api_Rec (loadD h t7)) h fun t61 h =>
    callW false c.noS (.fn (.func 74) [] []) [t61] h (fun t62 h =>
    runD (unD .not t62) h fun t63 h =>
    J4 (.bool false) t63 h)
    (fun _ _ => False))
  (J4 (.bool true) .und h))
  (fun t60 t63 h => runD (pickD t60 (.bool true) t63) h fun t64 h =>
  joinW (fun (J5 : AV → AV → List AObj → Prop) =>
  guardW t64 false
  (runD (fitD T_api_Rec (loadD h t7)) h fun t66 h =>
    callW false c.noS (.fn (.func 75) [] []) [t66] h (fun t67 h =>
    runD (fitD T_rec_form (loadD h t6)) h fun t68 h =>
    runD (binD T_rec_form .neq t67 t68) h fun t69 h =>
    J5 (.bool false) t69 h)
    (fun _ _ => False))
  (J5 (.bool true) .und h))
  (fun t65 t69 h => runD (pickD t65 (.bool true) t69) h fun t70 h =>
  condW t70
  (runD (buildD T_api_Rec []) h fun t71 h =>
    runH (storeH T_api_Rec h t4 t71) h fun _ h =>
    loadRes (fitD T_api_Rec (loadD h t4)) fun r0 => K (.ret (.tup [r0, (.int .i64 70)])) h)
  (runD (fitD T_api_Rec (loadD h t7)) h fun t72 h =>
  runH (storeH T_api_Rec h t4 t72) h fun _ h =>
  loadRes (fitD T_api_Rec (loadD h t4)) fun r0 => K (.ret (.tup [r0, (.int .i64 0)])) h))))))
  (fun v h => K (.pan v) h)))
def rec_Words.loops : Nat → LInfo
  | _ => ⟨[], [], [], [], [], []⟩
def rec_Words.H (c : Ctx) (t0 : AV) (h : List AObj) (K : AOut → List AObj → Prop) : Prop :=
  boxW T_api_Rec t0 h fun t1 h =>
  runD (fitD T_api_Rec (loadD h t1)) h fun t5 h =>
  callW false c (.fn (.func 74) [] []) [t5] h (fun t6 h =>
  runD (unD .not t6) h fun t7 h =>
  condW t7
  (K (.ret (.tup [(.sl true (.ints .i64 [])), (.int .i64 70)])) h)
  (runD (fitD T_api_Rec (loadD h t1)) h fun t8 h =>
  callW false c (.fn (.func 75) [] []) [t8] h (fun t9 h =>
  allocW T_rec_form h fun t4 h =>
  runH (storeH T_rec_form h t4 t9) h fun _ h =>
  runD (sliceD T_rec_form h t4 none none none) h fun t10 h =>
  K (.ret (.tup [t10, (.int .i64 0)])) h)
  (fun v h => K (.pan v) h)))
  (fun v h => K (.pan v) h)
def rec_text.loops : Nat → LInfo
  | 1 => ⟨[], [], [], [(3, none), (2, some [12, 14])], [], []⟩
  | _ => ⟨[], [], [], [], [], []⟩
def rec_text.H (c : Ctx) (t0 : AV) (t1 : AV) (t2 : AV) (h : List AObj) (K : AOut → List AObj → Prop) : Prop :=
  boxW T_rec_form t0 h fun t3 h =>
  runD (binD T_int .lss t2 (.int .i64 0)) h fun t11 h =>
  joinW (fun (J1 : AV → AV → List AObj → Prop) =>
  guardW t11 false
  (runD (binD T_int .gtr t2 (.int .i64 21)) h fun t14 h =>
    J1 (.bool false) t14 h)
  (J1 (.bool true) .und h))
  (fun t12 t14 h => runD (pickD t12 (.bool true) t14) h fun t15 h =>
  condW t15
  (K (.ret (.tup [(.str []), (.bool false)])) h)
  (runD (binD T_int .add t2 (.int .i64 6)) h fun t20 h =>
  runD (binD T_int .quo t20 (.int .i64 7)) h fun t21 h =>
  runD (binD T_int .add t1 t21) h fun t22 h =>
  runD (sliceD T_rec_form h t3 (some t1) (some t22) none) h fun t23 h =>
  callW false c (.fn (.func 101) [] []) [t23, t2] h (fun t25 h =>
  runD (extractD t25 0) h fun t26 h =>
  runD (extractD t25 1) h fun t27 h =>
  runD (binD T_api_Errno .eql t27 (.int .i64 0)) h fun t30 h =>
  K (.ret (.tup [t26, t30])) h)
  (fun v h => K (.pan v) h)))
def rec_Check.loops : Nat → LInfo
  | 3 => ⟨[], [], [], [(4, none), (3, some [10, 13]), (2, none), (3, some [15, 18])], [], []⟩
  | 5 => ⟨[], [], [], [(4, none), (3, some [25, 28]), (2, none), (3, some [30, 33]), (2, none), (3, some [35, 38]), (2, none), (3, some [40, 43])], [], []⟩
  | _ => ⟨[], [], [], [], [], []⟩
def rec_Check.H (c : Ctx) (t0 : AV) (h : List AObj) (K : AOut → List AObj → Prop) : Prop :=
  boxW T_api_Rec t0 h fun t1 h =>
  runD (fieldAddrD T_api_Rec t1 0) h fun t3 h =>
  runD (fitD T_int (loadD h t3)) h fun t4 h =>
  runD (binD T_int .eql t4 (.int .i64 1)) h fun t6 h =>
  condW t6
  (runD (fieldAddrD T_api_Rec t1 1) h fun t7 h =>
    runD (fitD T_string (loadD h t7)) h fun t8 h =>
    callW false c (.fn (.func 102) [] []) [t8] h (fun t9 h =>
    joinW (fun (J1 : AV → AV → List AObj → Prop) =>
    guardW t9 true
    (runD (fieldAddrD T_api_Rec t1 2) h fun t11 h =>
      runD (fitD T_string (loadD h t11)) h fun t12 h =>
      callW false c (.fn (.func 103) [] []) [t12] h (fun t13 h =>
      J1 (.bool true) t13 h)
      (fun v h => K (.pan v) h))
    (J1 (.bool false) .und h))
    (fun t10 t13 h => runD (pickD t10 t13 (.bool false)) h fun t14 h =>
    joinW (fun (J2 : AV → AV → List AObj → Prop) =>
    guardW t14 true
    (runD (fieldAddrD T_api_Rec t1 3) h fun t16 h =>
      runD (fitD T_int (loadD h t16)) h fun t17 h =>
      runD (binD T_int .eql t17 (.int .i64 0)) h fun t18 h =>
      J2 (.bool true) t18 h)
    (J2 (.bool false) .und h))
    (fun t15 t18 h => runD (pickD t15 t18 (.bool false)) h fun t19 h =>
    K (.ret t19) h)))
    (fun v h => K (.pan v) h))
  (runD (binD T_int .eql t4 (.int .i64 2)) h fun t21 h =>
    condW t21
    (runD (fieldAddrD T_api_Rec t1 1) h fun t22 h =>
      runD (fitD T_string (loadD h t22)) h fun t23 h =>
      runD (binD T_string .eql t23 (.str [])) h fun t24 h =>
      joinW (fun (J3 : AV → AV → List AObj → Prop) =>
      guardW t24 false
      (runD (fieldAddrD T_api_Rec t1 1) h fun t26 h =>
        runD (fitD T_string (loadD h t26)) h fun t27 h =>
        callW false c (.fn (.func 102) [] []) [t27] h (fun t28 h =>
        J3 (.bool false) t28 h)
        (fun v h => K (.pan v) h))
      (J3 (.bool true) .und h))
      (fun t25 t28 h => runD (pickD t25 (.bool true) t28) h fun t29 h =>
      joinW (fun (J4 : AV → AV → List AObj → Prop) =>
      guardW t29 true
      (runD (fieldAddrD T_api_Rec t1 2) h fun t31 h =>
        runD (fitD T_string (loadD h t31)) h fun t32 h =>
        runD (binD T_string .eql t32 (.str [])) h fun t33 h =>
        J4 (.bool true) t33 h)
      (J4 (.bool false) .und h))
      (fun t30 t33 h => runD (pickD t30 t33 (.bool false)) h fun t34 h =>
      joinW (fun (J5 : AV → AV → List AObj → Prop) =>
      guardW t34 true
      (runD (fieldAddrD T_api_Rec t1 3) h fun t36 h =>
        runD (fitD T_int (loadD h t36)) h fun t37 h =>
        runD (binD T_int .gtr t37 (.int .i64 0)) h fun t38 h =>
        J5 (.bool true) t38 h)
      (J5 (.bool false) .und h))
      (fun t35 t38 h => runD (pickD t35 t38 (.bool false)) h fun t39 h =>
      joinW (fun (J6 : AV → AV → List AObj → Prop) =>
      guardW t39 true
      (runD (fieldAddrD T_api_Rec t1 3) h fun t41 h =>
        runD (fitD T_int (loadD h t41)) h fun t42 h =>
        runD (binD T_int .lss t42 (.int .i64 256)) h fun t43 h =>
        J6 (.bool true) t43 h)
      (J6 (.bool false) .und h))
      (fun t40 t43 h => runD (pickD t40 t43 (.bool false)) h fun t44 h =>
      K (.ret t44) h)))))
    (K (.ret (.bool false)) h))
def rec_of.loops : Nat → LInfo
  | _ => ⟨[], [], [], [], [], []⟩
def rec_of.H (c : Ctx) (t0 : AV) (h : List AObj) (K : AOut → List AObj → Prop) : Prop :=
  boxW T_api_Rec t0 h fun t1 h =>
  allocW T_rec_form h fun t2 h =>
  runD (fieldAddrD T_api_Rec t1 0) h fun t4 h =>
  runD (fitD T_int (loadD h t4)) h fun t5 h =>
  runD (fieldAddrD T_api_Rec t1 1) h fun t6 h =>
  runD (fitD T_string (loadD h t6)) h fun t7 h =>
  runD (lenD T_string h t7) h fun t8 h =>
  runD (binD T_int .mul (.int .i64 32) t8) h fun t9 h =>
  runD (fieldAddrD T_api_Rec t1 2) h fun t10 h =>
  runD (fitD T_string (loadD h t10)) h fun t11 h =>
  runD (lenD T_string h t11) h fun t12 h =>
  runD (binD T_int .add t9 t12) h fun t13 h =>
  runD (buildD T_rec_form [(0, t5), (1, t13)]) h fun t14 h =>
  allocW T_rec_form h fun t3 h =>
  runH (storeH T_rec_form h t3 t14) h fun _ h =>
  runD (sliceD T_rec_form h t3 (some (.int .i64 3)) none none) h fun t15 h =>
  runD (fieldAddrD T_api_Rec t1 1) h fun t16 h =>
  runD (fitD T_string (loadD h t16)) h fun t17 h =>
  callW false c.noS (.fn (.func 104) [] []) [t17] h (fun t18 h =>
  runM (copyH T_sl_int h t15 t18) h fun t19 h =>
  runD (sliceD T_rec_form h t3 (some (.int .i64 6)) none none) h fun t20 h =>
  runD (fieldAddrD T_api_Rec t1 2) h fun t21 h =>
  runD (fitD T_string (loadD h t21)) h fun t22 h =>
  callW false c.noS (.fn (.func 104) [] []) [t22] h (fun t23 h =>
  runM (copyH T_sl_int h t20 t23) h fun t24 h =>
  runD (fieldAddrD T_api_Rec t1 0) h fun t25 h =>
  runD (fitD T_int (loadD h t25)) h fun t26 h =>
  runD (binD T_int .eql t26 (.int .i64 2)) h fun t27 h =>
  joinW (fun (J1 : List AObj → Prop) =>
  condW t27
  (runD (fieldAddrD T_api_Rec t1 3) h fun t28 h =>
    runD (fitD T_int (loadD h t28)) h fun t29 h =>
    runD (indexAddrD T_rec_form h t3 (.int .i64 6)) h fun t30 h =>
    runH (storeH T_int h t30 t29) h fun _ h =>
    J1 h)
  (J1 h))
  (fun h => runD (fitD T_rec_form (loadD h t3)) h fun t31 h =>
  callW false c (.fn (.func 105) [] []) [t31] h (fun t32 h =>
  runH (storeH T_rec_form h t2 t32) h fun _ h =>
  loadRes (fitD T_rec_form (loadD h t2)) fun r0 => K (.ret r0) h)
  (fun v h => K (.pan v) h)))
  (fun _ _ => False))
  (fun _ _ => False)
def rec_summed.loops : Nat → LInfo
  | _ => ⟨[], [], [], [], [], []⟩
def rec_summed.H (c : Ctx) (t0 : AV) (h : List AObj) (K : AOut → List AObj → Prop) : Prop :=
  boxW T_rec_form t0 h fun t1 h =>
  allocW T_rec_form h fun t2 h =>
  runD (indexAddrD T_rec_form h t1 (.int .i64 0)) h fun t4 h =>
  runD (fitD T_int (loadD h t4)) h fun t5 h =>
  runD (indexAddrD T_rec_form h t1 (.int .i64 1)) h fun t6 h =>
  runD (fitD T_int (loadD h t6)) h fun t7 h =>
  runD (buildSliceD T_sl_int 2 [(0, t5), (1, t7)] h.length) h fun t8 h =>
  runD (sliceD T_rec_form h t1 (some (.int .i64 3)) none none) h fun t9 h =>
  runDM (appendD T_sl_int h t8 t9 h.length) (appendH T_sl_int h t8 t9) h fun t10 h =>
  callW false c (.fn (.func 109) [] []) [t10] h (fun t12 h =>
  runD (indexAddrD T_rec_form h t1 (.int .i64 2)) h fun t13 h =>
  runH (storeH T_int h t13 t12) h fun _ h =>
  runD (fitD T_rec_form (loadD h t1)) h fun t14 h =>
  runH (storeH T_rec_form h t2 t14) h fun _ h =>
  loadRes (fitD T_rec_form (loadD h t2)) fun r0 => K (.ret r0) h)
  (fun v h => K (.pan v) h)
theorem rec_Read.eq (F : List (FuncId × Contract)) (S : List (FuncId × Con)) (t0 t1 : AV) (h : List AObj) (K : AOut → List AObj → Prop) : funW (ctx F S rec_Read.loops) Try.f37 [t0, t1] h K = rec_Read.H (ctx F S rec_Read.loops) t0 t1 h K := by kernel_rfl
theorem rec_Words.eq (F : List (FuncId × Contract)) (S : List (FuncId × Con)) (t0 : AV) (h : List AObj) (K : AOut → List AObj → Prop) : funW (ctx F S rec_Words.loops) Try.f60 [t0] h K = rec_Words.H (ctx F S rec_Words.loops) t0 h K := by kernel_rfl
theorem rec_text.eq (F : List (FuncId × Contract)) (S : List (FuncId × Con)) (t0 t1 t2 : AV) (h : List AObj) (K : AOut → List AObj → Prop) : funW (ctx F S rec_text.loops) Try.f73 [t0, t1, t2] h K = rec_text.H (ctx F S rec_text.loops) t0 t1 t2 h K := by kernel_rfl
theorem rec_Check.eq (F : List (FuncId × Contract)) (S : List (FuncId × Con)) (t0 : AV) (h : List AObj) (K : AOut → List AObj → Prop) : funW (ctx F S rec_Check.loops) Try.f74 [t0] h K = rec_Check.H (ctx F S rec_Check.loops) t0 h K := by kernel_rfl
theorem rec_of.eq (F : List (FuncId × Contract)) (S : List (FuncId × Con)) (t0 : AV) (h : List AObj) (K : AOut → List AObj → Prop) : funW (ctx F S rec_of.loops) Try.f75 [t0] h K = rec_of.H (ctx F S rec_of.loops) t0 h K := by kernel_rfl
theorem rec_summed.eq (F : List (FuncId × Contract)) (S : List (FuncId × Con)) (t0 : AV) (h : List AObj) (K : AOut → List AObj → Prop) : funW (ctx F S rec_summed.loops) Try.f105 [t0] h K = rec_summed.H (ctx F S rec_summed.loops) t0 h K := by kernel_rfl
theorem rec_Read.at : Try.prog.funcs[37]? = some Try.f37 := by kernel_rfl
theorem rec_Read.nm : (Try.f37.name == "runtime.NumGoroutine") = false := by kernel_rfl
theorem rec_Read.bd : Try.f37.body.isNone = false := by kernel_rfl
theorem rec_Words.at : Try.prog.funcs[60]? = some Try.f60 := by kernel_rfl
theorem rec_Words.nm : (Try.f60.name == "runtime.NumGoroutine") = false := by kernel_rfl
theorem rec_Words.bd : Try.f60.body.isNone = false := by kernel_rfl
theorem rec_text.at : Try.prog.funcs[73]? = some Try.f73 := by kernel_rfl
theorem rec_text.nm : (Try.f73.name == "runtime.NumGoroutine") = false := by kernel_rfl
theorem rec_text.bd : Try.f73.body.isNone = false := by kernel_rfl
theorem rec_Check.at : Try.prog.funcs[74]? = some Try.f74 := by kernel_rfl
theorem rec_Check.nm : (Try.f74.name == "runtime.NumGoroutine") = false := by kernel_rfl
theorem rec_Check.bd : Try.f74.body.isNone = false := by kernel_rfl
theorem rec_of.at : Try.prog.funcs[75]? = some Try.f75 := by kernel_rfl
theorem rec_of.nm : (Try.f75.name == "runtime.NumGoroutine") = false := by kernel_rfl
theorem rec_of.bd : Try.f75.body.isNone = false := by kernel_rfl
theorem rec_summed.at : Try.prog.funcs[105]? = some Try.f105 := by kernel_rfl
theorem rec_summed.nm : (Try.f105.name == "runtime.NumGoroutine") = false := by kernel_rfl
theorem rec_summed.bd : Try.f105.body.isNone = false := by kernel_rfl
end Lam
namespace Lam
open Go Go.Proofs
set_option linter.unusedVariables false
set_option linter.unnecessarySimpa false
set_option linter.unusedSimpArgs false
def rec_Check.C : Contract
  | [.agg [.int .i64 a, .str k, .str v, .int .i64 c]] => some (false, pD True (.bool (recB ⟨a, k, v, c⟩)))
  | _ => none
set_option maxRecDepth 20000 in
theorem rec_Check.spec : FSpec Try.prog 74 rec_Check.C := by
  refine FSpec.of (ctx_ok (F := [(102, key_Check.C), (103, key_CheckVal.C)]) (S := []) (by simpa using ⟨key_Check.spec, key_CheckVal.spec⟩) (by simp) rec_Check.loops) rec_Check.at rec_Check.nm rec_Check.bd ?_
  intro vs b S v news e hS
  unfold rec_Check.C at e
  split at e
  rotate_left
  · cases e
  cases e
  rw [rec_Check.eq]
  unfold rec_Check.H
  simp (maxSteps := 4000000) only [go_sem, Nat.reduceEqDiff, Nat.reduceLT, Nat.reduceAdd, Nat.reduceSub, Nat.reduceLeDiff, List.reduceReplicate, Int.reduceToNat, key_Check.C, key_CheckVal.C]
  rename_i a k v c
  have r1 : a = 1 → recB ⟨a, k, v, c⟩ = (decide (¬ k = []) && decide ((List.length k : Int) ≤ 21) && decide ((List.length v : Int) ≤ 21) && decide (c = 0)) := by
    rintro rfl
    unfold recB keyB
    rw [Bool.eq_iff_iff]
    simp [and_assoc]
  have r2 : a = 2 → recB ⟨a, k, v, c⟩ = ((decide (k = []) || decide (¬ k = []) && decide ((List.length k : Int) ≤ 21)) && decide (v = []) && decide (0 < c) && decide (c < 256)) := by
    rintro rfl
    unfold recB keyB
    rw [Bool.eq_iff_iff]
    simp [and_assoc]
  have r3 : ¬ a = 1 → ¬ a = 2 → recB ⟨a, k, v, c⟩ = false := by
    intro h1 h2
    unfold recB
    rw [decide_eq_false h1, decide_eq_false h2]; rfl
  refine ⟨fun h => ?_, fun h => ⟨fun h2 => ?_, fun h2 => ?_⟩⟩
  · rw [r1 h]; exact post_val rfl rfl
  · rw [r2 h2]; exact post_val rfl rfl
  · rw [r3 h h2]; exact post_val rfl rfl
def rec_summed.C : Contract
  | [.arr (.ints .i64 l)] => some (false, pD (l.length = 16) (.arr (.ints .i64 (l.set 2 (sumOf (l.getD 0 0 :: l.getD 1 0 :: l.drop 3))))))
  | _ => none
set_option maxRecDepth 20000 in
theorem rec_summed.spec : FSpec Try.prog 105 rec_summed.C := by
  refine FSpec.of (ctx_ok (F := [(109, sum_Of.C)]) (S := []) (by simpa using sum_Of.spec) (by simp) rec_summed.loops) rec_summed.at rec_summed.nm rec_summed.bd ?_
  intro vs b S v news e hS
  unfold rec_summed.C at e
  split at e
  rotate_left
  · cases e
  cases e
  rw [rec_summed.eq]
  unfold rec_summed.H
  simp (maxSteps := 4000000) only [go_sem, Nat.reduceEqDiff, Nat.reduceLT, Nat.reduceAdd, Nat.reduceSub, Nat.reduceLeDiff, List.reduceReplicate, Int.reduceToNat, sum_Of.C]
  rename_i l
  simp only [hS, sum_Of.C, joinW_eq, guard_tt, guard_tf, guard_ft, guard_ff, Int.reduceEq, Int.reduceLT, Int.reduceLE, decide_false, decide_true, Bool.not_false, Bool.not_true, Bool.not_not, not_true_eq_false, not_false_eq_true, true_implies, false_implies, implies_true, and_true, true_and, reduceCtorEq, Bool.and_self, Bool.or_self, Bool.and_true, Bool.true_and, Bool.false_eq_true, if_true, if_false, go_sem, Nat.reduceEqDiff, Nat.reduceLT, Nat.reduceAdd, Nat.reduceSub, Nat.reduceLeDiff, List.reduceReplicate, Int.reduceToNat]
  have htk : (l.drop 3).take 13 = l.drop 3 := take_len _ (by simp; omega)
  rw [htk]
  have : roomy ((l.drop 3).length + 1 + 1) := by unfold roomy; simp; omega
  exact ⟨this, this, post_val rfl rfl⟩
def rec_of.C : Contract
  | [.agg [.int .i64 a, .str k, .str v, .int .i64 c]] => some (false, pD (Rc.ok ⟨a, k, v, c⟩) (.arr (.ints .i64 (formR ⟨a, k, v, c⟩))))
  | _ => none
set_option maxRecDepth 20000 in
theorem rec_of.spec : FSpec Try.prog 75 rec_of.C := by
  refine FSpec.of (ctx_ok (F := [(104, key_Words.C), (105, rec_summed.C)]) (S := []) (by simpa using ⟨key_Words.spec, rec_summed.spec⟩) (by simp) rec_of.loops) rec_of.at rec_of.nm rec_of.bd ?_
  intro vs b S v news e hS
  unfold rec_of.C at e
  split at e
  rotate_left
  · cases e
  cases e
  rw [rec_of.eq]
  unfold rec_of.H
  simp (maxSteps := 4000000) only [go_sem, Nat.reduceEqDiff, Nat.reduceLT, Nat.reduceAdd, Nat.reduceSub, Nat.reduceLeDiff, List.reduceReplicate, Int.reduceToNat, key_Words.C, rec_summed.C]
  rename_i a k v c
  have hok := hS
  have hk := three_len hS.key
  have hkl : (keyW k).length = (k.length + 6) / 7 := keyW_len k
  have hvl : (keyW v).length = (v.length + 6) / 7 := keyW_len v
  have q1 := hS.key
  have q2 := hS.val
  simp only at q1 q2 hk
  have e1 : IntKind.i64.wrap (IntKind.i64.wrap (32 * (List.length k : Int)) + (List.length v : Int)) = lensR ⟨a, k, v, c⟩ := by
    rw [w64 (n := 32 * (List.length k : Int)) (by omega) (by omega), w64 (by omega) (by omega)]; rfl
  rw [e1]
  generalize hm : lensR ⟨a, k, v, c⟩ = m at *
  have pad : ∀ (t : List Int), t.length ≤ 3 → t.take 13 ++ List.take (16 - (3 + min 13 t.length)) (List.drop (3 + min 13 t.length) [a, m, 0, 0, 0, 0, 0, 0, 0, 0, 0, 0, 0, 0, 0, 0]) = t ++ List.replicate (13 - t.length) 0 := by
    intro t ht
    rw [take_len t (by omega), Nat.min_eq_right (by omega)]
    congr 1
    have : ∀ n, n ≤ 3 → List.take (16 - (3 + n)) (List.drop (3 + n) [a, m, 0, 0, 0, 0, 0, 0, 0, 0, 0, 0, 0, 0, 0, 0]) = List.replicate (13 - n) 0 := by
      intro n hn
      rcases n with _|_|_|_|n <;> first | rfl | omega
    exact this _ ht
  have hkl3 : (keyW k).length ≤ 3 := by omega
  have hvl3 : (keyW v).length ≤ 3 := by omega
  rw [pad _ hkl3]
  have hL : (keyW k ++ List.replicate (13 - (keyW k).length) 0).length = 13 := by simp; omega
  simp only [hL, key_Words.C, joinW_eq, guard_tt, guard_tf, guard_ft, guard_ff, Int.reduceEq, Int.reduceLT, Int.reduceLE, decide_false, decide_true, Bool.not_false, Bool.not_true, Bool.not_not, not_true_eq_false, not_false_eq_true, true_implies, false_implies, implies_true, and_true, true_and, reduceCtorEq, Bool.and_self, Bool.or_self, Bool.and_true, Bool.true_and, Bool.false_eq_true, if_true, if_false, go_sem, Nat.reduceEqDiff, Nat.reduceLT, Nat.reduceAdd, Nat.reduceSub, Nat.reduceLeDiff, List.reduceReplicate, Int.reduceToNat]
  have hZ : List.take 3 (keyW k ++ List.replicate (13 - (keyW k).length) 0) = threeI k := by
    unfold threeI
    rw [List.take_append, take_len (keyW k) hkl3, List.take_replicate, Nat.min_eq_left (by omega)]
  have hT : List.take 10 (keyW v) ++ List.take (16 - (6 + min 10 (keyW v).length)) (List.drop (6 + min 10 (keyW v).length) (a :: m :: 0 :: (keyW k ++ List.replicate (13 - (keyW k).length) 0))) = keyW v ++ List.replicate (10 - (keyW v).length) 0 := by
    rw [take_len (keyW v) (by omega), Nat.min_eq_right (by omega)]
    congr 1
    rw [show 6 + (keyW v).length = (3 + (keyW v).length) + 1 + 1 + 1 from by omega, List.drop_succ_cons, List.drop_succ_cons, List.drop_succ_cons, List.drop_append, List.drop_eq_nil_of_le (by omega), List.nil_append, List.drop_replicate, List.take_replicate]
    congr 1; omega
  rw [hZ, hT]
  have hlen : (threeI k ++ (keyW v ++ List.replicate (10 - (keyW v).length) 0)).length = 13 := by simp [hk]; omega
  have hr1 : a ≠ 2 → threeI k ++ (keyW v ++ List.replicate (10 - (keyW v).length) 0) = restR ⟨a, k, v, c⟩ := by
    intro h
    unfold restR
    simp only [if_neg h]
    congr 1
    unfold threeI
    rw [List.append_assoc, List.replicate_append_replicate]
    congr 2; omega
  have hr2 : a = 2 → (threeI k ++ (keyW v ++ List.replicate (10 - (keyW v).length) 0)).set 3 c = restR ⟨a, k, v, c⟩ := by
    intro h
    have hv0 : v = [] := by
      rcases hok with h' | h'
      · have := h'.1; simp only at this; omega
      · exact h'.2.2.1
    subst hv0
    unfold restR
    simp only [if_pos h]
    rw [List.set_append_right _ _ (by omega), hk]
    rfl
  have hmr : m = lensR ⟨a, k, v, c⟩ := hm.symm
  simp only [hlen, rec_summed.C, joinW_eq, guard_tt, guard_tf, guard_ft, guard_ff, Int.reduceEq, Int.reduceLT, Int.reduceLE, decide_false, decide_true, Bool.not_false, Bool.not_true, Bool.not_not, not_true_eq_false, not_false_eq_true, true_implies, false_implies, implies_true, and_true, true_and, reduceCtorEq, Bool.and_self, Bool.or_self, Bool.and_true, Bool.true_and, Bool.false_eq_true, if_true, if_false, go_sem, Nat.reduceEqDiff, Nat.reduceLT, Nat.reduceAdd, Nat.reduceSub, Nat.reduceLeDiff, List.reduceReplicate, Int.reduceToNat]
  have hd3 : ∀ R : List Int, List.drop 3 (a :: m :: 0 :: R) = R := fun R => rfl
  refine ⟨by unfold roomy; omega, by unfold roomy; omega, fun h2 => ?_, fun h2 => ?_⟩
  · rw [hr2 h2, hd3, hmr]; exact post_val rfl rfl
  · rw [hr1 h2, hd3, hmr]; exact post_val rfl rfl
def rwordsV (x : Rc) : AV := if recB x = true then .tup [.sl false (.ints .i64 (formR x)), .int .i64 0] else .tup [.sl false (.ints .i64 []), .int .i64 70]
def rec_Words.C : Contract
  | [.agg [.int .i64 a, .str k, .str v, .int .i64 c]] => some (false, pD True (rwordsV ⟨a, k, v, c⟩))
  | _ => none
set_option maxRecDepth 20000 in
theorem rec_Words.spec : FSpec Try.prog 60 rec_Words.C := by
  refine FSpec.of (ctx_ok (F := [(74, rec_Check.C), (75, rec_of.C)]) (S := []) (by simpa using ⟨rec_Check.spec, rec_of.spec⟩) (by simp) rec_Words.loops) rec_Words.at rec_Words.nm rec_Words.bd ?_
  intro vs b S v news e hS
  unfold rec_Words.C at e
  split at e
  rotate_left
  · cases e
  cases e
  rw [rec_Words.eq]
  unfold rec_Words.H
  simp (maxSteps := 4000000) only [go_sem, Nat.reduceEqDiff, Nat.reduceLT, Nat.reduceAdd, Nat.reduceSub, Nat.reduceLeDiff, List.reduceReplicate, Int.reduceToNat, rec_Check.C, rec_of.C]
  rename_i a k v c
  refine ⟨fun h => ?_, fun h => ?_⟩
  · unfold rwordsV; rw [h]; exact post_val rfl rfl
  · have hok := rec_iff.1 h
    have hl := form_len hok
    unfold rwordsV
    simp only [h, hl, joinW_eq, guard_tt, guard_tf, guard_ft, guard_ff, Int.reduceEq, Int.reduceLT, Int.reduceLE, decide_false, decide_true, Bool.not_false, Bool.not_true, Bool.not_not, not_true_eq_false, not_false_eq_true, true_implies, false_implies, implies_true, and_true, true_and, reduceCtorEq, Bool.and_self, Bool.or_self, Bool.and_true, Bool.true_and, Bool.false_eq_true, if_true, if_false, go_sem, Nat.reduceEqDiff, Nat.reduceLT, Nat.reduceAdd, Nat.reduceSub, Nat.reduceLeDiff, List.reduceReplicate, Int.reduceToNat]
    refine ⟨hok, post_val ?_ rfl⟩
    simp only [go_sem, Nat.reduceEqDiff, Nat.reduceLT, Nat.reduceAdd, Nat.reduceSub, Nat.reduceLeDiff, List.reduceReplicate, Int.reduceToNat]
    rw [take_len _ (Nat.le_of_eq hl)]
def rec_text.C : Contract
  | [.arr (.ints .i64 l), .int .i64 a, .int .i64 n] => some (false, pD (l.length = 16 ∧ 0 ≤ a ∧ a ≤ 6) (.tup [.str (txtS l a.toNat n), .bool (txtB l a.toNat n)]))
  | _ => none
set_option maxRecDepth 20000 in
theorem rec_text.spec : FSpec Try.prog 73 rec_text.C := by
  refine FSpec.of (ctx_ok (F := [(101, key_Text.C)]) (S := []) (by simpa using key_Text.spec) (by simp) rec_text.loops) rec_text.at rec_text.nm rec_text.bd ?_
  intro vs b S v news e hS
  unfold rec_text.C at e
  split at e
  rotate_left
  · cases e
  cases e
  rw [rec_text.eq]
  unfold rec_text.H
  simp (maxSteps := 4000000) only [go_sem, Nat.reduceEqDiff, Nat.reduceLT, Nat.reduceAdd, Nat.reduceSub, Nat.reduceLeDiff, List.reduceReplicate, Int.reduceToNat, key_Text.C]
  rename_i l a n
  obtain ⟨hl, ha0, ha6⟩ := hS
  have eg : (decide (n < 0) || decide (21 < n)) = !(decide (0 ≤ n) && decide (n ≤ 21)) := by
    rw [Bool.eq_iff_iff]; simp only [Bool.or_eq_true, Bool.not_eq_true', Bool.and_eq_false_iff, decide_eq_true_eq, decide_eq_false_iff_not]; omega
  rw [eg]
  refine ⟨hl, fun h => ?_, fun h => ?_⟩
  · have hb : txtB l a.toNat n = false := by
      unfold txtB; rw [Bool.not_eq_true'] at h; rw [h]; rfl
    unfold txtS
    rw [hb]; exact post_val rfl rfl
  · rw [Bool.not_eq_false'] at h
    have h' := h
    simp only [Bool.and_eq_true, decide_eq_true_eq] at h'
    obtain ⟨N, rfl⟩ := Int.eq_ofNat_of_zero_le h'.1
    obtain ⟨A, rfl⟩ := Int.eq_ofNat_of_zero_le ha0
    have hN : N ≤ 21 := by omega
    have q0 : (N + 6) / 7 ≤ 3 := by omega
    have e1 : IntKind.i64.wrap ((N : Int) + 6) = ((N + 6 : Nat) : Int) := by rw [w64 (by omega) (by omega)]; omega
    have e2 : IntKind.i64.wrap (((N + 6 : Nat) : Int).tdiv 7) = (((N + 6) / 7 : Nat) : Int) := by
      rw [Int.tdiv_eq_ediv_of_nonneg (by omega), w64 (by omega) (by omega)]; omega
    have e3 : IntKind.i64.wrap ((A : Int) + (((N + 6) / 7 : Nat) : Int)) = ((A + (N + 6) / 7 : Nat) : Int) := by rw [w64 (by omega) (by omega)]; omega
    have e4 : A + (N + 6) / 7 - A = (N + 6) / 7 := by omega
    rw [e1, e2, e3]
    simp only [hl, Int.toNat_natCast, e4, key_Text.C, joinW_eq, guard_tt, guard_tf, guard_ft, guard_ff, Int.reduceEq, Int.reduceLT, Int.reduceLE, decide_false, decide_true, Bool.not_false, Bool.not_true, Bool.not_not, not_true_eq_false, not_false_eq_true, true_implies, false_implies, implies_true, and_true, true_and, reduceCtorEq, Bool.and_self, Bool.or_self, Bool.and_true, Bool.true_and, Bool.false_eq_true, if_true, if_false, go_sem, Nat.reduceEqDiff, Nat.reduceLT, Nat.reduceAdd, Nat.reduceSub, Nat.reduceLeDiff, List.reduceReplicate, Int.reduceToNat]
    have hbt : txtB l A (N : Int) = textB ((l.drop A).take ((N + 6) / 7)) N := by
      unfold txtB
      rw [Int.toNat_natCast, h, Bool.true_and]
    have hst : txtS l A (N : Int) = if textB ((l.drop A).take ((N + 6) / 7)) N = true then textS ((l.drop A).take ((N + 6) / 7)) N else [] := by
      unfold txtS
      rw [hbt, Int.toNat_natCast]
    have hw : roomy (7 * (List.take ((N + 6) / 7) (List.drop A l)).length) := by rw [List.length_take]; unfold roomy; omega
    rw [hst, hbt]
    unfold textV
    refine ⟨by omega, ⟨hw, by omega⟩, ?_⟩
    cases textB ((l.drop A).take ((N + 6) / 7)) N
    · simp only [joinW_eq, guard_tt, guard_tf, guard_ft, guard_ff, Int.reduceEq, Int.reduceLT, Int.reduceLE, decide_false, decide_true, Bool.not_false, Bool.not_true, Bool.not_not, not_true_eq_false, not_false_eq_true, true_implies, false_implies, implies_true, and_true, true_and, reduceCtorEq, Bool.and_self, Bool.or_self, Bool.and_true, Bool.true_and, Bool.false_eq_true, if_true, if_false, go_sem, Nat.reduceEqDiff, Nat.reduceLT, Nat.reduceAdd, Nat.reduceSub, Nat.reduceLeDiff, List.reduceReplicate, Int.reduceToNat]; exact post_val rfl rfl
    · simp only [joinW_eq, guard_tt, guard_tf, guard_ft, guard_ff, Int.reduceEq, Int.reduceLT, Int.reduceLE, decide_false, decide_true, Bool.not_false, Bool.not_true, Bool.not_not, not_true_eq_false, not_false_eq_true, true_implies, false_implies, implies_true, and_true, true_and, reduceCtorEq, Bool.and_self, Bool.or_self, Bool.and_true, Bool.true_and, Bool.false_eq_true, if_true, if_false, go_sem, Nat.reduceEqDiff, Nat.reduceLT, Nat.reduceAdd, Nat.reduceSub, Nat.reduceLeDiff, List.reduceReplicate, Int.reduceToNat]; exact post_val rfl rfl
def rreadV (words : List Int) (at_ : Int) : AV := if (decide (at_ < 0) || decide (((words.length / 16 : Nat) : Int) ≤ at_)) = true then .tup [zeroRc.V, .int .i64 1] else match recOf (blockAt words at_.toNat) with
  | some n => .tup [n.V, .int .i64 0]
  | none => .tup [zeroRc.V, .int .i64 70]
/-- as the program reckons it -/
def decP7 (w : List Int) : Rc := ⟨w.getD 0 0, txtS w 3 (IntKind.i64.wrap ((w.getD 1 0).tdiv 32)), if w.getD 0 0 = 1 then txtS w 6 ((w.getD 1 0).tmod 32) else [], if w.getD 0 0 = 2 then w.getD 6 0 else 0⟩
theorem lens_P {x : Rc} (h : x.ok) : IntKind.i64.wrap ((lensR x).tdiv 32) = x.key.length ∧ (lensR x).tmod 32 = x.val.length := by
  have hl := form_lens h
  rw [Int.tdiv_eq_ediv_of_nonneg hl.2.2.1, Int.tmod_eq_emod_of_nonneg hl.2.2.1, w64 (by omega) (by omega)]
  exact ⟨hl.1, hl.2.1⟩
theorem decP7_form {x : Rc} (h : x.ok) : decP7 (formR x) = x := by
  have hd := decC_form h
  have e1 : (formR x).getD 1 0 = lensR x := rfl
  have hl := form_lens h
  have hp := lens_P h
  unfold decC at hd
  unfold decP7
  rw [e1, hl.1, hl.2.1] at hd
  rw [e1, hp.1, hp.2]; exact hd
theorem recP_eq (w : List Int) : readC decP7 w = recOf w := readC_eq (fun n h => decP7_form h) (fun n h => decC_form h) w
theorem no_key {w : List Int} (h : txtB w 3 (IntKind.i64.wrap ((w.getD 1 0).tdiv 32)) = false) : recOf w = none := by
  apply recOf_none
  rintro x hx rfl
  have e1 : (formR x).getD 1 0 = lensR x := rfl
  rw [e1, (lens_P hx).1, (form_key hx).1] at h
  cases h
theorem no_val {w : List Int} (h1 : w.getD 0 0 = 1) (h : txtB w 6 ((w.getD 1 0).tmod 32) = false) : recOf w = none := by
  apply recOf_none
  rintro x hx rfl
  have e1 : (formR x).getD 1 0 = lensR x := rfl
  rw [e1, (lens_P hx).2, (form_val hx h1).1] at h
  cases h
def rec_Read.C : Contract
  | [.sl _ (.ints .i64 l), .int .i64 k] => some (false, pD (roomy l.length) (rreadV l k))
  | _ => none
set_option maxRecDepth 20000 in
theorem rec_Read.spec : FSpec Try.prog 37 rec_Read.C := by
  refine FSpec.of (ctx_ok (F := [(73, rec_text.C), (74, rec_Check.C), (75, rec_of.C)]) (S := []) (by simpa using ⟨rec_text.spec, rec_Check.spec, rec_of.spec⟩) (by simp) rec_Read.loops) rec_Read.at rec_Read.nm rec_Read.bd ?_
  intro vs b S v news e hS
  unfold rec_Read.C at e
  split at e
  rotate_left
  · cases e
  cases e
  rw [rec_Read.eq]
  unfold rec_Read.H
  simp (maxSteps := 4000000) only [go_sem, Nat.reduceEqDiff, Nat.reduceLT, Nat.reduceAdd, Nat.reduceSub, Nat.reduceLeDiff, List.reduceReplicate, Int.reduceToNat, rec_text.C, rec_Check.C, rec_of.C]
  rename_i l k
  have hrl := hS
  unfold roomy at hS
  have e0 : IntKind.i64.wrap ((l.length : Int).tdiv 16) = ((l.length / 16 : Nat) : Int) := by
    rw [Int.tdiv_eq_ediv_of_nonneg (by omega)]; exact w64 (by omega) (by omega)
  rw [e0]
  unfold rreadV
  refine ⟨fun _ => by decide, fun h => ?_, fun h => ?_⟩
  · rw [if_pos h]
    refine post_val ?_ rfl
    simp only [zeroRc, go_sem, Nat.reduceEqDiff, Nat.reduceLT, Nat.reduceAdd, Nat.reduceSub, Nat.reduceLeDiff, List.reduceReplicate, Int.reduceToNat]
  · rw [h]
    simp only [Bool.or_eq_false_iff, decide_eq_false_iff_not] at h
    obtain ⟨k, rfl⟩ := Int.eq_ofNat_of_zero_le (show 0 ≤ k by omega)
    have hk : 16 * k + 16 ≤ l.length := by omega
    have e1 : IntKind.i64.wrap (16 * (k : Int)) = 16 * (k : Int) := w64 (by omega) (by omega)
    have e5 : (16 * (k : Int)).toNat = 16 * k := by omega
    have hdl : (l.drop (16 * k)).length = l.length - 16 * k := by simp
    have et : (l.drop (16 * k)).take (l.length - 16 * k) = l.drop (16 * k) := take_len _ (by omega)
    have hbl : (blockAt l k).length = 16 := by unfold blockAt; simp; omega
    rw [e1, e5, et, hdl, Nat.min_eq_left (by omega)]
    have ew : (l.drop (16 * k)).take 16 ++ List.take (16 - 16) (List.drop 16 [0, 0, 0, 0, 0, 0, 0, 0, 0, 0, 0, 0, 0, 0, 0, 0]) = blockAt l k := by
      show (l.drop (16 * k)).take 16 ++ [] = _
      rw [List.append_nil]; rfl
    rw [ew, Int.toNat_natCast]
    generalize blockAt l k = w at *
    have hV : (decP7 w).V = .agg [.int .i64 (w.getD 0 0), .str (txtS w 3 (IntKind.i64.wrap ((w.getD 1 0).tdiv 32))), .str (if w.getD 0 0 = 1 then txtS w 6 ((w.getD 1 0).tmod 32) else []), .int .i64 (if w.getD 0 0 = 2 then w.getD 6 0 else 0)] := rfl
    simp only [hbl, rec_text.C, joinW_eq, guard_tt, guard_tf, guard_ft, guard_ff, Int.reduceEq, Int.reduceLT, Int.reduceLE, decide_false, decide_true, Bool.not_false, Bool.not_true, Bool.not_not, not_true_eq_false, not_false_eq_true, true_implies, false_implies, implies_true, and_true, true_and, reduceCtorEq, Bool.and_self, Bool.or_self, Bool.and_true, Bool.true_and, Bool.false_eq_true, if_true, if_false, go_sem, Nat.reduceEqDiff, Nat.reduceLT, Nat.reduceAdd, Nat.reduceSub, Nat.reduceLeDiff, List.reduceReplicate, Int.reduceToNat]
    refine ⟨by omega, fun hT => ?_, fun hT => ⟨fun h1 => ?_, fun h1 => ⟨fun h2 => ?_, fun h2 => ?_⟩⟩⟩
    · rw [no_key hT]
      refine post_val ?_ rfl
      simp only [zeroRc, go_sem, Nat.reduceEqDiff, Nat.reduceLT, Nat.reduceAdd, Nat.reduceSub, Nat.reduceLeDiff, List.reduceReplicate, Int.reduceToNat]
    · have hd1 : (⟨w.getD 0 0, txtS w 3 (IntKind.i64.wrap ((w.getD 1 0).tdiv 32)), txtS w 6 ((w.getD 1 0).tmod 32), 0⟩ : Rc) = decP7 w := by
        unfold decP7; rw [if_pos h1, if_neg (by omega)]
      cases h6 : txtB w 6 ((w.getD 1 0).tmod 32) with
      | false =>
        simp only [Bool.not_false, guard_tf]
        rw [no_val h1 h6]
        refine post_val ?_ rfl
        simp only [zeroRc, go_sem, Nat.reduceEqDiff, Nat.reduceLT, Nat.reduceAdd, Nat.reduceSub, Nat.reduceLeDiff, List.reduceReplicate, Int.reduceToNat]
      | true =>
        rw [← recP_eq]
        unfold readC
        cases hb : recB (decP7 w) with
        | false =>
          simp only [rec_Check.C, hd1, hb, Bool.false_and, Bool.false_eq_true, if_false, joinW_eq, guard_tt, guard_tf, guard_ft, guard_ff, Int.reduceEq, Int.reduceLT, Int.reduceLE, decide_false, decide_true, Bool.not_false, Bool.not_true, Bool.not_not, not_true_eq_false, not_false_eq_true, true_implies, false_implies, implies_true, and_true, true_and, reduceCtorEq, Bool.and_self, Bool.or_self, Bool.and_true, Bool.true_and, Bool.false_eq_true, if_true, if_false, go_sem, Nat.reduceEqDiff, Nat.reduceLT, Nat.reduceAdd, Nat.reduceSub, Nat.reduceLeDiff, List.reduceReplicate, Int.reduceToNat]
          refine post_val ?_ rfl
          simp only [zeroRc, go_sem, Nat.reduceEqDiff, Nat.reduceLT, Nat.reduceAdd, Nat.reduceSub, Nat.reduceLeDiff, List.reduceReplicate, Int.reduceToNat]
        | true =>
          have hok := rec_iff.1 hb
          have hfl := form_len hok
          simp only [rec_Check.C, rec_of.C, hd1, hb, hfl, hbl, Bool.true_and, joinW_eq, guard_tt, guard_tf, guard_ft, guard_ff, Int.reduceEq, Int.reduceLT, Int.reduceLE, decide_false, decide_true, Bool.not_false, Bool.not_true, Bool.not_not, not_true_eq_false, not_false_eq_true, true_implies, false_implies, implies_true, and_true, true_and, reduceCtorEq, Bool.and_self, Bool.or_self, Bool.and_true, Bool.true_and, Bool.false_eq_true, if_true, if_false, go_sem, Nat.reduceEqDiff, Nat.reduceLT, Nat.reduceAdd, Nat.reduceSub, Nat.reduceLeDiff, List.reduceReplicate, Int.reduceToNat]
          refine ⟨hok, fun h => ?_, fun h => ?_⟩
          · rw [if_neg h]
            refine post_val ?_ rfl
            simp only [zeroRc, go_sem, Nat.reduceEqDiff, Nat.reduceLT, Nat.reduceAdd, Nat.reduceSub, Nat.reduceLeDiff, List.reduceReplicate, Int.reduceToNat]
          · rw [if_pos h, ← hd1]
            exact post_val rfl rfl
    · have hd1 : (⟨w.getD 0 0, txtS w 3 (IntKind.i64.wrap ((w.getD 1 0).tdiv 32)), [], w.getD 6 0⟩ : Rc) = decP7 w := by
        unfold decP7; rw [if_neg (by omega), if_pos h2]
      rw [← recP_eq]
      unfold readC
      cases hb : recB (decP7 w) with
      | false =>
        simp only [hT, rec_Check.C, hd1, hb, Bool.false_and, Bool.false_eq_true, if_false, joinW_eq, guard_tt, guard_tf, guard_ft, guard_ff, Int.reduceEq, Int.reduceLT, Int.reduceLE, decide_false, decide_true, Bool.not_false, Bool.not_true, Bool.not_not, not_true_eq_false, not_false_eq_true, true_implies, false_implies, implies_true, and_true, true_and, reduceCtorEq, Bool.and_self, Bool.or_self, Bool.and_true, Bool.true_and, Bool.false_eq_true, if_true, if_false, go_sem, Nat.reduceEqDiff, Nat.reduceLT, Nat.reduceAdd, Nat.reduceSub, Nat.reduceLeDiff, List.reduceReplicate, Int.reduceToNat]
        refine post_val ?_ rfl
        simp only [zeroRc, go_sem, Nat.reduceEqDiff, Nat.reduceLT, Nat.reduceAdd, Nat.reduceSub, Nat.reduceLeDiff, List.reduceReplicate, Int.reduceToNat]
      | true =>
        have hok := rec_iff.1 hb
        have hfl := form_len hok
        simp only [hT, rec_Check.C, rec_of.C, hd1, hb, hfl, hbl, Bool.true_and, joinW_eq, guard_tt, guard_tf, guard_ft, guard_ff, Int.reduceEq, Int.reduceLT, Int.reduceLE, decide_false, decide_true, Bool.not_false, Bool.not_true, Bool.not_not, not_true_eq_false, not_false_eq_true, true_implies, false_implies, implies_true, and_true, true_and, reduceCtorEq, Bool.and_self, Bool.or_self, Bool.and_true, Bool.true_and, Bool.false_eq_true, if_true, if_false, go_sem, Nat.reduceEqDiff, Nat.reduceLT, Nat.reduceAdd, Nat.reduceSub, Nat.reduceLeDiff, List.reduceReplicate, Int.reduceToNat]
        refine ⟨hok, fun h => ?_, fun h => ?_⟩
        · rw [if_neg h]
          refine post_val ?_ rfl
          simp only [zeroRc, go_sem, Nat.reduceEqDiff, Nat.reduceLT, Nat.reduceAdd, Nat.reduceSub, Nat.reduceLeDiff, List.reduceReplicate, Int.reduceToNat]
        · rw [if_pos h, ← hd1]
          exact post_val rfl rfl
    · have hd1 : (⟨w.getD 0 0, txtS w 3 (IntKind.i64.wrap ((w.getD 1 0).tdiv 32)), [], 0⟩ : Rc) = decP7 w := by
        unfold decP7; rw [if_neg (by omega), if_neg h2]
      rw [← recP_eq]
      unfold readC
      cases hb : recB (decP7 w) with
      | false =>
        simp only [hT, rec_Check.C, hd1, hb, Bool.false_and, Bool.false_eq_true, if_false, joinW_eq, guard_tt, guard_tf, guard_ft, guard_ff, Int.reduceEq, Int.reduceLT, Int.reduceLE, decide_false, decide_true, Bool.not_false, Bool.not_true, Bool.not_not, not_true_eq_false, not_false_eq_true, true_implies, false_implies, implies_true, and_true, true_and, reduceCtorEq, Bool.and_self, Bool.or_self, Bool.and_true, Bool.true_and, Bool.false_eq_true, if_true, if_false, go_sem, Nat.reduceEqDiff, Nat.reduceLT, Nat.reduceAdd, Nat.reduceSub, Nat.reduceLeDiff, List.reduceReplicate, Int.reduceToNat]
        refine post_val ?_ rfl
        simp only [zeroRc, go_sem, Nat.reduceEqDiff, Nat.reduceLT, Nat.reduceAdd, Nat.reduceSub, Nat.reduceLeDiff, List.reduceReplicate, Int.reduceToNat]
      | true =>
        have hok := rec_iff.1 hb
        have hfl := form_len hok
        simp only [hT, rec_Check.C, rec_of.C, hd1, hb, hfl, hbl, Bool.true_and, joinW_eq, guard_tt, guard_tf, guard_ft, guard_ff, Int.reduceEq, Int.reduceLT, Int.reduceLE, decide_false, decide_true, Bool.not_false, Bool.not_true, Bool.not_not, not_true_eq_false, not_false_eq_true, true_implies, false_implies, implies_true, and_true, true_and, reduceCtorEq, Bool.and_self, Bool.or_self, Bool.and_true, Bool.true_and, Bool.false_eq_true, if_true, if_false, go_sem, Nat.reduceEqDiff, Nat.reduceLT, Nat.reduceAdd, Nat.reduceSub, Nat.reduceLeDiff, List.reduceReplicate, Int.reduceToNat]
        refine ⟨hok, fun h => ?_, fun h => ?_⟩
        · rw [if_neg h]
          refine post_val ?_ rfl
          simp only [zeroRc, go_sem, Nat.reduceEqDiff, Nat.reduceLT, Nat.reduceAdd, Nat.reduceSub, Nat.reduceLeDiff, List.reduceReplicate, Int.reduceToNat]
        · rw [if_pos h, ← hd1]
          exact post_val rfl rfl
end Lam
