/- What functions of the program come to, each proved from its code. -/
import Derived.Test.YtmbmfnmjjelmkaaLm5
namespace Lam
open Go Go.Proofs
set_option linter.unusedVariables false
set_option linter.unnecessarySimpa false
set_option linter.unusedSimpArgs false
theorem key_Words_L1 (c : Ctx) (id : Nat) (r : Loop) (J : AV → AV → List AObj → Prop) (K : AOut → List AObj → Prop) (p : Bytes) (hp : p.length ≤ 7) (v k : Nat) (s : Bytes) (xs : List Int)
    (hJ : J (.ptr 0 []) (.int .i64 (pw p : Nat)) [.box (.sref false 2 v 0 k), .box (.str s), .row .own v (.ints .i64 xs), .lp .busy none r]) :
    key_Words.L1 c id r J K [.int .i64 0, .int .i64 0] [.box (.sref false 2 v 0 k), .box (.str s), .row .own v (.ints .i64 xs), .lp .busy none r] 4 (.ptr 0 []) (.str p) (.int .i64 p.length) := by
  unfold key_Words.L1
  refine ⟨fun m lv h' => ∃ j : Nat, j + m = p.length ∧ lv = [.int .i64 (pv (p.take j) * 256 ^ (7 - j) : Nat), .int .i64 j] ∧ h' = [.box (.sref false 2 v 0 k), .box (.str s), .row .own v (.ints .i64 xs), .lp .busy none r],
    ⟨p.length, 0, by omega, by simp [pv], rfl⟩, ?_⟩
  rintro m h' t4 t11 ⟨j, hj, hlv, rfl⟩
  simp only [List.cons.injEq, and_true] at hlv
  obtain ⟨rfl, rfl⟩ := hlv
  simp only [go_sem, Nat.reduceEqDiff, Nat.reduceLT, Nat.reduceAdd, Nat.reduceSub, Nat.reduceLeDiff, List.reduceReplicate, Int.reduceToNat]
  refine ⟨fun hlt => ?_, fun hge => ?_⟩
  · have hjp : j < p.length := by omega
    have e1 : IntKind.i64.wrap (6 - (j : Int)) = 6 - j := w64 (by omega) (by omega)
    refine ⟨by omega, by rw [e1, w64 (by omega) (by omega)]; omega, m - 1, by omega, j + 1, by omega, ?_⟩
    rw [pv_step p hp hjp, w64 (by omega) (by omega)]
    rfl
  · have : j = p.length := by omega
    subst this
    rw [List.take_length] at *
    exact hJ

def key_pieces_1.I : Con → Con := fun Y args h K => match args with
  | [.fn (.yield l) [] [], a0] => key_pieces_1.H ((ctx [] [] key_pieces_1.loops).withY l Y) (.fn (.yield l) [] []) a0 h K
  | _ => False
theorem key_pieces_1.spec : ISpec Try.prog 145 key_pieces_1.I := by
  refine ISpec.of (ctx_ok (F := []) (S := []) (by simp) (by simp) key_pieces_1.loops).toOkI key_pieces_1.at key_pieces_1.nm key_pieces_1.bd ?_
  intro Yc l cap h K hC
  unfold key_pieces_1.I at hC
  split at hC
  · rename_i e
    simp only [List.cons.injEq, AV.fn.injEq, Fn.yield.injEq, and_true, true_and] at e
    obtain ⟨rfl, rfl⟩ := e
    rw [key_pieces_1.eq]; exact hC
  · exact hC.elim
def key_pieces.K : Con := fun args h K => match args with
  | [a0] => key_pieces.H (ctx [] [] key_pieces.loops) a0 h K
  | _ => False
theorem key_pieces.spec : SSpec Try.prog 128 key_pieces.K := by
  refine SSpec.of (ctx_ok (F := []) (S := []) (by simp) (by simp) key_pieces.loops) key_pieces.at key_pieces.nm key_pieces.bd ?_
  intro args h K hC
  unfold key_pieces.K at hC
  split at hC
  · rw [key_pieces.eq]; exact hC
  · exact hC.elim
def key_Words.C : Contract
  | [.str s] => some (false, pD (roomy s.length) (.sl false (.ints .i64 (keyW s))))
  | _ => none
set_option maxRecDepth 20000 in
theorem key_Words.spec : FSpec Try.prog 104 key_Words.C := by
  refine FSpec.of (ctxI_ok (F := []) (S := [(128, key_pieces.K)]) (Is := [(145, key_pieces_1.I)]) (by simp) (by simpa using key_pieces.spec) (by simpa using key_pieces_1.spec) key_Words.loops) key_Words.at key_Words.nm key_Words.bd ?_
  intro vs b S v news e hS
  unfold key_Words.C at e
  split at e
  rotate_left
  · cases e
  cases e
  rw [key_Words.eq]
  unfold key_Words.H
  simp (maxSteps := 4000000) only [go_sem, Nat.reduceEqDiff, Nat.reduceLT, Nat.reduceAdd, Nat.reduceSub, Nat.reduceLeDiff, List.reduceReplicate, Int.reduceToNat, key_pieces.K, key_pieces.H, key_pieces_1.I, key_pieces_1.H, joinW_eq]
  rename_i s
  unfold roomy at hS
  intro l r
  unfold key_pieces_1.L1
  refine ⟨fun m lv h' => ∃ k v : Nat, k + m = nPieces s ∧ h' = [.box (.sref false 2 v 0 k), .box (.str (s.drop (7*k))), .row .own v (.ints .i64 ((keyW s).take k)), .lp .ready none r], ⟨nPieces s, 0, 0, by omega, by simp⟩, ?_⟩
  rintro m h' ⟨k, v, hk, rfl⟩
  have hwl : (keyW s).length = nPieces s := by simp [keyW]
  have hnp : nPieces s = (s.length + 6) / 7 := rfl
  have hacc : ((keyW s).take k).length = k := by simp; omega
  simp only [go_sem, Nat.reduceEqDiff, Nat.reduceLT, Nat.reduceAdd, Nat.reduceSub, Nat.reduceLeDiff, List.reduceReplicate, Int.reduceToNat, List.length_drop]
  refine ⟨fun hlt => ?_, fun hge => ?_⟩
  · have hn : (if ((s.length - 7 * k : Nat) : Int) < 7 then ((s.length - 7 * k : Nat) : Int) else 7) = ((min 7 (s.length - 7 * k) : Nat) : Int) := by split <;> omega
    simp only [hn, Int.toNat_natCast]
    have hpc : (s.drop (7 * k)).take (min 7 (s.length - 7 * k)) = pieceN s k := by
      unfold pieceN
      rcases Nat.lt_or_ge (s.length - 7 * k) 7 with h | h
      · rw [Nat.min_eq_right (by omega), List.take_of_length_le (by simp), List.take_of_length_le (by simp; omega)]
      · rw [Nat.min_eq_left (by omega)]
    rw [hpc]
    have hpl : (pieceN s k).length ≤ 7 := by unfold pieceN; simp; omega
    refine ⟨by omega, key_Words_L1 _ _ _ _ _ _ hpl _ _ _ _ ?_⟩
    simp only [go_sem, Nat.reduceEqDiff, Nat.reduceLT, Nat.reduceAdd, Nat.reduceSub, Nat.reduceLeDiff, List.reduceReplicate, Int.reduceToNat, hacc]
    have hkn : k < nPieces s := by omega
    have hnext : (keyW s).take (k + 1) = (keyW s).take k ++ [(pw (pieceN s k) : Int)] := by
      rw [take_next _ k 0 (by omega), getD_words s hkn]
    have hd : (s.drop (7 * k)).drop (min 7 (s.length - 7 * k)) = s.drop (7 * (k + 1)) := by
      rw [List.drop_drop]
      rcases Nat.lt_or_ge (s.length - 7 * k) 7 with h | h
      · rw [List.drop_eq_nil_of_le (by omega), List.drop_eq_nil_of_le (by omega)]
      · congr 1; omega
    have hl1 : ((keyW s).take (k + 1)).length = k + 1 := by simp; omega
    rw [← hnext, hd, hl1]
    refine ⟨by unfold roomy; omega, by simp; omega, m - 1, by omega, k + 1, v + 1, by omega, rfl⟩
  · have : k = nPieces s := by omega
    subst this
    rw [List.take_of_length_le (by omega)]
    refine post_val ?_ rfl
    have := hacc
    rw [List.take_of_length_le (by omega)] at this
    simp only [go_sem, Nat.reduceEqDiff, Nat.reduceLT, Nat.reduceAdd, Nat.reduceSub, Nat.reduceLeDiff, List.reduceReplicate, Int.reduceToNat, List.take_of_length_le (Nat.le_of_eq hwl)]
def textV (l : List Int) (n : Int) : AV := .tup [.str (if textB l n = true then textS l n else []), .int .i64 (if textB l n = true then 0 else 20)]
@[go_sem] theorem textV_noSl (l : List Int) (n : Int) : (textV l n).noSl = true := (rfl)
theorem text_bad {l : List Int} {n : Int} (hb : textB l n = false) (h : List AObj) : Post false (textV l n) [] (.ret (.tup [.str [], .int .i64 20])) h := by
  unfold textV; rw [hb]; exact post_val rfl rfl
def key_Text.C : Contract
  | [.sl _ (.ints .i64 l), .int .i64 n] => some (false, pD (roomy (7 * l.length) ∧ n < 9223372036854775808) (textV l n))
  | _ => none
theorem key_Text_L2 (c : Ctx) (J : AV → AV → AV → AV → AV → List AObj → Prop) (K : AOut → List AObj → Prop) (n w : Int) (l pre : List Int) (v k len : Nat) (hr : pre.length + 7 ≤ 1099511627776)
    (hJ : J (.int .i64 n) (.sref false 0 (v + 7) 0 (pre.length + 7)) (.sl false (.ints .i64 l)) (.int .i64 len) (.int .i64 k) [.row .own (v + 7) (.ints .u8 (pre ++ sevenI w))]) :
    key_Text.L2 c J K [.sref false 0 v 0 pre.length, .int .i64 0] [.row .own v (.ints .u8 pre)] 1 (.int .i64 n) (.int .i64 w) (.sl false (.ints .i64 l)) (.int .i64 len) (.int .i64 k) := by
  unfold key_Text.L2
  refine ⟨fun m lv h' => ∃ j : Nat, j + m = 7 ∧ lv = [.sref false 0 (v + j) 0 (pre.length + j), .int .i64 j] ∧ h' = [.row .own (v + j) (.ints .u8 (pre ++ (List.range j).map (byteI w)))],
    ⟨7, 0, by omega, by simp, by simp⟩, ?_⟩
  rintro m h' t6 t41 ⟨j, hj, hlv, rfl⟩
  simp only [List.cons.injEq, and_true] at hlv
  obtain ⟨rfl, rfl⟩ := hlv
  have hlen : (pre ++ (List.range j).map (byteI w)).length = pre.length + j := by simp
  simp only [go_sem, Nat.reduceEqDiff, Nat.reduceLT, Nat.reduceAdd, Nat.reduceSub, Nat.reduceLeDiff, List.reduceReplicate, Int.reduceToNat, hlen]
  refine ⟨fun hlt => ?_, fun hge => ?_⟩
  · have e1 : IntKind.i64.wrap (6 - (j : Int)) = 6 - j := w64 (by omega) (by omega)
    have e2 : IntKind.i64.wrap (8 * (6 - (j : Int))) = 8 * (6 - j) := w64 (by omega) (by omega)
    have e3 : (8 * (6 - (j : Int))).toNat = 8 * (6 - j) := by omega
    have e4 : min (8 * (6 - j)) 64 = 8 * (6 - j) := by omega
    simp only [e1, e2, e3, e4]
    have hz : (List.range j).map (byteI w) ++ [IntKind.u8.wrap (w.fdiv (2 ^ (8 * (6 - j))))] = (List.range (j + 1)).map (byteI w) := by rw [List.range_succ]; simp [byteI]
    have hl2 : (pre ++ (List.range (j + 1)).map (byteI w)).length = pre.length + (j + 1) := by simp
    rw [hz, hl2, w64 (by omega) (by omega)]
    exact ⟨by omega, by unfold roomy; omega, m - 1, by omega, j + 1, by omega, rfl, rfl⟩
  · have : j = 7 := by omega
    subst this
    exact hJ

set_option maxRecDepth 20000 in
theorem key_Text.spec : FSpec Try.prog 101 key_Text.C := by
  refine FSpec.of (ctx_ok (F := []) (S := []) (by simp) (by simp) key_Text.loops) key_Text.at key_Text.nm key_Text.bd ?_
  intro vs b S v news e hS
  unfold key_Text.C at e
  split at e
  rotate_left
  · cases e
  cases e
  rw [key_Text.eq]
  unfold key_Text.H
  simp (maxSteps := 4000000) only [go_sem, Nat.reduceEqDiff, Nat.reduceLT, Nat.reduceAdd, Nat.reduceSub, Nat.reduceLeDiff, List.reduceReplicate, Int.reduceToNat]
  rename_i l n
  unfold roomy at hS
  obtain ⟨hS, hn63⟩ := hS
  refine ⟨fun _ => by decide, fun hb => text_bad ?_ _, fun hb => ?_⟩
  · have hb : (!decide (n < 0) && decide ((l.length : Int) = lenT n)) = false := by
      unfold lenT
      revert hb
      cases decide (n < 0) <;> simp
    unfold textB
    rw [hb]; rfl
  have hb1 : ¬ n < 0 := by intro h; simp [h] at hb
  have hb2 : (l.length : Int) = lenT n := by
    rw [decide_eq_false hb1, Bool.false_or, Bool.not_eq_false', decide_eq_true_eq] at hb
    exact hb
  have e7 : IntKind.i64.wrap (7 * (l.length : Int)) = ((7 * l.length : Nat) : Int) := by rw [w64 (by omega) (by omega)]; omega
  refine ⟨⟨by omega, by rw [e7]; omega, by rw [e7, Int.toNat_natCast]; exact hS⟩, ?_⟩
  rw [joinW_eq]
  unfold key_Text.L1
  refine ⟨fun m lv h' => ∃ k v : Nat, k + m = l.length ∧ lv = [.sref false 0 v 0 (7 * k), .int .i64 k] ∧ h' = [.row .own v (.ints .u8 (flatI (l.take k)))] ∧ (l.take k).all wMay = true,
    ⟨l.length, 0, 0, by omega, rfl, rfl, rfl⟩, ?_⟩
  rintro m h' t6 t31 ⟨k, v, hk, hlv, rfl, hall⟩
  simp only [List.cons.injEq, and_true] at hlv
  obtain ⟨rfl, rfl⟩ := hlv
  have hfl : (flatI (l.take k)).length = 7 * k := by rw [flatI_len, List.length_take, Nat.min_eq_left (by omega)]
  simp only [go_sem, Nat.reduceEqDiff, Nat.reduceLT, Nat.reduceAdd, Nat.reduceSub, Nat.reduceLeDiff, List.reduceReplicate, Int.reduceToNat, hfl]
  refine ⟨fun hlt => ?_, fun hge => ?_⟩
  · have hkl : k < l.length := by omega
    rw [joinW_eq]
    refine ⟨by omega, fun hbad => text_bad ?_ _, fun hok => ?_⟩
    · have : l.all wMay = false := by
        rw [List.all_eq_false]
        refine ⟨_, getD_mem l k 0 hkl, fun h => ?_⟩
        simp only [wMay, Bool.and_eq_true, decide_eq_true_eq] at h
        simp only [Bool.or_eq_true, decide_eq_true_eq] at hbad
        omega
      simp [textB, this]
    · have hw : wMay (l.getD k 0) = true := by
        simp only [Bool.or_eq_false_iff, decide_eq_false_iff_not] at hok
        simp only [wMay, Bool.and_eq_true, decide_eq_true_eq]; omega
      rw [joinW_eq]
      have hL2 := key_Text_L2 (ctx [] [] key_Text.loops)
      rw [← hfl]
      refine hL2 _ _ _ _ _ _ _ _ _ (by rw [hfl]; omega) ?_
      have hnx : flatI (l.take k) ++ sevenI (l.getD k 0) = flatI (l.take (k + 1)) := by
        rw [take_next l k 0 hkl]; simp [flatI]
      rw [hnx, hfl]
      simp only [go_sem, Nat.reduceEqDiff, Nat.reduceLT, Nat.reduceAdd, Nat.reduceSub, Nat.reduceLeDiff, List.reduceReplicate, Int.reduceToNat]
      have hmx : ¬ (False) := id
      refine ⟨m - 1, by omega, k + 1, v + 7, by omega, by rw [w64 (by omega) (by omega)]; rfl, rfl, ?_⟩
      rw [take_next l k 0 hkl, List.all_append, hall, Bool.true_and, List.all_cons, hw]
      rfl
  · have : k = l.length := by omega
    subst this
    rw [List.take_length] at *
    obtain ⟨N, rfl⟩ : ∃ N : Nat, n = N := ⟨n.toNat, by omega⟩
    have hN : (l.length : Int) = ((N + 6) / 7 : Nat) := by rw [hb2, lenT_nat N (by omega)]
    refine ⟨by omega, ?_⟩
    rw [joinW_eq, Int.toNat_natCast]
    unfold key_Text.L3
    refine ⟨fun m lv h' => ∃ j : Nat, j + m = 7 * l.length - N ∧ lv = [.int .i64 j] ∧ h' = [.row .own v (.ints .u8 (flatI l))] ∧ ∀ i, i < j → (flatI l).getD (N + i) 0 = 0,
      ⟨_, 0, Nat.zero_add _, rfl, rfl, fun i hi => by omega⟩, ?_⟩
    rintro m h' t59 ⟨j, hj, hlv, rfl, hz⟩
    simp only [List.cons.injEq, and_true] at hlv
    subst hlv
    simp only [go_sem, Nat.reduceEqDiff, Nat.reduceLT, Nat.reduceAdd, Nat.reduceSub, Nat.reduceLeDiff, List.reduceReplicate, Int.reduceToNat, hfl]
    refine ⟨fun hlt => ⟨by omega, by omega, fun h0 => text_bad ?_ _, fun h0 => ?_⟩, fun hge => ⟨by omega, ?_⟩⟩
    · have : ((flatI l).drop N).all (fun b => decide (b = 0)) = false := by
        rw [List.all_eq_false]
        have hjl : j < ((flatI l).drop N).length := by rw [List.length_drop, hfl]; omega
        have e : ((flatI l).drop N).getD j 0 = (flatI l).getD (N + j) 0 := by rw [List.getD_eq_getElem?_getD, List.getD_eq_getElem?_getD, List.getElem?_drop]
        exact ⟨_, getD_mem _ j 0 hjl, by rw [e]; simpa using h0⟩
      simp [textB, this]
    · refine ⟨m - 1, by omega, j + 1, by omega, by rw [w64 (by omega) (by omega)]; rfl, fun i hi => ?_⟩
      by_cases e : i = j
      · subst e; exact h0
      · exact hz i (by omega)
    · have hj2 : j = 7 * l.length - N := by omega
      have hzero : ((flatI l).drop N).all (fun b => decide (b = 0)) = true := by
        rw [List.all_eq_true]
        intro b hb
        obtain ⟨i, hi, rfl⟩ := List.getElem_of_mem hb
        rw [List.length_drop, hfl] at hi
        have := hz i (by omega)
        rw [List.getD_eq_getElem?_getD, List.getElem?_eq_getElem (by rw [hfl]; omega)] at this
        rw [List.getElem_drop]
        simpa using this
      have hB : textB l N = true := by
        unfold textB
        rw [hall, Int.toNat_natCast, hzero, decide_eq_false hb1, decide_eq_true hb2]; rfl
      unfold textV textS
      simp only [hB, if_true]
      exact post_val rfl rfl
def key_Check.C : Contract
  | [.str s] => some (false, pD True (.bool (decide (s ≠ []) && decide ((s.length : Int) ≤ 21))))
  | _ => none
set_option maxRecDepth 20000 in
theorem key_Check.spec : FSpec Try.prog 102 key_Check.C := by
  refine FSpec.of (ctx_ok (F := []) (S := []) (by simp) (by simp) key_Check.loops) key_Check.at key_Check.nm key_Check.bd ?_
  intro vs b S v news e hS
  unfold key_Check.C at e
  split at e
  rotate_left
  · cases e
  cases e
  rw [key_Check.eq]
  unfold key_Check.H
  simp (maxSteps := 4000000) only [go_sem, Nat.reduceEqDiff, Nat.reduceLT, Nat.reduceAdd, Nat.reduceSub, Nat.reduceLeDiff, List.reduceReplicate, Int.reduceToNat]
  rename_i s
  have : (decide ¬s = []) = !decide (s = []) := by by_cases h : s = [] <;> simp [h]
  rw [this]
  exact post_val rfl rfl
def key_CheckVal.C : Contract
  | [.str s] => some (false, pD True (.bool (decide ((s.length : Int) ≤ 21))))
  | _ => none
set_option maxRecDepth 20000 in
theorem key_CheckVal.spec : FSpec Try.prog 103 key_CheckVal.C := by
  refine FSpec.of (ctx_ok (F := []) (S := []) (by simp) (by simp) key_CheckVal.loops) key_CheckVal.at key_CheckVal.nm key_CheckVal.bd ?_
  intro vs b S v news e hS
  unfold key_CheckVal.C at e
  split at e
  rotate_left
  · cases e
  cases e
  rw [key_CheckVal.eq]
  unfold key_CheckVal.H
  simp (maxSteps := 4000000) only [go_sem, Nat.reduceEqDiff, Nat.reduceLT, Nat.reduceAdd, Nat.reduceSub, Nat.reduceLeDiff, List.reduceReplicate, Int.reduceToNat]
  exact post_val rfl rfl
end Lam
namespace Lam
open Go Go.Proofs
set_option linter.unusedVariables false
def sum_Of.loops : Nat → LInfo
  | 4 => ⟨[4, 10], [false, false], [3, 8, 9], [], [], []⟩
  | _ => ⟨[], [], [], [], [], []⟩
def sum_Of.L1 (c : Ctx) (J1 : AV → List AObj → Prop) (K : AOut → List AObj → Prop) (lv : List AV) (h0 : List AObj) (n0 : Nat) (c3 : AV) (c8 : AV) (c9 : AV) : Prop :=
  ∃ I : Nat → List AV → List AObj → Prop, (∃ n, I n lv h0) ∧ ∀ n h, ∀ t4, ∀ t10, I n [t4, t10] h →
    runD (binD T_int .lss t10 c9) h fun t11 h =>
    condW t11
    (runD (indexAddrD T_sl_int h c8 t10) h fun t12 h =>
    runD (fitD T_int (loadD h t12)) h fun t13 h =>
    callW false c (.fn (.func 135) [] []) [c3, t4, t13] h (fun t16 h =>
    runD (binD T_int .add t10 (.int .i64 1)) h fun t17 h =>
    (∃ m, m < n ∧ I m (AV.norms n0 h [t16, t17]) (normH n0 h)) ∧ AV.norms n0 h [c3, c8, c9] = [c3, c8, c9])
    (fun v h => K (.pan v) h))
    (J1 t4 h)
def sum_Of.H (c : Ctx) (t0 : AV) (h : List AObj) (K : AOut → List AObj → Prop) : Prop :=
  callW false c (.fn (.func 134) [] []) [] h (fun t7 h =>
  allocW T_256_uint32 h fun t3 h =>
  runH (storeH T_256_uint32 h t3 t7) h fun _ h =>
  runD (lenD T_sl_int h t0) h fun t9 h =>
  joinW (fun (J1 : AV → List AObj → Prop) =>
  promV [false, false] [(.int .u32 4294967295), (.int .i64 0)] h fun lv h => sum_Of.L1 c J1 K (AV.norms h.length h lv) (normH h.length h) h.length (AV.norm h.length h t3) (AV.norm h.length h t0) (AV.norm h.length h t9))
  (fun t4 h => runD (unD .xor t4) h fun t19 h =>
  runD (convD h T_uint32 T_int t19) h fun t20 h =>
  K (.ret t20) h))
  (fun v h => K (.pan v) h)
def sum_table.loops : Nat → LInfo
  | 2 => ⟨[3], [false], [0], [], [], []⟩
  | 6 => ⟨[2, 8], [false, false], [0, 1, 3], [], [], []⟩
  | _ => ⟨[], [], [], [], [], []⟩
def sum_table.L2 (c : Ctx) (J3 : AV → AV → AV → AV → List AObj → Prop) (K : AOut → List AObj → Prop) (lv : List AV) (h0 : List AObj) (n0 : Nat) (c0 : AV) (c1 : AV) (c3 : AV) : Prop :=
  ∃ I : Nat → List AV → List AObj → Prop, (∃ n, I n lv h0) ∧ ∀ n h, ∀ t2, ∀ t8, I n [t2, t8] h →
    runD (binD T_int .lss t8 (.int .i64 8)) h fun t9 h =>
    condW t9
    (runD (binD T_uint32 .shr t2 (.int .u64 1)) h fun t11 h =>
    runD (binD T_uint32 .and t2 (.int .u32 1)) h fun t13 h =>
    runD (unD .neg t13) h fun t14 h =>
    runD (binD T_uint32 .and (.int .u32 3988292384) t14) h fun t15 h =>
    runD (binD T_uint32 .xor t11 t15) h fun t16 h =>
    runD (binD T_int .add t8 (.int .i64 1)) h fun t17 h =>
    (∃ m, m < n ∧ I m (AV.norms n0 h [t16, t17]) (normH n0 h)) ∧ AV.norms n0 h [c0, c1, c3] = [c0, c1, c3])
    (J3 c0 c1 t2 c3 h)
def sum_table.L1 (c : Ctx) (J1 : AV → List AObj → Prop) (K : AOut → List AObj → Prop) (lv : List AV) (h0 : List AObj) (n0 : Nat) (c0 : AV) : Prop :=
  ∃ I : Nat → List AV → List AObj → Prop, (∃ n, I n lv h0) ∧ ∀ n h, ∀ t3, I n [t3] h →
    runD (binD T_int .lss t3 (.int .i64 256)) h fun t4 h =>
    condW t4
    (joinW (fun (J2 : AV → AV → List AObj → Prop) =>
    runD (convD h T_int T_uint32 t3) h fun t7 h =>
    joinW (fun (J3 : AV → AV → AV → AV → List AObj → Prop) =>
    promV [false, false] [t7, (.int .i64 0)] h fun lv h => sum_table.L2 c J3 K (AV.norms h.length h lv) (normH h.length h) h.length (AV.norm h.length h c0) (AV.norm h.length h t3) (AV.norm h.length h t3))
    (fun t0 t1 t2 t3 h => runD (indexAddrD T_256_uint32 h t0 t1) h fun t20 h =>
    runH (storeH T_uint32 h t20 t2) h fun _ h =>
    J2 t0 t3 h))
    (fun t0 t3 h => runD (binD T_int .add t3 (.int .i64 1)) h fun t21 h =>
    (∃ m, m < n ∧ I m (AV.norms n0 h [t21]) (normH n0 h)) ∧ AV.norms n0 h [t0] = [c0]))
    (J1 c0 h)
def sum_table.H (c : Ctx) (h : List AObj) (K : AOut → List AObj → Prop) : Prop :=
  allocW T_256_uint32 h fun t0 h =>
  joinW (fun (J1 : AV → List AObj → Prop) =>
  promV [false] [(.int .i64 0)] h fun lv h => sum_table.L1 c J1 K (AV.norms h.length h lv) (normH h.length h) h.length (AV.norm h.length h t0))
  (fun t0 h => runD (fitD T_256_uint32 (loadD h t0)) h fun t22 h =>
  runH (storeH T_256_uint32 h t0 t22) h fun _ h =>
  loadRes (fitD T_256_uint32 (loadD h t0)) fun r0 => K (.ret r0) h)
def sum_word.loops : Nat → LInfo
  | 2 => ⟨[1, 7], [false, false], [0, 2], [], [], []⟩
  | _ => ⟨[], [], [], [], [], []⟩
def sum_word.L1 (c : Ctx) (J1 : AV → List AObj → Prop) (K : AOut → List AObj → Prop) (lv : List AV) (h0 : List AObj) (n0 : Nat) (c0 : AV) (c2 : AV) : Prop :=
  ∃ I : Nat → List AV → List AObj → Prop, (∃ n, I n lv h0) ∧ ∀ n h, ∀ t1, ∀ t7, I n [t1, t7] h →
    runD (binD T_int .geq t7 (.int .i64 0)) h fun t9 h =>
    condW t9
    (runD (convD h T_int T_uint64 c2) h fun t15 h =>
    runD (binD T_uint64 .shr t15 t7) h fun t17 h =>
    runD (convD h T_uint64 T_uint8 t17) h fun t18 h =>
    callW false c (.fn (.func 149) [] []) [c0, t1, t18] h (fun t19 h =>
    runD (binD T_int .sub t7 (.int .i64 8)) h fun t11 h =>
    (∃ m, m < n ∧ I m (AV.norms n0 h [t19, t11]) (normH n0 h)) ∧ AV.norms n0 h [c0, c2] = [c0, c2])
    (fun v h => K (.pan v) h))
    (J1 t1 h)
def sum_word.H (c : Ctx) (t0 : AV) (t1 : AV) (t2 : AV) (h : List AObj) (K : AOut → List AObj → Prop) : Prop :=
  joinW (fun (J1 : AV → List AObj → Prop) =>
  promV [false, false] [t1, (.int .i64 56)] h fun lv h => sum_word.L1 c J1 K (AV.norms h.length h lv) (normH h.length h) h.length (AV.norm h.length h t0) (AV.norm h.length h t2))
  (fun t1 h => K (.ret t1) h)
def sum_with.loops : Nat → LInfo
  | _ => ⟨[], [], [], [], [], []⟩
def sum_with.H (c : Ctx) (t0 : AV) (t1 : AV) (t2 : AV) (h : List AObj) (K : AOut → List AObj → Prop) : Prop :=
  runD (binD T_uint32 .shr t1 (.int .u64 8)) h fun t8 h =>
  runD (convD h T_uint32 T_uint8 t1) h fun t11 h =>
  runD (binD T_uint8 .xor t11 t2) h fun t13 h =>
  runD (nilCheckD t0) h fun t14 h =>
  runD (indexAddrD T_256_uint32 h t14 t13) h fun t15 h =>
  runD (fitD T_uint32 (loadD h t15)) h fun t16 h =>
  runD (binD T_uint32 .xor t8 t16) h fun t17 h =>
  K (.ret t17) h
theorem sum_Of.eq (F : List (FuncId × Contract)) (S : List (FuncId × Con)) (t0 : AV) (h : List AObj) (K : AOut → List AObj → Prop) : funW (ctx F S sum_Of.loops) Try.f109 [t0] h K = sum_Of.H (ctx F S sum_Of.loops) t0 h K := by kernel_rfl
theorem sum_table.eq (F : List (FuncId × Contract)) (S : List (FuncId × Con)) (h : List AObj) (K : AOut → List AObj → Prop) : funW (ctx F S sum_table.loops) Try.f134 [] h K = sum_table.H (ctx F S sum_table.loops)  h K := by kernel_rfl
theorem sum_word.eq (F : List (FuncId × Contract)) (S : List (FuncId × Con)) (t0 t1 t2 : AV) (h : List AObj) (K : AOut → List AObj → Prop) : funW (ctx F S sum_word.loops) Try.f135 [t0, t1, t2] h K = sum_word.H (ctx F S sum_word.loops) t0 t1 t2 h K := by kernel_rfl
theorem sum_with.eq (F : List (FuncId × Contract)) (S : List (FuncId × Con)) (t0 t1 t2 : AV) (h : List AObj) (K : AOut → List AObj → Prop) : funW (ctx F S sum_with.loops) Try.f149 [t0, t1, t2] h K = sum_with.H (ctx F S sum_with.loops) t0 t1 t2 h K := by kernel_rfl
theorem sum_Of.at : Try.prog.funcs[109]? = some Try.f109 := by kernel_rfl
theorem sum_Of.nm : (Try.f109.name == "runtime.NumGoroutine") = false := by kernel_rfl
theorem sum_Of.bd : Try.f109.body.isNone = false := by kernel_rfl
theorem sum_table.at : Try.prog.funcs[134]? = some Try.f134 := by kernel_rfl
theorem sum_table.nm : (Try.f134.name == "runtime.NumGoroutine") = false := by kernel_rfl
theorem sum_table.bd : Try.f134.body.isNone = false := by kernel_rfl
theorem sum_word.at : Try.prog.funcs[135]? = some Try.f135 := by kernel_rfl
theorem sum_word.nm : (Try.f135.name == "runtime.NumGoroutine") = false := by kernel_rfl
theorem sum_word.bd : Try.f135.body.isNone = false := by kernel_rfl
theorem sum_with.at : Try.prog.funcs[149]? = some Try.f149 := by kernel_rfl
theorem sum_with.nm : (Try.f149.name == "runtime.NumGoroutine") = false := by kernel_rfl
theorem sum_with.bd : Try.f149.body.isNone = false := by kernel_rfl
end Lam
set_option linter.unnecessarySimpa false
set_option linter.unusedSectionVars false
namespace Lam
open Go Go.Proofs
set_option linter.unusedVariables false
set_option linter.unusedSimpArgs false
theorem sum_table_L2 (c t3 : Int) (xs : List Int) (h : List AObj) (J : AV → AV → AV → AV → List AObj → Prop) (K : AOut → List AObj → Prop) (hh : h = [AObj.row .arr 0 (.ints .u32 xs)])
    (hJ : J (.ptr 0 []) (.int .i64 t3) (.int .u32 (bitN 8 c)) (.int .i64 t3) h) :
    sum_table.L2 (ctx [] [] sum_table.loops) J K [.int .u32 c, .int .i64 0] h 1 (.ptr 0 []) (.int .i64 t3) (.int .i64 t3) := by
  unfold sum_table.L2
  refine ⟨fun n lv h' => ∃ k : Nat, k + n = 8 ∧ lv = [.int .u32 (bitN k c), .int .i64 k] ∧ h' = h, ⟨8, 0, rfl, rfl, rfl⟩, ?_⟩
  rintro n h' t2 t8 ⟨k, hk, hlv, rfl⟩
  simp only [List.cons.injEq, and_true] at hlv
  obtain ⟨rfl, rfl⟩ := hlv
  subst hh
  simp only [go_sem, Nat.reduceLT]
  refine ⟨fun hlt => ⟨by decide, n - 1, by omega, k + 1, by omega, ?_⟩, fun hge => ?_⟩
  · rw [w64 (by omega) (by omega)]
    rfl
  · have : k = 8 := by omega
    subst this; exact hJ

theorem sum_table_L1 (J : AV → List AObj → Prop) (K : AOut → List AObj → Prop) (hJ : J (.ptr 0 []) [AObj.row .arr 0 (.ints .u32 tabL)]) :
    sum_table.L1 (ctx [] [] sum_table.loops) J K [.int .i64 0] [AObj.row .arr 0 (.ints .u32 (List.replicate 256 0))] 1 (.ptr 0 []) := by
  unfold sum_table.L1
  refine ⟨fun n lv h' => ∃ k : Nat, k + n = 256 ∧ lv = [.int .i64 k] ∧ h' = [AObj.row .arr 0 (.ints .u32 ((List.range k).map tabE ++ List.replicate n 0))], ⟨256, 0, rfl, rfl, rfl⟩, ?_⟩
  rintro n h' t3 ⟨k, hk, hlv, rfl⟩
  simp only [List.cons.injEq, and_true] at hlv
  subst hlv
  simp only [go_sem, Nat.reduceLT]
  refine ⟨fun hlt => ?_, fun hge => ?_⟩
  · simp only [joinW_eq]
    apply sum_table_L2 _ _ _ _ _ _ rfl
    have hlen : ((List.range k).map tabE ++ List.replicate n 0).length = 256 := by simp; omega
    simp only [go_sem, Nat.reduceLT, hlen, Int.toNat_natCast]
    refine ⟨by omega, by omega, n - 1, by omega, k + 1, by omega, ?_, ?_⟩
    · rw [w64 (by omega) (by omega)]; rfl
    · obtain ⟨m, rfl⟩ : ∃ m, n = m + 1 := ⟨n - 1, by omega⟩
      simp [List.range_succ, List.replicate_succ, tabE]
  · have hn : n = 0 := by omega
    have hk : k = 256 := by omega
    subst hn hk
    simpa [tabL] using hJ

theorem sum_table_vc : sum_table.H (ctx [] [] sum_table.loops) [] (Post false (.arr (.ints .u32 tabL)) []) := by
  unfold sum_table.H
  simp only [go_sem, Nat.reduceLT]
  simp only [joinW_eq]
  apply sum_table_L1
  have : tabL.length = 256 := by simp [tabL]
  simp only [go_sem, this]
  exact post_val rfl rfl

def sum_table.C : Contract
  | [] => some (false, pD True (.arr (.ints .u32 tabL)))
  | _ => none
theorem sum_table.spec : FSpec Try.prog 134 sum_table.C := by
  refine FSpec.of (ctx_ok (F := []) (S := []) (by simp) (by simp) sum_table.loops) sum_table.at sum_table.nm sum_table.bd ?_
  intro vs b S v news e hS
  unfold sum_table.C at e
  split at e
  rotate_left
  · cases e
  rw [sum_table.eq]
  cases e
  exact sum_table_vc
def sum_with.K : Con := fun args h K => match args with
  | [a0, a1, a2] => sum_with.H (ctx [] [] sum_with.loops) a0 a1 a2 h K
  | _ => False
theorem sum_with.spec : SSpec Try.prog 149 sum_with.K := by
  refine SSpec.of (ctx_ok (F := []) (S := []) (by simp) (by simp) sum_with.loops) sum_with.at sum_with.nm sum_with.bd ?_
  intro args h K hC
  unfold sum_with.K at hC
  split at hC
  · rw [sum_with.eq]; exact hC
  · exact hC.elim
theorem sum_with_vc (t : List Int) (ht : t.length = 256) (c b : Int) (h : List AObj) (K : AOut → List AObj → Prop) (id : Nat) (hid : h[id]? = some (.row .arr 0 (.ints .u32 t))) (hK : K (.ret (.int .u32 (withS t c b))) h) :
    sum_with.K [.ptr id [], .int .u32 c, .int .u8 b] h K := by
  unfold sum_with.K
  simp only
  unfold sum_with.H
  simp only [go_sem, hid, ht]
  have hr : 0 ≤ xorI .u8 (IntKind.u8.wrap c) b ∧ xorI .u8 (IntKind.u8.wrap c) b < 256 := u8_range _
  exact ⟨by decide, hr, (Int.toNat_lt hr.1).2 hr.2, hK⟩

def sum_word.K : Con := fun args h K => match args with
  | [a0, a1, a2] => sum_word.H (ctx [] [(149, sum_with.K)] sum_word.loops) a0 a1 a2 h K
  | _ => False
theorem sum_word.spec : SSpec Try.prog 135 sum_word.K := by
  refine SSpec.of (ctx_ok (F := []) (S := [(149, sum_with.K)]) (by simp) (by simpa using sum_with.spec) sum_word.loops) sum_word.at sum_word.nm sum_word.bd ?_
  intro args h K hC
  unfold sum_word.K at hC
  split at hC
  · rw [sum_word.eq]; exact hC
  · exact hC.elim
theorem sum_word_vc (t : List Int) (ht : t.length = 256) (c w : Int) (h : List AObj) (K : AOut → List AObj → Prop) (hh : h = [.row .arr 0 (.ints .u32 t)]) (hK : K (.ret (.int .u32 (wordS t c w))) h) :
    sum_word.K [.ptr 0 [], .int .u32 c, .int .i64 w] h K := by
  unfold sum_word.K
  simp only
  unfold sum_word.H
  subst hh
  simp only [joinW_eq, go_sem, Nat.reduceLT]
  unfold sum_word.L1
  refine ⟨fun n lv h' => ∃ k : Nat, k + n = 8 ∧ lv = [.int .u32 (wordN t w k c), .int .i64 (56 - 8 * k)] ∧ h' = [.row .arr 0 (.ints .u32 t)], ⟨8, 0, rfl, rfl, rfl⟩, ?_⟩
  rintro n h' t1 t7 ⟨k, hk, hlv, rfl⟩
  simp only [List.cons.injEq, and_true] at hlv
  obtain ⟨rfl, rfl⟩ := hlv
  simp only [go_sem, Nat.reduceLT, Nat.reduceEqDiff]
  refine ⟨fun hlt => ?_, fun hge => ?_⟩
  · refine ⟨hlt, ?_⟩
    apply sum_with_vc t ht _ _ _ _ _ rfl
    simp only [go_sem, Nat.reduceLT]
    refine ⟨n - 1, by omega, k + 1, by omega, ?_⟩
    rw [w64 (by omega) (by omega)]
    simp only [wordN]
    congr 3
    omega
  · have : k = 8 := by omega
    subst this; exact hK

def sum_Of.C : Contract
  | [.sl _ (.ints .i64 l)] => some (false, pD (roomy l.length) (.int .i64 (sumOf l)))
  | _ => none
theorem sum_Of.spec : FSpec Try.prog 109 sum_Of.C := by
  refine FSpec.of (ctx_ok (F := [(134, sum_table.C)]) (S := [(135, sum_word.K)]) (by simpa using sum_table.spec) (by simpa using sum_word.spec) sum_Of.loops) sum_Of.at sum_Of.nm sum_Of.bd ?_
  intro vs b S v news e hS
  unfold sum_Of.C at e
  split at e
  rotate_left
  · cases e
  rw [sum_Of.eq]
  rename_i x l
  cases e
  unfold roomy at hS
  unfold sum_Of.H
  have htl : tabL.length = 256 := tabL_len
  simp only [go_sem, Nat.reduceEqDiff, Nat.reduceLT, sum_table.C, htl, List.length_replicate, joinW_eq]
  unfold sum_Of.L1
  refine ⟨fun n lv h' => ∃ k : Nat, k + n = l.length ∧ lv = [.int .u32 ((l.take k).foldl (wordS tabL) 4294967295), .int .i64 k] ∧ h' = [.row .arr 0 (.ints .u32 tabL)], ⟨l.length, 0, by omega, rfl, rfl⟩, ?_⟩
  rintro n h' t4 t10 ⟨k, hk, hlv, rfl⟩
  simp only [List.cons.injEq, and_true] at hlv
  obtain ⟨rfl, rfl⟩ := hlv
  simp only [go_sem, Nat.reduceLT, Nat.reduceEqDiff]
  refine ⟨fun hlt => ?_, fun hge => ?_⟩
  · refine ⟨by omega, ?_⟩
    apply sum_word_vc tabL htl _ _ _ _ rfl
    simp only [go_sem, Nat.reduceLT]
    refine ⟨n - 1, by omega, k + 1, by omega, ?_⟩
    rw [w64 (by omega) (by omega)]
    have hkl : k < l.length := by omega
    have : l.take (k + 1) = l.take k ++ [l.getD k 0] := by
      rw [List.take_add_one, List.getElem?_eq_getElem hkl, List.getD_eq_getElem?_getD, List.getElem?_eq_getElem hkl]; rfl
    rw [this, List.foldl_append]
    rfl
  · have : k = l.length := by omega
    subst this
    rw [List.take_length]
    exact post_val rfl rfl
end Lam
namespace Lam
open Go Go.Proofs
set_option linter.unusedVariables false
def rec_Read.loops : Nat → LInfo
  | 1 => ⟨[], [], [], [(3, none), (5, some [11, 16])], [], []⟩
  | _ => ⟨[], [], [], [], [], []⟩
def rec_Read.H (c : Ctx) (t0 : AV) (t1 : AV) (h : List AObj) (K : AOut → List AObj → Prop) : Prop :=
  allocW T_api_Rec h fun t4 h =>
  runD (binD T_int .lss t1 (.int .i64 0)) h fun t10 h =>
  joinW (fun (J1 : AV → AV → List AObj → Prop) =>
  guardW t10 false
  (runD (lenD T_sl_int h t0) h fun t14 h =>
    runD (binD T_int .quo t14 (.int .i64 16)) h fun t15 h =>
    runD (binD T_int .geq t1 t15) h fun t16 h =>
    J1 (.bool false) t16 h)
  (J1 (.bool true) .und h))
  (fun t11 t16 h => runD (pickD t11 (.bool true) t16) h fun t17 h =>
  condW t17
  (runD (buildD T_api_Rec []) h fun t18 h =>
    runH (storeH T_api_Rec h t4 t18) h fun _ h =>
    loadRes (fitD T_api_Rec (loadD h t4)) fun r0 => K (.ret (.tup [r0, (.int .i64 1)])) h)
  (allocW T_rec_form h fun t6 h =>
  runD (sliceD T_rec_form h t6 none none none) h fun t19 h =>
  runD (binD T_int .mul (.int .i64 16) t1) h fun t22 h =>
  runD (sliceD T_sl_int h t0 (some t22) none none) h fun t23 h =>
  runM (copyH T_sl_int h t19 t23) h fun t24 h =>
  runD (indexAddrD T_rec_form h t6 (.int .i64 0)) h fun t25 h =>
  runD (fitD T_int (loadD h t25)) h fun t26 h =>
  runD (buildD T_api_Rec [(0, t26)]) h fun t27 h =>
  allocW T_api_Rec h fun t7 h =>
  runH (storeH T_api_Rec h t7 t27) h fun _ h =>
  runD (fitD T_rec_form (loadD h t6)) h fun t29 h =>
  runD (indexAddrD T_rec_form h t6 (.int .i64 1)) h fun t30 h =>
  runD (fitD T_int (loadD h t30)) h fun t31 h =>
  runD (binD T_int .quo t31 (.int .i64 32)) h fun t32 h =>
  callW false c (.fn (.func 73) [] []) [t29, (.int .i64 3), t32] h (fun t33 h =>
  runD (extractD t33 0) h fun t34 h =>
  runD (extractD t33 1) h fun t35 h =>
  runD (fieldAddrD T_api_Rec t7 1) h fun t36 h =>
  runH (storeH T_string h t36 t34) h fun _ h =>
  runD (unD .not t35) h fun t38 h =>
  condW t38
  (runD (buildD T_api_Rec []) h fun t39 h =>
    runH (storeH T_api_Rec h t4 t39) h fun _ h =>
    loadRes (fitD T_api_Rec (loadD h t4)) fun r0 => K (.ret (.tup [r0, (.int .i64 70)])) h)
  (runD (fieldAddrD T_api_Rec t7 0) h fun t40 h =>
  runD (fitD T_int (loadD h t40)) h fun t41 h =>
  runD (binD T_int .eql t41 (.int .i64 1)) h fun t43 h =>
  joinW (fun (J2 : AV → List AObj → Prop) =>
  condW t43
  (runD (fitD T_rec_form (loadD h t6)) h fun t45 h =>
    runD (indexAddrD T_rec_form h t6 (.int .i64 1)) h fun t46 h =>
    runD (fitD T_int (loadD h t46)) h fun t47 h =>
    runD (binD T_int .rem t47 (.int .i64 32)) h fun t48 h =>
    callW false c (.fn (.func 73) [] []) [t45, (.int .i64 6), t48] h (fun t49 h =>
    runD (extractD t49 0) h fun t50 h =>
    runD (extractD t49 1) h fun t51 h =>
    runD (fieldAddrD T_api_Rec t7 2) h fun t52 h =>
    runH (storeH T_string h t52 t50) h fun _ h =>
    J2 t51 h)
    (fun v h => K (.pan v) h))
  (runD (binD T_int .eql t41 (.int .i64 2)) h fun t54 h =>
    joinW (fun (J3 : List AObj → Prop) =>
    condW t54
    (runD (indexAddrD T_rec_form h t6 (.int .i64 6)) h fun t55 h =>
      runD (fitD T_int (loadD h t55)) h fun t56 h =>
      runD (fieldAddrD T_api_Rec t7 3) h fun t57 h =>
      runH (storeH T_int h t57 t56) h fun _ h =>
      J3 h)
    (J3 h))
    (fun h => J2 t35 h)))
  (fun t8 h => runD (unD .not t8) h fun t59 h =>
  joinW (fun (J4 : AV → AV → List AObj → Prop) =>
  guardW t59 false
  (runD (fitD T_api_Rec (loadD h t7)) h fun t61 h =>
    callW false c.noS (.fn (.func 74) [] []) [t61] h (fun t62 h =>
    runD (unD .not t62) h fun t63 h =>
    J4 (.bool false) t63 h)
    (fun _ _ => False))
  (J4 (.bool true) .und h))
  (fun t60 t63 h => runD (pickD t60 (.bool true) t63) h fun t64 h =>
  joinW (fun (J5 : AV → AV → List AObj → Prop) =>
  guardW t64 false
  (runD (fitD T_api_Rec (loadD h t7)) h fun t66 h =>
    callW false c.noS (.fn (.func 75) [] []) [t66] h (fun t67 h =>
    runD (fitD T_rec_form (loadD h t6)) h fun t68 h =>
    runD (binD T_rec_form .neq t67 t68) h fun t69 h =>
    J5 (.bool false) t69 h)
    (fun _ _ => False))
  (J5 (.bool true) .und h))
  (fun t65 t69 h => runD (pickD t65 (.bool true) t69) h fun t70 h =>
  condW t70
  (runD (buildD T_api_Rec []) h fun t71 h =>
    runH (storeH T_api_Rec h t4 t71) h fun _ h =>
    loadRes (fitD T_api_Rec (loadD h t4)) fun r0 => K (.ret (.tup [r0, (.int .i64 70)])) h)
  (runD (fitD T_api_Rec (loadD h t7)) h fun t72 h =>
  runH (storeH T_api_Rec h t4 t72) h fun _ h =>
  loadRes (fitD T_api_Rec (loadD h t4)) fun r0 => K (.ret (.tup [r0, (.int .i64 0)])) h))))))
  (fun v h => K (.pan v) h)))
def rec_Words.loops : Nat → LInfo
  | _ => ⟨[], [], [], [], [], []⟩
def rec_Words.H (c : Ctx) (t0 : AV) (h : List AObj) (K : AOut → List AObj → Prop) : Prop :=
  boxW T_api_Rec t0 h fun t1 h =>
  runD (fitD T_api_Rec (loadD h t1)) h fun t5 h =>
  callW false c (.fn (.func 74) [] []) [t5] h (fun t6 h =>
  runD (unD .not t6) h fun t7 h =>
  condW t7
  (K (.ret (.tup [(.sl true (.ints .i64 [])), (.int .i64 70)])) h)
  (runD (fitD T_api_Rec (loadD h t1)) h fun t8 h =>
  callW false c (.fn (.func 75) [] []) [t8] h (fun t9 h =>
  allocW T_rec_form h fun t4 h =>
  runH (storeH T_rec_form h t4 t9) h fun _ h =>
  runD (sliceD T_rec_form h t4 none none none) h fun t10 h =>
  K (.ret (.tup [t10, (.int .i64 0)])) h)
  (fun v h => K (.pan v) h)))
  (fun v h => K (.pan v) h)
def rec_text.loops : Nat → LInfo
  | 1 => ⟨[], [], [], [(3, none), (2, some [12, 14])], [], []⟩
  | _ => ⟨[], [], [], [], [], []⟩
def rec_text.H (c : Ctx) (t0 : AV) (t1 : AV) (t2 : AV) (h : List AObj) (K : AOut → List AObj → Prop) : Prop :=
  boxW T_rec_form t0 h fun t3 h =>
  runD (binD T_int .lss t2 (.int .i64 0)) h fun t11 h =>
  joinW (fun (J1 : AV → AV → List AObj → Prop) =>
  guardW t11 false
  (runD (binD T_int .gtr t2 (.int .i64 21)) h fun t14 h =>
    J1 (.bool false) t14 h)
  (J1 (.bool true) .und h))
  (fun t12 t14 h => runD (pickD t12 (.bool true) t14) h fun t15 h =>
  condW t15
  (K (.ret (.tup [(.str []), (.bool false)])) h)
  (runD (binD T_int .add t2 (.int .i64 6)) h fun t20 h =>
  runD (binD T_int .quo t20 (.int .i64 7)) h fun t21 h =>
  runD (binD T_int .add t1 t21) h fun t22 h =>
  runD (sliceD T_rec_form h t3 (some t1) (some t22) none) h fun t23 h =>
  callW false c (.fn (.func 101) [] []) [t23, t2] h (fun t25 h =>
  runD (extractD t25 0) h fun t26 h =>
  runD (extractD t25 1) h fun t27 h =>
  runD (binD T_api_Errno .eql t27 (.int .i64 0)) h fun t30 h =>
  K (.ret (.tup [t26, t30])) h)
  (fun v h => K (.pan v) h)))
def rec_Check.loops : Nat → LInfo
  | 3 => ⟨[], [], [], [(4, none), (3, some [10, 13]), (2, none), (3, some [15, 18])], [], []⟩
  | 5 => ⟨[], [], [], [(4, none), (3, some [25, 28]), (2, none), (3, some [30, 33]), (2, none), (3, some [35, 38]), (2, none), (3, some [40, 43])], [], []⟩
  | _ => ⟨[], [], [], [], [], []⟩
def rec_Check.H (c : Ctx) (t0 : AV) (h : List AObj) (K : AOut → List AObj → Prop) : Prop :=
  boxW T_api_Rec t0 h fun t1 h =>
  runD (fieldAddrD T_api_Rec t1 0) h fun t3 h =>
  runD (fitD T_int (loadD h t3)) h fun t4 h =>
  runD (binD T_int .eql t4 (.int .i64 1)) h fun t6 h =>
  condW t6
  (runD (fieldAddrD T_api_Rec t1 1) h fun t7 h =>
    runD (fitD T_string (loadD h t7)) h fun t8 h =>
    callW false c (.fn (.func 102) [] []) [t8] h (fun t9 h =>
    joinW (fun (J1 : AV → AV → List AObj → Prop) =>
    guardW t9 true
    (runD (fieldAddrD T_api_Rec t1 2) h fun t11 h =>
      runD (fitD T_string (loadD h t11)) h fun t12 h =>
      callW false c (.fn (.func 103) [] []) [t12] h (fun t13 h =>
      J1 (.bool true) t13 h)
      (fun v h => K (.pan v) h))
    (J1 (.bool false) .und h))
    (fun t10 t13 h => runD (pickD t10 t13 (.bool false)) h fun t14 h =>
    joinW (fun (J2 : AV → AV → List AObj → Prop) =>
    guardW t14 true
    (runD (fieldAddrD T_api_Rec t1 3) h fun t16 h =>
      runD (fitD T_int (loadD h t16)) h fun t17 h =>
      runD (binD T_int .eql t17 (.int .i64 0)) h fun t18 h =>
      J2 (.bool true) t18 h)
    (J2 (.bool false) .und h))
    (fun t15 t18 h => runD (pickD t15 t18 (.bool false)) h fun t19 h =>
    K (.ret t19) h)))
    (fun v h => K (.pan v) h))
  (runD (binD T_int .eql t4 (.int .i64 2)) h fun t21 h =>
    condW t21
    (runD (fieldAddrD T_api_Rec t1 1) h fun t22 h =>
      runD (fitD T_string (loadD h t22)) h fun t23 h =>
      runD (binD T_string .eql t23 (.str [])) h fun t24 h =>
      joinW (fun (J3 : AV → AV → List AObj → Prop) =>
      guardW t24 false
      (runD (fieldAddrD T_api_Rec t1 1) h fun t26 h =>
        runD (fitD T_string (loadD h t26)) h fun t27 h =>
        callW false c (.fn (.func 102) [] []) [t27] h (fun t28 h =>
        J3 (.bool false) t28 h)
        (fun v h => K (.pan v) h))
      (J3 (.bool true) .und h))
      (fun t25 t28 h => runD (pickD t25 (.bool true) t28) h fun t29 h =>
      joinW (fun (J4 : AV → AV → List AObj → Prop) =>
      guardW t29 true
      (runD (fieldAddrD T_api_Rec t1 2) h fun t31 h =>
        runD (fitD T_string (loadD h t31)) h fun t32 h =>
        runD (binD T_string .eql t32 (.str [])) h fun t33 h =>
        J4 (.bool true) t33 h)
      (J4 (.bool false) .und h))
      (fun t30 t33 h => runD (pickD t30 t33 (.bool false)) h fun t34 h =>
      joinW (fun (J5 : AV → AV → List AObj → Prop) =>
      guardW t34 true
      (runD (fieldAddrD T_api_Rec t1 3) h fun t36 h =>
        runD (fitD T_int (loadD h t36)) h fun t37 h =>
        runD (binD T_int .gtr t37 (.int .i64 0)) h fun t38 h =>
        J5 (.bool true) t38 h)
      (J5 (.bool false) .und h))
      (fun t35 t38 h => runD (pickD t35 t38 (.bool false)) h fun t39 h =>
      joinW (fun (J6 : AV → AV → List AObj → Prop) =>
      guardW t39 true
      (runD (fieldAddrD T_api_Rec t1 3) h fun t41 h =>
        runD (fitD T_int (loadD h t41)) h fun t42 h =>
        runD (binD T_int .lss t42 (.int .i64 256)) h fun t43 h =>
        J6 (.bool true) t43 h)
      (J6 (.bool false) .und h))
      (fun t40 t43 h => runD (pickD t40 t43 (.bool false)) h fun t44 h =>
      K (.ret t44) h)))))
    (K (.ret (.bool false)) h))
def rec_of.loops : Nat → LInfo
  | _ => ⟨[], [], [], [], [], []⟩
def rec_of.H (c : Ctx) (t0 : AV) (h : List AObj) (K : AOut → List AObj → Prop) : Prop :=
  boxW T_api_Rec t0 h fun t1 h =>
  allocW T_rec_form h fun t2 h =>
  runD (fieldAddrD T_api_Rec t1 0) h fun t4 h =>
  runD (fitD T_int (loadD h t4)) h fun t5 h =>
  runD (fieldAddrD T_api_Rec t1 1) h fun t6 h =>
  runD (fitD T_string (loadD h t6)) h fun t7 h =>
  runD (lenD T_string h t7) h fun t8 h =>
  runD (binD T_int .mul (.int .i64 32) t8) h fun t9 h =>
  runD (fieldAddrD T_api_Rec t1 2) h fun t10 h =>
  runD (fitD T_string (loadD h t10)) h fun t11 h =>
  runD (lenD T_string h t11) h fun t12 h =>
  runD (binD T_int .add t9 t12) h fun t13 h =>
  runD (buildD T_rec_form [(0, t5), (1, t13)]) h fun t14 h =>
  allocW T_rec_form h fun t3 h =>
  runH (storeH T_rec_form h t3 t14) h fun _ h =>
  runD (sliceD T_rec_form h t3 (some (.int .i64 3)) none none) h fun t15 h =>
  runD (fieldAddrD T_api_Rec t1 1) h fun t16 h =>
  runD (fitD T_string (loadD h t16)) h fun t17 h =>
  callW false c.noS (.fn (.func 104) [] []) [t17] h (fun t18 h =>
  runM (copyH T_sl_int h t15 t18) h fun t19 h =>
  runD (sliceD T_rec_form h t3 (some (.int .i64 6)) none none) h fun t20 h =>
  runD (fieldAddrD T_api_Rec t1 2) h fun t21 h =>
  runD (fitD T_string (loadD h t21)) h fun t22 h =>
  callW false c.noS (.fn (.func 104) [] []) [t22] h (fun t23 h =>
  runM (copyH T_sl_int h t20 t23) h fun t24 h =>
  runD (fieldAddrD T_api_Rec t1 0) h fun t25 h =>
  runD (fitD T_int (loadD h t25)) h fun t26 h =>
  runD (binD T_int .eql t26 (.int .i64 2)) h fun t27 h =>
  joinW (fun (J1 : List AObj → Prop) =>
  condW t27
  (runD (fieldAddrD T_api_Rec t1 3) h fun t28 h =>
    runD (fitD T_int (loadD h t28)) h fun t29 h =>
    runD (indexAddrD T_rec_form h t3 (.int .i64 6)) h fun t30 h =>
    runH (storeH T_int h t30 t29) h fun _ h =>
    J1 h)
  (J1 h))
  (fun h => runD (fitD T_rec_form (loadD h t3)) h fun t31 h =>
  callW false c (.fn (.func 105) [] []) [t31] h (fun t32 h =>
  runH (storeH T_rec_form h t2 t32) h fun _ h =>
  loadRes (fitD T_rec_form (loadD h t2)) fun r0 => K (.ret r0) h)
  (fun v h => K (.pan v) h)))
  (fun _ _ => False))
  (fun _ _ => False)
def rec_summed.loops : Nat → LInfo
  | _ => ⟨[], [], [], [], [], []⟩
def rec_summed.H (c : Ctx) (t0 : AV) (h : List AObj) (K : AOut → List AObj → Prop) : Prop :=
  boxW T_rec_form t0 h fun t1 h =>
  allocW T_rec_form h fun t2 h =>
  runD (indexAddrD T_rec_form h t1 (.int .i64 0)) h fun t4 h =>
  runD (fitD T_int (loadD h t4)) h fun t5 h =>
  runD (indexAddrD T_rec_form h t1 (.int .i64 1)) h fun t6 h =>
  runD (fitD T_int (loadD h t6)) h fun t7 h =>
  runD (buildSliceD T_sl_int 2 [(0, t5), (1, t7)] h.length) h fun t8 h =>
  runD (sliceD T_rec_form h t1 (some (.int .i64 3)) none none) h fun t9 h =>
  runDM (appendD T_sl_int h t8 t9 h.length) (appendH T_sl_int h t8 t9) h fun t10 h =>
  callW false c (.fn (.func 109) [] []) [t10] h (fun t12 h =>
  runD (indexAddrD T_rec_form h t1 (.int .i64 2)) h fun t13 h =>
  runH (storeH T_int h t13 t12) h fun _ h =>
  runD (fitD T_rec_form (loadD h t1)) h fun t14 h =>
  runH (storeH T_rec_form h t2 t14) h fun _ h =>
  loadRes (fitD T_rec_form (loadD h t2)) fun r0 => K (.ret r0) h)
  (fun v h => K (.pan v) h)
theorem rec_Read.eq (F : List (FuncId × Contract)) (S : List (FuncId × Con)) (t0 t1 : AV) (h : List AObj) (K : AOut → List AObj → Prop) : funW (ctx F S rec_Read.loops) Try.f37 [t0, t1] h K = rec_Read.H (ctx F S rec_Read.loops) t0 t1 h K := by kernel_rfl
theorem rec_Words.eq (F : List (FuncId × Contract)) (S : List (FuncId × Con)) (t0 : AV) (h : List AObj) (K : AOut → List AObj → Prop) : funW (ctx F S rec_Words.loops) Try.f60 [t0] h K = rec_Words.H (ctx F S rec_Words.loops) t0 h K := by kernel_rfl
theorem rec_text.eq (F : List (FuncId × Contract)) (S : List (FuncId × Con)) (t0 t1 t2 : AV) (h : List AObj) (K : AOut → List AObj → Prop) : funW (ctx F S rec_text.loops) Try.f73 [t0, t1, t2] h K = rec_text.H (ctx F S rec_text.loops) t0 t1 t2 h K := by kernel_rfl
theorem rec_Check.eq (F : List (FuncId × Contract)) (S : List (FuncId × Con)) (t0 : AV) (h : List AObj) (K : AOut → List AObj → Prop) : funW (ctx F S rec_Check.loops) Try.f74 [t0] h K = rec_Check.H (ctx F S rec_Check.loops) t0 h K := by kernel_rfl
theorem rec_of.eq (F : List (FuncId × Contract)) (S : List (FuncId × Con)) (t0 : AV) (h : List AObj) (K : AOut → List AObj → Prop) : funW (ctx F S rec_of.loops) Try.f75 [t0] h K = rec_of.H (ctx F S rec_of.loops) t0 h K := by kernel_rfl
theorem rec_summed.eq (F : List (FuncId × Contract)) (S : List (FuncId × Con)) (t0 : AV) (h : List AObj) (K : AOut → List AObj → Prop) : funW (ctx F S rec_summed.loops) Try.f105 [t0] h K = rec_summed.H (ctx F S rec_summed.loops) t0 h K := by kernel_rfl
theorem rec_Read.at : Try.prog.funcs[37]? = some Try.f37 := by kernel_rfl
theorem rec_Read.nm : (Try.f37.name == "runtime.NumGoroutine") = false := by kernel_rfl
theorem rec_Read.bd : Try.f37.body.isNone = false := by kernel_rfl
theorem rec_Words.at : Try.prog.funcs[60]? = some Try.f60 := by kernel_rfl
theorem rec_Words.nm : (Try.f60.name == "runtime.NumGoroutine") = false := by kernel_rfl
theorem rec_Words.bd : Try.f60.body.isNone = false := by kernel_rfl
theorem rec_text.at : Try.prog.funcs[73]? = some Try.f73 := by kernel_rfl
theorem rec_text.nm : (Try.f73.name == "runtime.NumGoroutine") = false := by kernel_rfl
theorem rec_text.bd : Try.f73.body.isNone = false := by kernel_rfl
theorem rec_Check.at : Try.prog.funcs[74]? = some Try.f74 := by kernel_rfl
theorem rec_Check.nm : (Try.f74.name == "runtime.NumGoroutine") = false := by kernel_rfl
theorem rec_Check.bd : Try.f74.body.isNone = false := by kernel_rfl
theorem rec_of.at : Try.prog.funcs[75]? = some Try.f75 := by kernel_rfl
theorem rec_of.nm : (Try.f75.name == "runtime.NumGoroutine") = false := by kernel_rfl
theorem rec_of.bd : Try.f75.body.isNone = false := by kernel_rfl
theorem rec_summed.at : Try.prog.funcs[105]? = some Try.f105 := by kernel_rfl
theorem rec_summed.nm : (Try.f105.name == "runtime.NumGoroutine") = false := by kernel_rfl
theorem rec_summed.bd : Try.f105.body.isNone = false := by kernel_rfl
end Lam
namespace Lam
open Go Go.Proofs
set_option linter.unusedVariables false
set_option linter.unnecessarySimpa false
set_option linter.unusedSimpArgs false
def rec_Check.C : Contract
  | [.agg [.int .i64 a, .str k, .str v, .int .i64 c]] => some (false, pD True (.bool (recB ⟨a, k, v, c⟩)))
  | _ => none
set_option maxRecDepth 20000 in
theorem rec_Check.spec : FSpec Try.prog 74 rec_Check.C := by
  refine FSpec.of (ctx_ok (F := [(102, key_Check.C), (103, key_CheckVal.C)]) (S := []) (by simpa using ⟨key_Check.spec, key_CheckVal.spec⟩) (by simp) rec_Check.loops) rec_Check.at rec_Check.nm rec_Check.bd ?_
  intro vs b S v news e hS
  unfold rec_Check.C at e
  split at e
  rotate_left
  · cases e
  cases e
  rw [rec_Check.eq]
  unfold rec_Check.H
  simp (maxSteps := 4000000) only [go_sem, Nat.reduceEqDiff, Nat.reduceLT, Nat.reduceAdd, Nat.reduceSub, Nat.reduceLeDiff, List.reduceReplicate, Int.reduceToNat, key_Check.C, key_CheckVal.C]
  rename_i a k v c
  have r1 : a = 1 → recB ⟨a, k, v, c⟩ = (decide (¬ k = []) && decide ((List.length k : Int) ≤ 21) && decide ((List.length v : Int) ≤ 21) && decide (c = 0)) := by
    rintro rfl
    unfold recB keyB
    rw [Bool.eq_iff_iff]
    simp [and_assoc]
  have r2 : a = 2 → recB ⟨a, k, v, c⟩ = ((decide (k = []) || decide (¬ k = []) && decide ((List.length k : Int) ≤ 21)) && decide (v = []) && decide (0 < c) && decide (c < 256)) := by
    rintro rfl
    unfold recB keyB
    rw [Bool.eq_iff_iff]
    simp [and_assoc]
  have r3 : ¬ a = 1 → ¬ a = 2 → recB ⟨a, k, v, c⟩ = false := by
    intro h1 h2
    unfold recB
    rw [decide_eq_false h1, decide_eq_false h2]; rfl
  refine ⟨fun h => ?_, fun h => ⟨fun h2 => ?_, fun h2 => ?_⟩⟩
  · rw [r1 h]; exact post_val rfl rfl
  · rw [r2 h2]; exact post_val rfl rfl
  · rw [r3 h h2]; exact post_val rfl rfl
def rec_summed.C : Contract
  | [.arr (.ints .i64 l)] => some (false, pD (l.length = 16) (.arr (.ints .i64 (l.set 2 (sumOf (l.getD 0 0 :: l.getD 1 0 :: l.drop 3))))))
  | _ => none
set_option maxRecDepth 20000 in
theorem rec_summed.spec : FSpec Try.prog 105 rec_summed.C := by
  refine FSpec.of (ctx_ok (F := [(109, sum_Of.C)]) (S := []) (by simpa using sum_Of.spec) (by simp) rec_summed.loops) rec_summed.at rec_summed.nm rec_summed.bd ?_
  intro vs b S v news e hS
  unfold rec_summed.C at e
  split at e
  rotate_left
  · cases e
  cases e
  rw [rec_summed.eq]
  unfold rec_summed.H
  simp (maxSteps := 4000000) only [go_sem, Nat.reduceEqDiff, Nat.reduceLT, Nat.reduceAdd, Nat.reduceSub, Nat.reduceLeDiff, List.reduceReplicate, Int.reduceToNat, sum_Of.C]
  rename_i l
  simp only [hS, sum_Of.C, joinW_eq, guard_tt, guard_tf, guard_ft, guard_ff, Int.reduceEq, Int.reduceLT, Int.reduceLE, decide_false, decide_true, Bool.not_false, Bool.not_true, Bool.not_not, not_true_eq_false, not_false_eq_true, true_implies, false_implies, implies_true, and_true, true_and, reduceCtorEq, Bool.and_self, Bool.or_self, Bool.and_true, Bool.true_and, Bool.false_eq_true, if_true, if_false, go_sem, Nat.reduceEqDiff, Nat.reduceLT, Nat.reduceAdd, Nat.reduceSub, Nat.reduceLeDiff, List.reduceReplicate, Int.reduceToNat]
  have htk : (l.drop 3).take 13 = l.drop 3 := take_len _ (by simp; omega)
  rw [htk]
  have : roomy ((l.drop 3).length + 1 + 1) := by unfold roomy; simp; omega
  exact ⟨this, this, post_val rfl rfl⟩
def rec_of.C : Contract
  | [.agg [.int .i64 a, .str k, .str v, .int .i64 c]] => some (false, pD (Rc.ok ⟨a, k, v, c⟩) (.arr (.ints .i64 (formR ⟨a, k, v, c⟩))))
  | _ => none
set_option maxRecDepth 20000 in
theorem rec_of.spec : FSpec Try.prog 75 rec_of.C := by
  refine FSpec.of (ctx_ok (F := [(104, key_Words.C), (105, rec_summed.C)]) (S := []) (by simpa using ⟨key_Words.spec, rec_summed.spec⟩) (by simp) rec_of.loops) rec_of.at rec_of.nm rec_of.bd ?_
  intro vs b S v news e hS
  unfold rec_of.C at e
  split at e
  rotate_left
  · cases e
  cases e
  rw [rec_of.eq]
  unfold rec_of.H
  simp (maxSteps := 4000000) only [go_sem, Nat.reduceEqDiff, Nat.reduceLT, Nat.reduceAdd, Nat.reduceSub, Nat.reduceLeDiff, List.reduceReplicate, Int.reduceToNat, key_Words.C, rec_summed.C]
  rename_i a k v c
  have hok := hS
  have hk := three_len hS.key
  have hkl : (keyW k).length = (k.length + 6) / 7 := keyW_len k
  have hvl : (keyW v).length = (v.length + 6) / 7 := keyW_len v
  have q1 := hS.key
  have q2 := hS.val
  simp only at q1 q2 hk
  have e1 : IntKind.i64.wrap (IntKind.i64.wrap (32 * (List.length k : Int)) + (List.length v : Int)) = lensR ⟨a, k, v, c⟩ := by
    rw [w64 (n := 32 * (List.length k : Int)) (by omega) (by omega), w64 (by omega) (by omega)]; rfl
  rw [e1]
  generalize hm : lensR ⟨a, k, v, c⟩ = m at *
  have pad : ∀ (t : List Int), t.length ≤ 3 → t.take 13 ++ List.take (16 - (3 + min 13 t.length)) (List.drop (3 + min 13 t.length) [a, m, 0, 0, 0, 0, 0, 0, 0, 0, 0, 0, 0, 0, 0, 0]) = t ++ List.replicate (13 - t.length) 0 := by
    intro t ht
    rw [take_len t (by omega), Nat.min_eq_right (by omega)]
    congr 1
    have : ∀ n, n ≤ 3 → List.take (16 - (3 + n)) (List.drop (3 + n) [a, m, 0, 0, 0, 0, 0, 0, 0, 0, 0, 0, 0, 0, 0, 0]) = List.replicate (13 - n) 0 := by
      intro n hn
      rcases n with _|_|_|_|n <;> first | rfl | omega
    exact this _ ht
  have hkl3 : (keyW k).length ≤ 3 := by omega
  have hvl3 : (keyW v).length ≤ 3 := by omega
  rw [pad _ hkl3]
  have hL : (keyW k ++ List.replicate (13 - (keyW k).length) 0).length = 13 := by simp; omega
  simp only [hL, key_Words.C, joinW_eq, guard_tt, guard_tf, guard_ft, guard_ff, Int.reduceEq, Int.reduceLT, Int.reduceLE, decide_false, decide_true, Bool.not_false, Bool.not_true, Bool.not_not, not_true_eq_false, not_false_eq_true, true_implies, false_implies, implies_true, and_true, true_and, reduceCtorEq, Bool.and_self, Bool.or_self, Bool.and_true, Bool.true_and, Bool.false_eq_true, if_true, if_false, go_sem, Nat.reduceEqDiff, Nat.reduceLT, Nat.reduceAdd, Nat.reduceSub, Nat.reduceLeDiff, List.reduceReplicate, Int.reduceToNat]
  have hZ : List.take 3 (keyW k ++ List.replicate (13 - (keyW k).length) 0) = threeI k := by
    unfold threeI
    rw [List.take_append, take_len (keyW k) hkl3, List.take_replicate, Nat.min_eq_left (by omega)]
  have hT : List.take 10 (keyW v) ++ List.take (16 - (6 + min 10 (keyW v).length)) (List.drop (6 + min 10 (keyW v).length) (a :: m :: 0 :: (keyW k ++ List.replicate (13 - (keyW k).length) 0))) = keyW v ++ List.replicate (10 - (keyW v).length) 0 := by
    rw [take_len (keyW v) (by omega), Nat.min_eq_right (by omega)]
    congr 1
    rw [show 6 + (keyW v).length = (3 + (keyW v).length) + 1 + 1 + 1 from by omega, List.drop_succ_cons, List.drop_succ_cons, List.drop_succ_cons, List.drop_append, List.drop_eq_nil_of_le (by omega), List.nil_append, List.drop_replicate, List.take_replicate]
    congr 1; omega
  rw [hZ, hT]
  have hlen : (threeI k ++ (keyW v ++ List.replicate (10 - (keyW v).length) 0)).length = 13 := by simp [hk]; omega
  have hr1 : a ≠ 2 → threeI k ++ (keyW v ++ List.replicate (10 - (keyW v).length) 0) = restR ⟨a, k, v, c⟩ := by
    intro h
    unfold restR
    simp only [if_neg h]
    congr 1
    unfold threeI
    rw [List.append_assoc, List.replicate_append_replicate]
    congr 2; omega
  have hr2 : a = 2 → (threeI k ++ (keyW v ++ List.replicate (10 - (keyW v).length) 0)).set 3 c = restR ⟨a, k, v, c⟩ := by
    intro h
    have hv0 : v = [] := by
      rcases hok with h' | h'
      · have := h'.1; simp only at this; omega
      · exact h'.2.2.1
    subst hv0
    unfold restR
    simp only [if_pos h]
    rw [List.set_append_right _ _ (by omega), hk]
    rfl
  have hmr : m = lensR ⟨a, k, v, c⟩ := hm.symm
  simp only [hlen, rec_summed.C, joinW_eq, guard_tt, guard_tf, guard_ft, guard_ff, Int.reduceEq, Int.reduceLT, Int.reduceLE, decide_false, decide_true, Bool.not_false, Bool.not_true, Bool.not_not, not_true_eq_false, not_false_eq_true, true_implies, false_implies, implies_true, and_true, true_and, reduceCtorEq, Bool.and_self, Bool.or_self, Bool.and_true, Bool.true_and, Bool.false_eq_true, if_true, if_false, go_sem, Nat.reduceEqDiff, Nat.reduceLT, Nat.reduceAdd, Nat.reduceSub, Nat.reduceLeDiff, List.reduceReplicate, Int.reduceToNat]
  have hd3 : ∀ R : List Int, List.drop 3 (a :: m :: 0 :: R) = R := fun R => rfl
  refine ⟨by unfold roomy; omega, by unfold roomy; omega, fun h2 => ?_, fun h2 => ?_⟩
  · rw [hr2 h2, hd3, hmr]; exact post_val rfl rfl
  · rw [hr1 h2, hd3, hmr]; exact post_val rfl rfl
def rwordsV (x : Rc) : AV := if recB x = true then .tup [.sl false (.ints .i64 (formR x)), .int .i64 0] else .tup [.sl false (.ints .i64 []), .int .i64 70]
def rec_Words.C : Contract
  | [.agg [.int .i64 a, .str k, .str v, .int .i64 c]] => some (false, pD True (rwordsV ⟨a, k, v, c⟩))
  | _ => none
set_option maxRecDepth 20000 in
theorem rec_Words.spec : FSpec Try.prog 60 rec_Words.C := by
  refine FSpec.of (ctx_ok (F := [(74, rec_Check.C), (75, rec_of.C)]) (S := []) (by simpa using ⟨rec_Check.spec, rec_of.spec⟩) (by simp) rec_Words.loops) rec_Words.at rec_Words.nm rec_Words.bd ?_
  intro vs b S v news e hS
  unfold rec_Words.C at e
  split at e
  rotate_left
  · cases e
  cases e
  rw [rec_Words.eq]
  unfold rec_Words.H
  simp (maxSteps := 4000000) only [go_sem, Nat.reduceEqDiff, Nat.reduceLT, Nat.reduceAdd, Nat.reduceSub, Nat.reduceLeDiff, List.reduceReplicate, Int.reduceToNat, rec_Check.C, rec_of.C]
  rename_i a k v c
  refine ⟨fun h => ?_, fun h => ?_⟩
  · unfold rwordsV; rw [h]; exact post_val rfl rfl
  · have hok := rec_iff.1 h
    have hl := form_len hok
    unfold rwordsV
    simp only [h, hl, joinW_eq, guard_tt, guard_tf, guard_ft, guard_ff, Int.reduceEq, Int.reduceLT, Int.reduceLE, decide_false, decide_true, Bool.not_false, Bool.not_true, Bool.not_not, not_true_eq_false, not_false_eq_true, true_implies, false_implies, implies_true, and_true, true_and, reduceCtorEq, Bool.and_self, Bool.or_self, Bool.and_true, Bool.true_and, Bool.false_eq_true, if_true, if_false, go_sem, Nat.reduceEqDiff, Nat.reduceLT, Nat.reduceAdd, Nat.reduceSub, Nat.reduceLeDiff, List.reduceReplicate, Int.reduceToNat]
    refine ⟨hok, post_val ?_ rfl⟩
    simp only [go_sem, Nat.reduceEqDiff, Nat.reduceLT, Nat.reduceAdd, Nat.reduceSub, Nat.reduceLeDiff, List.reduceReplicate, Int.reduceToNat]
    rw [take_len _ (Nat.le_of_eq hl)]
def rec_text.C : Contract
  | [.arr (.ints .i64 l), .int .i64 a, .int .i64 n] => some (false, pD (l.length = 16 ∧ 0 ≤ a ∧ a ≤ 6) (.tup [.str (txtS l a.toNat n), .bool (txtB l a.toNat n)]))
  | _ => none
set_option maxRecDepth 20000 in
theorem rec_text.spec : FSpec Try.prog 73 rec_text.C := by
  refine FSpec.of (ctx_ok (F := [(101, key_Text.C)]) (S := []) (by simpa using key_Text.spec) (by simp) rec_text.loops) rec_text.at rec_text.nm rec_text.bd ?_
  intro vs b S v news e hS
  unfold rec_text.C at e
  split at e
  rotate_left
  · cases e
  cases e
  rw [rec_text.eq]
  unfold rec_text.H
  simp (maxSteps := 4000000) only [go_sem, Nat.reduceEqDiff, Nat.reduceLT, Nat.reduceAdd, Nat.reduceSub, Nat.reduceLeDiff, List.reduceReplicate, Int.reduceToNat, key_Text.C]
  rename_i l a n
  obtain ⟨hl, ha0, ha6⟩ := hS
  have eg : (decide (n < 0) || decide (21 < n)) = !(decide (0 ≤ n) && decide (n ≤ 21)) := by
    rw [Bool.eq_iff_iff]; simp only [Bool.or_eq_true, Bool.not_eq_true', Bool.and_eq_false_iff, decide_eq_true_eq, decide_eq_false_iff_not]; omega
  rw [eg]
  refine ⟨hl, fun h => ?_, fun h => ?_⟩
  · have hb : txtB l a.toNat n = false := by
      unfold txtB; rw [Bool.not_eq_true'] at h; rw [h]; rfl
    unfold txtS
    rw [hb]; exact post_val rfl rfl
  · rw [Bool.not_eq_false'] at h
    have h' := h
    simp only [Bool.and_eq_true, decide_eq_true_eq] at h'
    obtain ⟨N, rfl⟩ := Int.eq_ofNat_of_zero_le h'.1
    obtain ⟨A, rfl⟩ := Int.eq_ofNat_of_zero_le ha0
    have hN : N ≤ 21 := by omega
    have q0 : (N + 6) / 7 ≤ 3 := by omega
    have e1 : IntKind.i64.wrap ((N : Int) + 6) = ((N + 6 : Nat) : Int) := by rw [w64 (by omega) (by omega)]; omega
    have e2 : IntKind.i64.wrap (((N + 6 : Nat) : Int).tdiv 7) = (((N + 6) / 7 : Nat) : Int) := by
      rw [Int.tdiv_eq_ediv_of_nonneg (by omega), w64 (by omega) (by omega)]; omega
    have e3 : IntKind.i64.wrap ((A : Int) + (((N + 6) / 7 : Nat) : Int)) = ((A + (N + 6) / 7 : Nat) : Int) := by rw [w64 (by omega) (by omega)]; omega
    have e4 : A + (N + 6) / 7 - A = (N + 6) / 7 := by omega
    rw [e1, e2, e3]
    simp only [hl, Int.toNat_natCast, e4, key_Text.C, joinW_eq, guard_tt, guard_tf, guard_ft, guard_ff, Int.reduceEq, Int.reduceLT, Int.reduceLE, decide_false, decide_true, Bool.not_false, Bool.not_true, Bool.not_not, not_true_eq_false, not_false_eq_true, true_implies, false_implies, implies_true, and_true, true_and, reduceCtorEq, Bool.and_self, Bool.or_self, Bool.and_true, Bool.true_and, Bool.false_eq_true, if_true, if_false, go_sem, Nat.reduceEqDiff, Nat.reduceLT, Nat.reduceAdd, Nat.reduceSub, Nat.reduceLeDiff, List.reduceReplicate, Int.reduceToNat]
    have hbt : txtB l A (N : Int) = textB ((l.drop A).take ((N + 6) / 7)) N := by
      unfold txtB
      rw [Int.toNat_natCast, h, Bool.true_and]
    have hst : txtS l A (N : Int) = if textB ((l.drop A).take ((N + 6) / 7)) N = true then textS ((l.drop A).take ((N + 6) / 7)) N else [] := by
      unfold txtS
      rw [hbt, Int.toNat_natCast]
    have hw : roomy (7 * (List.take ((N + 6) / 7) (List.drop A l)).length) := by rw [List.length_take]; unfold roomy; omega
    rw [hst, hbt]
    unfold textV
    refine ⟨by omega, ⟨hw, by omega⟩, ?_⟩
    cases textB ((l.drop A).take ((N + 6) / 7)) N
    · simp only [joinW_eq, guard_tt, guard_tf, guard_ft, guard_ff, Int.reduceEq, Int.reduceLT, Int.reduceLE, decide_false, decide_true, Bool.not_false, Bool.not_true, Bool.not_not, not_true_eq_false, not_false_eq_true, true_implies, false_implies, implies_true, and_true, true_and, reduceCtorEq, Bool.and_self, Bool.or_self, Bool.and_true, Bool.true_and, Bool.false_eq_true, if_true, if_false, go_sem, Nat.reduceEqDiff, Nat.reduceLT, Nat.reduceAdd, Nat.reduceSub, Nat.reduceLeDiff, List.reduceReplicate, Int.reduceToNat]; exact post_val rfl rfl
    · simp only [joinW_eq, guard_tt, guard_tf, guard_ft, guard_ff, Int.reduceEq, Int.reduceLT, Int.reduceLE, decide_false, decide_true, Bool.not_false, Bool.not_true, Bool.not_not, not_true_eq_false, not_false_eq_true, true_implies, false_implies, implies_true, and_true, true_and, reduceCtorEq, Bool.and_self, Bool.or_self, Bool.and_true, Bool.true_and, Bool.false_eq_true, if_true, if_false, go_sem, Nat.reduceEqDiff, Nat.reduceLT, Nat.reduceAdd, Nat.reduceSub, Nat.reduceLeDiff, List.reduceReplicate, Int.reduceToNat]; exact post_val rfl rfl
def rreadV (words : List Int) (at_ : Int) : AV := if (decide (at_ < 0) || decide (((words.length / 16 : Nat) : Int) ≤ at_)) = true then .tup [zeroRc.V, .int .i64 1] else match recOf (blockAt words at_.toNat) with
  | some n => .tup [n.V, .int .i64 0]
  | none => .tup [zeroRc.V, .int .i64 70]
/-- as the program reckons it -/
def decP7 (w : List Int) : Rc := ⟨w.getD 0 0, txtS w 3 (IntKind.i64.wrap ((w.getD 1 0).tdiv 32)), if w.getD 0 0 = 1 then txtS w 6 ((w.getD 1 0).tmod 32) else [], if w.getD 0 0 = 2 then w.getD 6 0 else 0⟩
theorem lens_P {x : Rc} (h : x.ok) : IntKind.i64.wrap ((lensR x).tdiv 32) = x.key.length ∧ (lensR x).tmod 32 = x.val.length := by
  have hl := form_lens h
  rw [Int.tdiv_eq_ediv_of_nonneg hl.2.2.1, Int.tmod_eq_emod_of_nonneg hl.2.2.1, w64 (by omega) (by omega)]
  exact ⟨hl.1, hl.2.1⟩
theorem decP7_form {x : Rc} (h : x.ok) : decP7 (formR x) = x := by
  have hd := decC_form h
  have e1 : (formR x).getD 1 0 = lensR x := rfl
  have hl := form_lens h
  have hp := lens_P h
  unfold decC at hd
  unfold decP7
  rw [e1, hl.1, hl.2.1] at hd
  rw [e1, hp.1, hp.2]; exact hd
theorem recP_eq (w : List Int) : readC decP7 w = recOf w := readC_eq (fun n h => decP7_form h) (fun n h => decC_form h) w
theorem no_key {w : List Int} (h : txtB w 3 (IntKind.i64.wrap ((w.getD 1 0).tdiv 32)) = false) : recOf w = none := by
  apply recOf_none
  rintro x hx rfl
  have e1 : (formR x).getD 1 0 = lensR x := rfl
  rw [e1, (lens_P hx).1, (form_key hx).1] at h
  cases h
theorem no_val {w : List Int} (h1 : w.getD 0 0 = 1) (h : txtB w 6 ((w.getD 1 0).tmod 32) = false) : recOf w = none := by
  apply recOf_none
  rintro x hx rfl
  have e1 : (formR x).getD 1 0 = lensR x := rfl
  rw [e1, (lens_P hx).2, (form_val hx h1).1] at h
  cases h
def rec_Read.C : Contract
  | [.sl _ (.ints .i64 l), .int .i64 k] => some (false, pD (roomy l.length) (rreadV l k))
  | _ => none
set_option maxRecDepth 20000 in
theorem rec_Read.spec : FSpec Try.prog 37 rec_Read.C := by
  refine FSpec.of (ctx_ok (F := [(73, rec_text.C), (74, rec_Check.C), (75, rec_of.C)]) (S := []) (by simpa using ⟨rec_text.spec, rec_Check.spec, rec_of.spec⟩) (by simp) rec_Read.loops) rec_Read.at rec_Read.nm rec_Read.bd ?_
  intro vs b S v news e hS
  unfold rec_Read.C at e
  split at e
  rotate_left
  · cases e
  cases e
  rw [rec_Read.eq]
  unfold rec_Read.H
  simp (maxSteps := 4000000) only [go_sem, Nat.reduceEqDiff, Nat.reduceLT, Nat.reduceAdd, Nat.reduceSub, Nat.reduceLeDiff, List.reduceReplicate, Int.reduceToNat, rec_text.C, rec_Check.C, rec_of.C]
  rename_i l k
  have hrl := hS
  unfold roomy at hS
  have e0 : IntKind.i64.wrap ((l.length : Int).tdiv 16) = ((l.length / 16 : Nat) : Int) := by
    rw [Int.tdiv_eq_ediv_of_nonneg (by omega)]; exact w64 (by omega) (by omega)
  rw [e0]
  unfold rreadV
  refine ⟨fun _ => by decide, fun h => ?_, fun h => ?_⟩
  · rw [if_pos h]
    refine post_val ?_ rfl
    simp only [zeroRc, go_sem, Nat.reduceEqDiff, Nat.reduceLT, Nat.reduceAdd, Nat.reduceSub, Nat.reduceLeDiff, List.reduceReplicate, Int.reduceToNat]
  · rw [h]
    simp only [Bool.or_eq_false_iff, decide_eq_false_iff_not] at h
    obtain ⟨k, rfl⟩ := Int.eq_ofNat_of_zero_le (show 0 ≤ k by omega)
    have hk : 16 * k + 16 ≤ l.length := by omega
    have e1 : IntKind.i64.wrap (16 * (k : Int)) = 16 * (k : Int) := w64 (by omega) (by omega)
    have e5 : (16 * (k : Int)).toNat = 16 * k := by omega
    have hdl : (l.drop (16 * k)).length = l.length - 16 * k := by simp
    have et : (l.drop (16 * k)).take (l.length - 16 * k) = l.drop (16 * k) := take_len _ (by omega)
    have hbl : (blockAt l k).length = 16 := by unfold blockAt; simp; omega
    rw [e1, e5, et, hdl, Nat.min_eq_left (by omega)]
    have ew : (l.drop (16 * k)).take 16 ++ List.take (16 - 16) (List.drop 16 [0, 0, 0, 0, 0, 0, 0, 0, 0, 0, 0, 0, 0, 0, 0, 0]) = blockAt l k := by
      show (l.drop (16 * k)).take 16 ++ [] = _
      rw [List.append_nil]; rfl
    rw [ew, Int.toNat_natCast]
    generalize blockAt l k = w at *
    have hV : (decP7 w).V = .agg [.int .i64 (w.getD 0 0), .str (txtS w 3 (IntKind.i64.wrap ((w.getD 1 0).tdiv 32))), .str (if w.getD 0 0 = 1 then txtS w 6 ((w.getD 1 0).tmod 32) else []), .int .i64 (if w.getD 0 0 = 2 then w.getD 6 0 else 0)] := rfl
    simp only [hbl, rec_text.C, joinW_eq, guard_tt, guard_tf, guard_ft, guard_ff, Int.reduceEq, Int.reduceLT, Int.reduceLE, decide_false, decide_true, Bool.not_false, Bool.not_true, Bool.not_not, not_true_eq_false, not_false_eq_true, true_implies, false_implies, implies_true, and_true, true_and, reduceCtorEq, Bool.and_self, Bool.or_self, Bool.and_true, Bool.true_and, Bool.false_eq_true, if_true, if_false, go_sem, Nat.reduceEqDiff, Nat.reduceLT, Nat.reduceAdd, Nat.reduceSub, Nat.reduceLeDiff, List.reduceReplicate, Int.reduceToNat]
    refine ⟨by omega, fun hT => ?_, fun hT => ⟨fun h1 => ?_, fun h1 => ⟨fun h2 => ?_, fun h2 => ?_⟩⟩⟩
    · rw [no_key hT]
      refine post_val ?_ rfl
      simp only [zeroRc, go_sem, Nat.reduceEqDiff, Nat.reduceLT, Nat.reduceAdd, Nat.reduceSub, Nat.reduceLeDiff, List.reduceReplicate, Int.reduceToNat]
    · have hd1 : (⟨w.getD 0 0, txtS w 3 (IntKind.i64.wrap ((w.getD 1 0).tdiv 32)), txtS w 6 ((w.getD 1 0).tmod 32), 0⟩ : Rc) = decP7 w := by
        unfold decP7; rw [if_pos h1, if_neg (by omega)]
      cases h6 : txtB w 6 ((w.getD 1 0).tmod 32) with
      | false =>
        simp only [Bool.not_false, guard_tf]
        rw [no_val h1 h6]
        refine post_val ?_ rfl
        simp only [zeroRc, go_sem, Nat.reduceEqDiff, Nat.reduceLT, Nat.reduceAdd, Nat.reduceSub, Nat.reduceLeDiff, List.reduceReplicate, Int.reduceToNat]
      | true =>
        rw [← recP_eq]
        unfold readC
        cases hb : recB (decP7 w) with
        | false =>
          simp only [rec_Check.C, hd1, hb, Bool.false_and, Bool.false_eq_true, if_false, joinW_eq, guard_tt, guard_tf, guard_ft, guard_ff, Int.reduceEq, Int.reduceLT, Int.reduceLE, decide_false, decide_true, Bool.not_false, Bool.not_true, Bool.not_not, not_true_eq_false, not_false_eq_true, true_implies, false_implies, implies_true, and_true, true_and, reduceCtorEq, Bool.and_self, Bool.or_self, Bool.and_true, Bool.true_and, Bool.false_eq_true, if_true, if_false, go_sem, Nat.reduceEqDiff, Nat.reduceLT, Nat.reduceAdd, Nat.reduceSub, Nat.reduceLeDiff, List.reduceReplicate, Int.reduceToNat]
          refine post_val ?_ rfl
          simp only [zeroRc, go_sem, Nat.reduceEqDiff, Nat.reduceLT, Nat.reduceAdd, Nat.reduceSub, Nat.reduceLeDiff, List.reduceReplicate, Int.reduceToNat]
        | true =>
          have hok := rec_iff.1 hb
          have hfl := form_len hok
          simp only [rec_Check.C, rec_of.C, hd1, hb, hfl, hbl, Bool.true_and, joinW_eq, guard_tt, guard_tf, guard_ft, guard_ff, Int.reduceEq, Int.reduceLT, Int.reduceLE, decide_false, decide_true, Bool.not_false, Bool.not_true, Bool.not_not, not_true_eq_false, not_false_eq_true, true_implies, false_implies, implies_true, and_true, true_and, reduceCtorEq, Bool.and_self, Bool.or_self, Bool.and_true, Bool.true_and, Bool.false_eq_true, if_true, if_false, go_sem, Nat.reduceEqDiff, Nat.reduceLT, Nat.reduceAdd, Nat.reduceSub, Nat.reduceLeDiff, List.reduceReplicate, Int.reduceToNat]
          refine ⟨hok, fun h => ?_, fun h => ?_⟩
          · rw [if_neg h]
            refine post_val ?_ rfl
            simp only [zeroRc, go_sem, Nat.reduceEqDiff, Nat.reduceLT, Nat.reduceAdd, Nat.reduceSub, Nat.reduceLeDiff, List.reduceReplicate, Int.reduceToNat]
          · rw [if_pos h, ← hd1]
            exact post_val rfl rfl
    · have hd1 : (⟨w.getD 0 0, txtS w 3 (IntKind.i64.wrap ((w.getD 1 0).tdiv 32)), [], w.getD 6 0⟩ : Rc) = decP7 w := by
        unfold decP7; rw [if_neg (by omega), if_pos h2]
      rw [← recP_eq]
      unfold readC
      cases hb : recB (decP7 w) with
      | false =>
        simp only [hT, rec_Check.C, hd1, hb, Bool.false_and, Bool.false_eq_true, if_false, joinW_eq, guard_tt, guard_tf, guard_ft, guard_ff, Int.reduceEq, Int.reduceLT, Int.reduceLE, decide_false, decide_true, Bool.not_false, Bool.not_true, Bool.not_not, not_true_eq_false, not_false_eq_true, true_implies, false_implies, implies_true, and_true, true_and, reduceCtorEq, Bool.and_self, Bool.or_self, Bool.and_true, Bool.true_and, Bool.false_eq_true, if_true, if_false, go_sem, Nat.reduceEqDiff, Nat.reduceLT, Nat.reduceAdd, Nat.reduceSub, Nat.reduceLeDiff, List.reduceReplicate, Int.reduceToNat]
        refine post_val ?_ rfl
        simp only [zeroRc, go_sem, Nat.reduceEqDiff, Nat.reduceLT, Nat.reduceAdd, Nat.reduceSub, Nat.reduceLeDiff, List.reduceReplicate, Int.reduceToNat]
      | true =>
        have hok := rec_iff.1 hb
        have hfl := form_len hok
        simp only [hT, rec_Check.C, rec_of.C, hd1, hb, hfl, hbl, Bool.true_and, joinW_eq, guard_tt, guard_tf, guard_ft, guard_ff, Int.reduceEq, Int.reduceLT, Int.reduceLE, decide_false, decide_true, Bool.not_false, Bool.not_true, Bool.not_not, not_true_eq_false, not_false_eq_true, true_implies, false_implies, implies_true, and_true, true_and, reduceCtorEq, Bool.and_self, Bool.or_self, Bool.and_true, Bool.true_and, Bool.false_eq_true, if_true, if_false, go_sem, Nat.reduceEqDiff, Nat.reduceLT, Nat.reduceAdd, Nat.reduceSub, Nat.reduceLeDiff, List.reduceReplicate, Int.reduceToNat]
        refine ⟨hok, fun h => ?_, fun h => ?_⟩
        · rw [if_neg h]
          refine post_val ?_ rfl
          simp only [zeroRc, go_sem, Nat.reduceEqDiff, Nat.reduceLT, Nat.reduceAdd, Nat.reduceSub, Nat.reduceLeDiff, List.reduceReplicate, Int.reduceToNat]
        · rw [if_pos h, ← hd1]
          exact post_val rfl rfl
    · have hd1 : (⟨w.getD 0 0, txtS w 3 (IntKind.i64.wrap ((w.getD 1 0).tdiv 32)), [], 0⟩ : Rc) = decP7 w := by
        unfold decP7; rw [if_neg (by omega), if_neg h2]
      rw [← recP_eq]
      unfold readC
      cases hb : recB (decP7 w) with
      | false =>
        simp only [hT, rec_Check.C, hd1, hb, Bool.false_and, Bool.false_eq_true, if_false, joinW_eq, guard_tt, guard_tf, guard_ft, guard_ff, Int.reduceEq, Int.reduceLT, Int.reduceLE, decide_false, decide_true, Bool.not_false, Bool.not_true, Bool.not_not, not_true_eq_false, not_false_eq_true, true_implies, false_implies, implies_true, and_true, true_and, reduceCtorEq, Bool.and_self, Bool.or_self, Bool.and_true, Bool.true_and, Bool.false_eq_true, if_true, if_false, go_sem, Nat.reduceEqDiff, Nat.reduceLT, Nat.reduceAdd, Nat.reduceSub, Nat.reduceLeDiff, List.reduceReplicate, Int.reduceToNat]
        refine post_val ?_ rfl
        simp only [zeroRc, go_sem, Nat.reduceEqDiff, Nat.reduceLT, Nat.reduceAdd, Nat.reduceSub, Nat.reduceLeDiff, List.reduceReplicate, Int.reduceToNat]
      | true =>
        have hok := rec_iff.1 hb
        have hfl := form_len hok
        simp only [hT, rec_Check.C, rec_of.C, hd1, hb, hfl, hbl, Bool.true_and, joinW_eq, guard_tt, guard_tf, guard_ft, guard_ff, Int.reduceEq, Int.reduceLT, Int.reduceLE, decide_false, decide_true, Bool.not_false, Bool.not_true, Bool.not_not, not_true_eq_false, not_false_eq_true, true_implies, false_implies, implies_true, and_true, true_and, reduceCtorEq, Bool.and_self, Bool.or_self, Bool.and_true, Bool.true_and, Bool.false_eq_true, if_true, if_false, go_sem, Nat.reduceEqDiff, Nat.reduceLT, Nat.reduceAdd, Nat.reduceSub, Nat.reduceLeDiff, List.reduceReplicate, Int.reduceToNat]
        refine ⟨hok, fun h => ?_, fun h => ?_⟩
        · rw [if_neg h]
          refine post_val ?_ rfl
          simp only [zeroRc, go_sem, Nat.reduceEqDiff, Nat.reduceLT, Nat.reduceAdd, Nat.reduceSub, Nat.reduceLeDiff, List.reduceReplicate, Int.reduceToNat]
        · rw [if_pos h, ← hd1]
          exact post_val rfl rfl
end Lam
namespace Lam
set_option maxRecDepth 20000
open Go Go.Proofs
set_option linter.unusedVariables false
set_option linter.unnecessarySimpa false
set_option linter.unusedSimpArgs false
theorem readV_so {w : List Int} {b : Int} {n : Nd} (h : nodeO w b = some n) : readV w b = .tup [n.V, .int .i64 0] := by
  unfold nodeO at h
  unfold readV
  split at h
  · cases h
  · rename_i hb; rw [if_neg hb, h]
theorem readV_no {w : List Int} {b : Int} (h : nodeO w b = none) : ∃ e, e ≠ 0 ∧ readV w b = .tup [zeroNd.V, .int .i64 e] := by
  unfold nodeO at h
  unfold readV
  split at h
  · rename_i hb; rw [if_pos hb]; exact ⟨1, by decide, rfl⟩
  · rename_i hb; rw [if_neg hb, h]; exact ⟨90, by decide, rfl⟩
theorem rreadV_so {w : List Int} {b : Int} {n : Rc} (h : recO w b = some n) : rreadV w b = .tup [n.V, .int .i64 0] := by
  unfold recO at h
  unfold rreadV
  split at h
  · cases h
  · rename_i hb; rw [if_neg hb, h]
theorem rreadV_no {w : List Int} {b : Int} (h : recO w b = none) : ∃ e, e ≠ 0 ∧ rreadV w b = .tup [zeroRc.V, .int .i64 e] := by
  unfold recO at h
  unfold rreadV
  split at h
  · rename_i hb; rw [if_pos hb]; exact ⟨1, by decide, rfl⟩
  · rename_i hb; rw [if_neg hb, h]; exact ⟨70, by decide, rfl⟩
structure Sk where
  block : Int
  turn : Int
  at_ : Int
  refs : List Int
  over : Bool
def Sk.V (s : Sk) : AV := .agg [.int .i64 s.block, .int .i64 s.turn, .int .i64 s.at_, .sl false (.ints .i64 s.refs), .bool s.over]
def downB (t : Int) : Bool := decide (andI .i64 t 1 = 1)
def seek_down.C : Contract
  | [.agg [.int .i64 _, .int .i64 t, .int .i64 _, .sl _ (.ints .i64 _), .bool _]] => some (false, pD True (.bool (downB t)))
  | _ => none
set_option maxRecDepth 20000 in
theorem seek_down.spec : FSpec Try.prog 61 seek_down.C := by
  refine FSpec.of (ctx_ok (F := []) (S := []) (by simp) (by simp) seek_down.loops) seek_down.at seek_down.nm seek_down.bd ?_
  intro vs b S v news e hS
  unfold seek_down.C at e
  split at e
  rotate_left
  · cases e
  cases e
  rw [seek_down.eq]
  unfold seek_down.H
  simp (maxSteps := 4000000) only [go_sem, Nat.reduceEqDiff, Nat.reduceLT, Nat.reduceAdd, Nat.reduceSub, Nat.reduceLeDiff, List.reduceReplicate, Int.reduceToNat]
  exact post_val rfl rfl
def skZ : Sk := ⟨0, 0, 0, [], false⟩
def beginO (w : List Int) (b : Int) : Option Sk := match nodeO w b with
  | some n => if 256 ≤ b then none else some ⟨b, n.turn, if downB n.turn = true then 12 else 0, [], false⟩
  | none => none
def beginV (w : List Int) (b : Int) : AV := match beginO w b with
  | some s => .tup [s.V, .int .i64 0]
  | none => .tup [skZ.V, .int .i64 90]
def seek_Begin.C : Contract
  | [.sl _ (.ints .i64 w), .int .i64 b] => some (false, pD (roomy w.length) (beginV w b))
  | _ => none
set_option maxRecDepth 20000 in
theorem seek_Begin.spec : FSpec Try.prog 25 seek_Begin.C := by
  refine FSpec.of (ctx_ok (F := [(23, node_Read.C), (61, seek_down.C)]) (S := []) (by simpa using ⟨node_Read.spec, seek_down.spec⟩) (by simp) seek_Begin.loops) seek_Begin.at seek_Begin.nm seek_Begin.bd ?_
  intro vs b S v news e hS
  unfold seek_Begin.C at e
  split at e
  rotate_left
  · cases e
  cases e
  rw [seek_Begin.eq]
  unfold seek_Begin.H
  simp (maxSteps := 4000000) only [go_sem, Nat.reduceEqDiff, Nat.reduceLT, Nat.reduceAdd, Nat.reduceSub, Nat.reduceLeDiff, List.reduceReplicate, Int.reduceToNat, node_Read.C, seek_down.C]
  rename_i w b
  unfold beginV beginO
  cases hn : nodeO w b with
  | none =>
    obtain ⟨e, he, hr⟩ := readV_no hn
    simp only [hr, zeroNd, he, decide_true, decide_false, joinW_eq, skZ, Sk.V, joinW_eq, guard_tt, guard_tf, guard_ft, guard_ff, Int.reduceEq, Int.reduceLT, Int.reduceLE, decide_false, decide_true, Bool.not_false, Bool.not_true, Bool.not_not, not_true_eq_false, not_false_eq_true, true_implies, false_implies, implies_true, and_true, true_and, reduceCtorEq, Bool.and_self, Bool.or_self, Bool.and_true, Bool.true_and, Bool.false_eq_true, if_true, if_false, go_sem, Nat.reduceEqDiff, Nat.reduceLT, Nat.reduceAdd, Nat.reduceSub, Nat.reduceLeDiff, List.reduceReplicate, Int.reduceToNat]
    exact ⟨hS, post_val rfl rfl⟩
  | some n =>
    obtain ⟨n1, n2, n3, n4, n5⟩ := n
    by_cases hb : 256 ≤ b
    · simp only [readV_so hn, hb, if_true, decide_true, joinW_eq, skZ, Sk.V, joinW_eq, guard_tt, guard_tf, guard_ft, guard_ff, Int.reduceEq, Int.reduceLT, Int.reduceLE, decide_false, decide_true, Bool.not_false, Bool.not_true, Bool.not_not, not_true_eq_false, not_false_eq_true, true_implies, false_implies, implies_true, and_true, true_and, reduceCtorEq, Bool.and_self, Bool.or_self, Bool.and_true, Bool.true_and, Bool.false_eq_true, if_true, if_false, go_sem, Nat.reduceEqDiff, Nat.reduceLT, Nat.reduceAdd, Nat.reduceSub, Nat.reduceLeDiff, List.reduceReplicate, Int.reduceToNat]
      exact ⟨hS, post_val rfl rfl⟩
    · simp only [readV_so hn, hb, if_false, decide_false, seek_down.C, joinW_eq, Sk.V, joinW_eq, guard_tt, guard_tf, guard_ft, guard_ff, Int.reduceEq, Int.reduceLT, Int.reduceLE, decide_false, decide_true, Bool.not_false, Bool.not_true, Bool.not_not, not_true_eq_false, not_false_eq_true, true_implies, false_implies, implies_true, and_true, true_and, reduceCtorEq, Bool.and_self, Bool.or_self, Bool.and_true, Bool.true_and, Bool.false_eq_true, if_true, if_false, go_sem, Nat.reduceEqDiff, Nat.reduceLT, Nat.reduceAdd, Nat.reduceSub, Nat.reduceLeDiff, List.reduceReplicate, Int.reduceToNat]
      cases hd : downB n2 with
      | true => simp only [if_true, joinW_eq, guard_tt, guard_tf, guard_ft, guard_ff, Int.reduceEq, Int.reduceLT, Int.reduceLE, decide_false, decide_true, Bool.not_false, Bool.not_true, Bool.not_not, not_true_eq_false, not_false_eq_true, true_implies, false_implies, implies_true, and_true, true_and, reduceCtorEq, Bool.and_self, Bool.or_self, Bool.and_true, Bool.true_and, Bool.false_eq_true, if_true, if_false, go_sem, Nat.reduceEqDiff, Nat.reduceLT, Nat.reduceAdd, Nat.reduceSub, Nat.reduceLeDiff, List.reduceReplicate, Int.reduceToNat]; exact ⟨hS, post_val rfl rfl⟩
      | false => simp only [if_false, joinW_eq, guard_tt, guard_tf, guard_ft, guard_ff, Int.reduceEq, Int.reduceLT, Int.reduceLE, decide_false, decide_true, Bool.not_false, Bool.not_true, Bool.not_not, not_true_eq_false, not_false_eq_true, true_implies, false_implies, implies_true, and_true, true_and, reduceCtorEq, Bool.and_self, Bool.or_self, Bool.and_true, Bool.true_and, Bool.false_eq_true, if_true, if_false, go_sem, Nat.reduceEqDiff, Nat.reduceLT, Nat.reduceAdd, Nat.reduceSub, Nat.reduceLeDiff, List.reduceReplicate, Int.reduceToNat]; exact ⟨hS, post_val rfl rfl⟩
def holdsB (w : List Int) (b t : Int) : Bool := match nodeO w b with
  | some n => decide (n.turn = t)
  | none => false
def seek_Holds.C : Contract
  | [.sl _ (.ints .i64 w), .agg [.int .i64 b, .int .i64 t, .int .i64 _, .sl _ (.ints .i64 _), .bool _]] => some (false, pD (roomy w.length) (.bool (holdsB w b t)))
  | _ => none
set_option maxRecDepth 20000 in
theorem seek_Holds.spec : FSpec Try.prog 30 seek_Holds.C := by
  refine FSpec.of (ctx_ok (F := [(23, node_Read.C)]) (S := []) (by simpa using node_Read.spec) (by simp) seek_Holds.loops) seek_Holds.at seek_Holds.nm seek_Holds.bd ?_
  intro vs b S v news e hS
  unfold seek_Holds.C at e
  split at e
  rotate_left
  · cases e
  cases e
  rw [seek_Holds.eq]
  unfold seek_Holds.H
  simp (maxSteps := 4000000) only [go_sem, Nat.reduceEqDiff, Nat.reduceLT, Nat.reduceAdd, Nat.reduceSub, Nat.reduceLeDiff, List.reduceReplicate, Int.reduceToNat, node_Read.C]
  rename_i _ w b t _ _ _ _
  unfold holdsB
  cases hn : nodeO w b with
  | none =>
    obtain ⟨e, he, hr⟩ := readV_no hn
    simp only [hr, zeroNd, he, decide_true, decide_false, joinW_eq, joinW_eq, guard_tt, guard_tf, guard_ft, guard_ff, Int.reduceEq, Int.reduceLT, Int.reduceLE, decide_false, decide_true, Bool.not_false, Bool.not_true, Bool.not_not, not_true_eq_false, not_false_eq_true, true_implies, false_implies, implies_true, and_true, true_and, reduceCtorEq, Bool.and_self, Bool.or_self, Bool.and_true, Bool.true_and, Bool.false_eq_true, if_true, if_false, go_sem, Nat.reduceEqDiff, Nat.reduceLT, Nat.reduceAdd, Nat.reduceSub, Nat.reduceLeDiff, List.reduceReplicate, Int.reduceToNat]
    exact ⟨hS, post_val rfl rfl⟩
  | some n =>
    obtain ⟨n1, n2, n3, n4, n5⟩ := n
    simp only [readV_so hn, decide_true, joinW_eq, joinW_eq, guard_tt, guard_tf, guard_ft, guard_ff, Int.reduceEq, Int.reduceLT, Int.reduceLE, decide_false, decide_true, Bool.not_false, Bool.not_true, Bool.not_not, not_true_eq_false, not_false_eq_true, true_implies, false_implies, implies_true, and_true, true_and, reduceCtorEq, Bool.and_self, Bool.or_self, Bool.and_true, Bool.true_and, Bool.false_eq_true, if_true, if_false, go_sem, Nat.reduceEqDiff, Nat.reduceLT, Nat.reduceAdd, Nat.reduceSub, Nat.reduceLeDiff, List.reduceReplicate, Int.reduceToNat]
    exact ⟨hS, post_val rfl rfl⟩
def seek_look_up.K : Con := fun args h K => match args with
  | [a0] => seek_look_up.H (ctx [] [] seek_look_up.loops) a0 h K
  | _ => False
theorem seek_look_up.spec : SSpec Try.prog 65 seek_look_up.K := by
  refine SSpec.of (ctx_ok (F := []) (S := []) (by simp) (by simp) seek_look_up.loops) seek_look_up.at seek_look_up.nm seek_look_up.bd ?_
  intro args h K hC
  unfold seek_look_up.K at hC
  split at hC
  · rw [seek_look_up.eq]; exact hC
  · exact hC.elim
def seek_look_fall.K : Con := fun args h K => match args with
  | [a0] => seek_look_fall.H (ctx [] [] seek_look_fall.loops) a0 h K
  | _ => False
theorem seek_look_fall.spec : SSpec Try.prog 66 seek_look_fall.K := by
  refine SSpec.of (ctx_ok (F := []) (S := []) (by simp) (by simp) seek_look_fall.loops) seek_look_fall.at seek_look_fall.nm seek_look_fall.bd ?_
  intro args h K hC
  unfold seek_look_fall.K at hC
  split at hC
  · rw [seek_look_fall.eq]; exact hC
  · exact hC.elim
def overB (w : Int) (s : Sk) : Bool := if downB s.turn = true then decide (s.at_ = 0) else decide (w < 1) || decide (s.at_ = 12)
def goOn (w : Int) (s : Sk) : Sk :=
  { s with
    refs := if (decide (0 < w) && (decide (s.refs.length = 0) || !decide (s.refs.getD (s.refs.length - 1) 0 = w))) = true then s.refs ++ [w] else s.refs
    over := overB w s
    at_ := if overB w s = true then s.at_ else if downB s.turn = true then IntKind.i64.wrap (s.at_ - 1) else IntKind.i64.wrap (s.at_ + 1) }
/-- where the next one is -/
def spotI (w : List Int) (s : Sk) : Int := if (decide (0 ≤ s.block) && decide (s.block < 256) && decide (s.block < ((w.length / 16 : Nat) : Int))) = true then placeI (16 * s.block) s.at_ else -1
def stepS (w : List Int) (s : Sk) : Sk := if (s.over || decide (spotI w s < 0)) = true then s else goOn (w.getD (spotI w s).toNat 0) s
def seek_Step.C : Contract
  | [.sl _ (.ints .i64 w), .agg [.int .i64 b, .int .i64 t, .int .i64 a, .sl _ (.ints .i64 l), .bool o]] => some (false, pD (w.length ≤ 65536 ∧ l.length ≤ 65536) (stepS w ⟨b, t, a, l, o⟩).V)
  | _ => none
set_option maxRecDepth 20000 in
theorem seek_Step.spec : FSpec Try.prog 28 seek_Step.C := by
  refine FSpec.of (ctx_ok (F := [(63, fast_Place.C), (64, slices_Clone_sl_int_int.C), (61, seek_down.C)]) (S := [(65, seek_look_up.K), (66, seek_look_fall.K)]) (by simpa using ⟨fast_Place.spec, slices_Clone_sl_int_int.spec, seek_down.spec⟩) (by simpa using ⟨seek_look_up.spec, seek_look_fall.spec⟩) seek_Step.loops) seek_Step.at seek_Step.nm seek_Step.bd ?_
  intro vs b S v news e hS
  unfold seek_Step.C at e
  split at e
  rotate_left
  · cases e
  cases e
  rw [seek_Step.eq]
  unfold seek_Step.H
  simp (maxSteps := 4000000) only [go_sem, Nat.reduceEqDiff, Nat.reduceLT, Nat.reduceAdd, Nat.reduceSub, Nat.reduceLeDiff, List.reduceReplicate, Int.reduceToNat, fast_Place.C, slices_Clone_sl_int_int.C, seek_down.C]
  rename_i _ w b t a x l o
  obtain ⟨hw, hl⟩ := hS
  have e0 : IntKind.i64.wrap ((w.length : Int).tdiv 16) = ((w.length / 16 : Nat) : Int) := by
    rw [Int.tdiv_eq_ediv_of_nonneg (by omega)]; exact w64 (by omega) (by omega)
  have hst : ∀ s : Sk, (s.over || decide (spotI w s < 0)) = true → stepS w s = s := fun s h => by unfold stepS; rw [if_pos h]
  have hgo : ∀ s : Sk, (s.over || decide (spotI w s < 0)) = false → stepS w s = goOn (w.getD (spotI w s).toNat 0) s := fun s h => by unfold stepS; rw [if_neg (by rw [h]; decide)]
  refine ⟨fun _ => by decide, ?_⟩
  cases hin : (decide (0 ≤ b) && decide (b < 256) && decide (b < ((w.length / 16 : Nat) : Int))) with
  | false =>
    have hs : spotI w ⟨b, t, a, l, o⟩ = -1 := by unfold spotI; rw [if_neg (by rw [hin]; decide)]
    rw [hst _ (by rw [hs]; cases o <;> rfl)]
    simp only [e0, hin, joinW_eq, Sk.V, joinW_eq, guard_tt, guard_tf, guard_ft, guard_ff, Int.reduceEq, Int.reduceLT, Int.reduceLE, decide_false, decide_true, Bool.not_false, Bool.not_true, Bool.not_not, not_true_eq_false, not_false_eq_true, true_implies, false_implies, implies_true, and_true, true_and, reduceCtorEq, Bool.and_self, Bool.or_self, Bool.and_true, Bool.true_and, Bool.false_eq_true, if_true, if_false, go_sem, Nat.reduceEqDiff, Nat.reduceLT, Nat.reduceAdd, Nat.reduceSub, Nat.reduceLeDiff, List.reduceReplicate, Int.reduceToNat]
    cases o with
    | true => simp only [joinW_eq, guard_tt, guard_tf, guard_ft, guard_ff, Int.reduceEq, Int.reduceLT, Int.reduceLE, decide_false, decide_true, Bool.not_false, Bool.not_true, Bool.not_not, not_true_eq_false, not_false_eq_true, true_implies, false_implies, implies_true, and_true, true_and, reduceCtorEq, Bool.and_self, Bool.or_self, Bool.and_true, Bool.true_and, Bool.false_eq_true, if_true, if_false, go_sem, Nat.reduceEqDiff, Nat.reduceLT, Nat.reduceAdd, Nat.reduceSub, Nat.reduceLeDiff, List.reduceReplicate, Int.reduceToNat]; exact post_val rfl rfl
    | false => simp only [joinW_eq, guard_tt, guard_tf, guard_ft, guard_ff, Int.reduceEq, Int.reduceLT, Int.reduceLE, decide_false, decide_true, Bool.not_false, Bool.not_true, Bool.not_not, not_true_eq_false, not_false_eq_true, true_implies, false_implies, implies_true, and_true, true_and, reduceCtorEq, Bool.and_self, Bool.or_self, Bool.and_true, Bool.true_and, Bool.false_eq_true, if_true, if_false, go_sem, Nat.reduceEqDiff, Nat.reduceLT, Nat.reduceAdd, Nat.reduceSub, Nat.reduceLeDiff, List.reduceReplicate, Int.reduceToNat]; exact post_val rfl rfl
  | true =>
    have hin' := hin
    simp only [Bool.and_eq_true, decide_eq_true_eq] at hin'
    obtain ⟨⟨h0, h1⟩, h2⟩ := hin'
    have e1 : IntKind.i64.wrap (16 * b) = 16 * b := w64 (by omega) (by omega)
    have hs : spotI w ⟨b, t, a, l, o⟩ = placeI (16 * b) a := by unfold spotI; rw [if_pos hin]
    by_cases hp : placeI (16 * b) a < 0
    · rw [hst _ (by rw [hs, decide_eq_true hp, Bool.or_true])]
      simp only [e0, e1, hin, hp, decide_true, joinW_eq, Sk.V, joinW_eq, guard_tt, guard_tf, guard_ft, guard_ff, Int.reduceEq, Int.reduceLT, Int.reduceLE, decide_false, decide_true, Bool.not_false, Bool.not_true, Bool.not_not, not_true_eq_false, not_false_eq_true, true_implies, false_implies, implies_true, and_true, true_and, reduceCtorEq, Bool.and_self, Bool.or_self, Bool.and_true, Bool.true_and, Bool.false_eq_true, if_true, if_false, go_sem, Nat.reduceEqDiff, Nat.reduceLT, Nat.reduceAdd, Nat.reduceSub, Nat.reduceLeDiff, List.reduceReplicate, Int.reduceToNat]
      cases o with
      | true => simp only [joinW_eq, guard_tt, guard_tf, guard_ft, guard_ff, Int.reduceEq, Int.reduceLT, Int.reduceLE, decide_false, decide_true, Bool.not_false, Bool.not_true, Bool.not_not, not_true_eq_false, not_false_eq_true, true_implies, false_implies, implies_true, and_true, true_and, reduceCtorEq, Bool.and_self, Bool.or_self, Bool.and_true, Bool.true_and, Bool.false_eq_true, if_true, if_false, go_sem, Nat.reduceEqDiff, Nat.reduceLT, Nat.reduceAdd, Nat.reduceSub, Nat.reduceLeDiff, List.reduceReplicate, Int.reduceToNat]; exact post_val rfl rfl
      | false => simp only [joinW_eq, guard_tt, guard_tf, guard_ft, guard_ff, Int.reduceEq, Int.reduceLT, Int.reduceLE, decide_false, decide_true, Bool.not_false, Bool.not_true, Bool.not_not, not_true_eq_false, not_false_eq_true, true_implies, false_implies, implies_true, and_true, true_and, reduceCtorEq, Bool.and_self, Bool.or_self, Bool.and_true, Bool.true_and, Bool.false_eq_true, if_true, if_false, go_sem, Nat.reduceEqDiff, Nat.reduceLT, Nat.reduceAdd, Nat.reduceSub, Nat.reduceLeDiff, List.reduceReplicate, Int.reduceToNat]; exact post_val rfl rfl
    · cases o with
      | true =>
        rw [hst _ rfl]
        simp only [e0, e1, hin, hp, decide_true, decide_false, joinW_eq, Sk.V, joinW_eq, guard_tt, guard_tf, guard_ft, guard_ff, Int.reduceEq, Int.reduceLT, Int.reduceLE, decide_false, decide_true, Bool.not_false, Bool.not_true, Bool.not_not, not_true_eq_false, not_false_eq_true, true_implies, false_implies, implies_true, and_true, true_and, reduceCtorEq, Bool.and_self, Bool.or_self, Bool.and_true, Bool.true_and, Bool.false_eq_true, if_true, if_false, go_sem, Nat.reduceEqDiff, Nat.reduceLT, Nat.reduceAdd, Nat.reduceSub, Nat.reduceLeDiff, List.reduceReplicate, Int.reduceToNat]
        exact post_val rfl rfl
      | false =>
        rw [hgo _ (by rw [hs, decide_eq_false hp]; rfl), hs]
        have hnb : nodeB (16 * b) = true := (node_iff (by omega)).2 ⟨by omega, by omega, by omega⟩
        have ha : 0 ≤ a ∧ a < 13 ∧ placeI (16 * b) a = 16 * b + 3 + a := by
          by_cases h : 0 ≤ a ∧ a < 13
          · exact ⟨h.1, h.2, place_at hnb (by omega) h.1 h.2⟩
          · exfalso
            apply hp
            unfold placeI
            rw [if_neg (by simp only [Bool.and_eq_true, decide_eq_true_eq]; rintro ⟨⟨_, h1⟩, h2⟩; exact h ⟨h1, h2⟩)]
            decide
        obtain ⟨a0, a1, hpl⟩ := ha
        obtain ⟨P, hP⟩ : ∃ P : Nat, 16 * b + 3 + a = P := ⟨(16 * b + 3 + a).toNat, by omega⟩
        have hPl : P < w.length := by omega
        rw [hpl, hP, Int.toNat_natCast]
        rw [hP] at hpl
        have hpn : ¬ ((P : Nat) : Int) < 0 := by omega
        have hrl : roomy l.length := by unfold roomy; omega
        have e3 : l.length ≠ 0 → IntKind.i64.wrap ((l.length : Int) - 1) = ((l.length - 1 : Nat) : Int) := fun h => by rw [w64 (by omega) (by omega)]; omega
        simp only [e0, e1, hin, hpl, hpn, decide_true, decide_false, joinW_eq, Int.toNat_natCast, slices_Clone_sl_int_int.C, joinW_eq, guard_tt, guard_tf, guard_ft, guard_ff, Int.reduceEq, Int.reduceLT, Int.reduceLE, decide_false, decide_true, Bool.not_false, Bool.not_true, Bool.not_not, not_true_eq_false, not_false_eq_true, true_implies, false_implies, implies_true, and_true, true_and, reduceCtorEq, Bool.and_self, Bool.or_self, Bool.and_true, Bool.true_and, Bool.false_eq_true, if_true, if_false, go_sem, Nat.reduceEqDiff, Nat.reduceLT, Nat.reduceAdd, Nat.reduceSub, Nat.reduceLeDiff, List.reduceReplicate, Int.reduceToNat]
        refine ⟨⟨by omega, by omega⟩, hrl, ?_⟩
        generalize w.getD P 0 = W
        have hra : roomy (l ++ [W]).length := by unfold roomy; simp; omega
        have hgo2 : ∀ (R : List Int), (goOn W ⟨b, t, a, l, false⟩).refs = R → ∀ (o : Bool) (a' : Int), overB W ⟨b, t, a, l, false⟩ = o → (a' = if o = true then a else if downB t = true then IntKind.i64.wrap (a - 1) else IntKind.i64.wrap (a + 1)) → goOn W ⟨b, t, a, l, false⟩ = ⟨b, t, a', R, o⟩ := by
          rintro _ rfl _ _ rfl rfl; rfl
        by_cases hW : 0 < W
        · have hW1 : decide (W < 1) = false := decide_eq_false (by omega)
          have happ : ∀ K : Nat → Prop, True := fun _ => trivial
          by_cases hl0 : l.length = 0
          · have hd0 : decide ((l.length : Int) = 0) = true := decide_eq_true (by omega)
            have hgr : (goOn W ⟨b, t, a, l, false⟩).refs = l ++ [W] := by unfold goOn; simp [hW, hl0]
            simp only [hW, hW1, hd0, decide_true, seek_down.C, seek_look_up.K, seek_look_up.H, seek_look_fall.K, seek_look_fall.H, joinW_eq, joinW_eq, guard_tt, guard_tf, guard_ft, guard_ff, Int.reduceEq, Int.reduceLT, Int.reduceLE, decide_false, decide_true, Bool.not_false, Bool.not_true, Bool.not_not, not_true_eq_false, not_false_eq_true, true_implies, false_implies, implies_true, and_true, true_and, reduceCtorEq, Bool.and_self, Bool.or_self, Bool.and_true, Bool.true_and, Bool.false_eq_true, if_true, if_false, go_sem, Nat.reduceEqDiff, Nat.reduceLT, Nat.reduceAdd, Nat.reduceSub, Nat.reduceLeDiff, List.reduceReplicate, Int.reduceToNat]
            refine ⟨hra, fun hd => ⟨fun h => ?_, fun h => ?_⟩, fun hd => ⟨fun h => ?_, fun h => ?_⟩⟩
            · rw [hgo2 _ hgr false _ (by simp [overB, hd, h]) (by simp [hd]; rfl), decide_eq_false h]
              refine post_val ?_ rfl
              simp only [Sk.V, List.take_length, go_sem, Nat.reduceEqDiff, Nat.reduceLT, Nat.reduceAdd, Nat.reduceSub, Nat.reduceLeDiff, List.reduceReplicate, Int.reduceToNat]
            · rw [hgo2 _ hgr true _ (by simp [overB, hd, h]) (by simp; rfl), decide_eq_true h]
              refine post_val ?_ rfl
              simp only [Sk.V, List.take_length, go_sem, Nat.reduceEqDiff, Nat.reduceLT, Nat.reduceAdd, Nat.reduceSub, Nat.reduceLeDiff, List.reduceReplicate, Int.reduceToNat]
            · rw [hgo2 _ hgr false _ (by simp [overB, hd, h]; omega) (by simp [hd]; rfl), decide_eq_false h]
              refine post_val ?_ rfl
              simp only [Sk.V, List.take_length, go_sem, Nat.reduceEqDiff, Nat.reduceLT, Nat.reduceAdd, Nat.reduceSub, Nat.reduceLeDiff, List.reduceReplicate, Int.reduceToNat]
            · rw [hgo2 _ hgr true _ (by simp [overB, hd, h]) (by simp; rfl), decide_eq_true h]
              refine post_val ?_ rfl
              simp only [Sk.V, List.take_length, go_sem, Nat.reduceEqDiff, Nat.reduceLT, Nat.reduceAdd, Nat.reduceSub, Nat.reduceLeDiff, List.reduceReplicate, Int.reduceToNat]
          · have hd0 : decide ((l.length : Int) = 0) = false := decide_eq_false (by omega)
            by_cases hla : l.getD (l.length - 1) 0 = W
            · have hgr : (goOn W ⟨b, t, a, l, false⟩).refs = l := by
                unfold goOn
                simp only [hla, decide_true, Bool.not_true, Bool.or_false, decide_eq_false hl0, Bool.and_false]
                rw [if_neg (by decide)]
              simp only [hW, hW1, hd0, e3 hl0, hla, Int.toNat_natCast, decide_true, seek_down.C, seek_look_up.K, seek_look_up.H, seek_look_fall.K, seek_look_fall.H, joinW_eq, joinW_eq, guard_tt, guard_tf, guard_ft, guard_ff, Int.reduceEq, Int.reduceLT, Int.reduceLE, decide_false, decide_true, Bool.not_false, Bool.not_true, Bool.not_not, not_true_eq_false, not_false_eq_true, true_implies, false_implies, implies_true, and_true, true_and, reduceCtorEq, Bool.and_self, Bool.or_self, Bool.and_true, Bool.true_and, Bool.false_eq_true, if_true, if_false, go_sem, Nat.reduceEqDiff, Nat.reduceLT, Nat.reduceAdd, Nat.reduceSub, Nat.reduceLeDiff, List.reduceReplicate, Int.reduceToNat]
              refine ⟨⟨by omega, by omega⟩, fun hd => ⟨fun h => ?_, fun h => ?_⟩, fun hd => ⟨fun h => ?_, fun h => ?_⟩⟩
              · rw [hgo2 _ hgr false _ (by simp [overB, hd, h]) (by simp [hd]; rfl), decide_eq_false h]
                refine post_val ?_ rfl
                simp only [Sk.V, List.take_length, go_sem, Nat.reduceEqDiff, Nat.reduceLT, Nat.reduceAdd, Nat.reduceSub, Nat.reduceLeDiff, List.reduceReplicate, Int.reduceToNat]
              · rw [hgo2 _ hgr true _ (by simp [overB, hd, h]) (by simp; rfl), decide_eq_true h]
                refine post_val ?_ rfl
                simp only [Sk.V, List.take_length, go_sem, Nat.reduceEqDiff, Nat.reduceLT, Nat.reduceAdd, Nat.reduceSub, Nat.reduceLeDiff, List.reduceReplicate, Int.reduceToNat]
              · rw [hgo2 _ hgr false _ (by simp [overB, hd, h]; omega) (by simp [hd]; rfl), decide_eq_false h]
                refine post_val ?_ rfl
                simp only [Sk.V, List.take_length, go_sem, Nat.reduceEqDiff, Nat.reduceLT, Nat.reduceAdd, Nat.reduceSub, Nat.reduceLeDiff, List.reduceReplicate, Int.reduceToNat]
              · rw [hgo2 _ hgr true _ (by simp [overB, hd, h]) (by simp; rfl), decide_eq_true h]
                refine post_val ?_ rfl
                simp only [Sk.V, List.take_length, go_sem, Nat.reduceEqDiff, Nat.reduceLT, Nat.reduceAdd, Nat.reduceSub, Nat.reduceLeDiff, List.reduceReplicate, Int.reduceToNat]
            · have hgr : (goOn W ⟨b, t, a, l, false⟩).refs = l ++ [W] := by
                unfold goOn
                simp only [decide_eq_false hla, Bool.not_false, Bool.or_true, Bool.and_true, decide_eq_true hW, if_true]
              simp only [hW, hW1, hd0, e3 hl0, hla, Int.toNat_natCast, decide_true, decide_false, seek_down.C, seek_look_up.K, seek_look_up.H, seek_look_fall.K, seek_look_fall.H, joinW_eq, joinW_eq, guard_tt, guard_tf, guard_ft, guard_ff, Int.reduceEq, Int.reduceLT, Int.reduceLE, decide_false, decide_true, Bool.not_false, Bool.not_true, Bool.not_not, not_true_eq_false, not_false_eq_true, true_implies, false_implies, implies_true, and_true, true_and, reduceCtorEq, Bool.and_self, Bool.or_self, Bool.and_true, Bool.true_and, Bool.false_eq_true, if_true, if_false, go_sem, Nat.reduceEqDiff, Nat.reduceLT, Nat.reduceAdd, Nat.reduceSub, Nat.reduceLeDiff, List.reduceReplicate, Int.reduceToNat]
              refine ⟨⟨by omega, by omega⟩, hra, fun hd => ⟨fun h => ?_, fun h => ?_⟩, fun hd => ⟨fun h => ?_, fun h => ?_⟩⟩
              · rw [hgo2 _ hgr false _ (by simp [overB, hd, h]) (by simp [hd]; rfl), decide_eq_false h]
                refine post_val ?_ rfl
                simp only [Sk.V, List.take_length, go_sem, Nat.reduceEqDiff, Nat.reduceLT, Nat.reduceAdd, Nat.reduceSub, Nat.reduceLeDiff, List.reduceReplicate, Int.reduceToNat]
              · rw [hgo2 _ hgr true _ (by simp [overB, hd, h]) (by simp; rfl), decide_eq_true h]
                refine post_val ?_ rfl
                simp only [Sk.V, List.take_length, go_sem, Nat.reduceEqDiff, Nat.reduceLT, Nat.reduceAdd, Nat.reduceSub, Nat.reduceLeDiff, List.reduceReplicate, Int.reduceToNat]
              · rw [hgo2 _ hgr false _ (by simp [overB, hd, h]; omega) (by simp [hd]; rfl), decide_eq_false h]
                refine post_val ?_ rfl
                simp only [Sk.V, List.take_length, go_sem, Nat.reduceEqDiff, Nat.reduceLT, Nat.reduceAdd, Nat.reduceSub, Nat.reduceLeDiff, List.reduceReplicate, Int.reduceToNat]
              · rw [hgo2 _ hgr true _ (by simp [overB, hd, h]) (by simp; rfl), decide_eq_true h]
                refine post_val ?_ rfl
                simp only [Sk.V, List.take_length, go_sem, Nat.reduceEqDiff, Nat.reduceLT, Nat.reduceAdd, Nat.reduceSub, Nat.reduceLeDiff, List.reduceReplicate, Int.reduceToNat]
        · have hW1 : decide (W < 1) = true := decide_eq_true (by omega)
          have hgr : (goOn W ⟨b, t, a, l, false⟩).refs = l := by
            unfold goOn
            simp only [decide_eq_false hW, Bool.false_and]
            rw [if_neg (by decide)]
          simp only [hW, hW1, decide_true, decide_false, seek_down.C, seek_look_up.K, seek_look_up.H, seek_look_fall.K, seek_look_fall.H, joinW_eq, joinW_eq, guard_tt, guard_tf, guard_ft, guard_ff, Int.reduceEq, Int.reduceLT, Int.reduceLE, decide_false, decide_true, Bool.not_false, Bool.not_true, Bool.not_not, not_true_eq_false, not_false_eq_true, true_implies, false_implies, implies_true, and_true, true_and, reduceCtorEq, Bool.and_self, Bool.or_self, Bool.and_true, Bool.true_and, Bool.false_eq_true, if_true, if_false, go_sem, Nat.reduceEqDiff, Nat.reduceLT, Nat.reduceAdd, Nat.reduceSub, Nat.reduceLeDiff, List.reduceReplicate, Int.reduceToNat]
          refine ⟨fun hd => ⟨fun h => ?_, fun h => ?_⟩, fun hd => ?_⟩
          · rw [hgo2 _ hgr false _ (by simp [overB, hd, h]) (by simp [hd]; rfl), decide_eq_false h]
            refine post_val ?_ rfl
            simp only [Sk.V, List.take_length, go_sem, Nat.reduceEqDiff, Nat.reduceLT, Nat.reduceAdd, Nat.reduceSub, Nat.reduceLeDiff, List.reduceReplicate, Int.reduceToNat]
          · rw [hgo2 _ hgr true _ (by simp [overB, hd, h]) (by simp; rfl), decide_eq_true h]
            refine post_val ?_ rfl
            simp only [Sk.V, List.take_length, go_sem, Nat.reduceEqDiff, Nat.reduceLT, Nat.reduceAdd, Nat.reduceSub, Nat.reduceLeDiff, List.reduceReplicate, Int.reduceToNat]
          · rw [hgo2 _ hgr true _ (by simp [overB, hd]; omega) (by simp; rfl)]
            refine post_val ?_ rfl
            simp only [Sk.V, List.take_length, go_sem, Nat.reduceEqDiff, Nat.reduceLT, Nat.reduceAdd, Nat.reduceSub, Nat.reduceLeDiff, List.reduceReplicate, Int.reduceToNat]
end Lam
namespace Lam
open Go
set_option linter.unusedVariables false
set_option linter.unusedSimpArgs false
/-- what is seen, and one more -/
def seeR (refs : List Int) (W : Int) : List Int := if 0 < W ∧ refs.getLast? ≠ some W then refs ++ [W] else refs
theorem last_getD (l : List Int) (W : Int) : (decide (l.length = 0) || !decide (l.getD (l.length - 1) 0 = W)) = decide (l.getLast? ≠ some W) := by
  cases l with
  | nil => simp
  | cons a r =>
    rw [List.getLast?_eq_getElem?, List.getD_eq_getElem?_getD]
    have h : (a :: r).length - 1 < (a :: r).length := by simp
    rw [List.getElem?_eq_getElem h]
    simp
theorem goOn_refs (W : Int) (s : Sk) : (goOn W s).refs = seeR s.refs W := by
  unfold goOn seeR
  simp only [last_getD]
  by_cases h : 0 < W ∧ s.refs.getLast? ≠ some W
  · rw [if_pos h, if_pos (by simp only [Bool.and_eq_true, decide_eq_true_eq]; exact h)]
  · rw [if_neg h, if_neg (by simp only [Bool.and_eq_true, decide_eq_true_eq]; exact h)]
/-- there is a block to look at -/
def InW (w : List Int) (b : Int) : Prop := 0 ≤ b ∧ b < 256 ∧ b < ((w.length / 16 : Nat) : Int)
def slotW (w : List Int) (b : Int) (k : Nat) : Int := w.getD ((16 * b).toNat + 3 + k) 0
theorem stepS_go {w : List Int} {b t : Int} {k : Nat} {refs : List Int} (h : InW w b) (hk : k < 13) : stepS w ⟨b, t, k, refs, false⟩ = goOn (slotW w b k) ⟨b, t, k, refs, false⟩ := by
  obtain ⟨h0, h1, h2⟩ := h
  have hs : spotI w ⟨b, t, k, refs, false⟩ = 16 * b + 3 + k := by
    unfold spotI
    rw [if_pos (by simp only [Bool.and_eq_true, decide_eq_true_eq]; exact ⟨⟨h0, h1⟩, h2⟩)]
    show placeI (16 * b) k = _
    exact place_at ((node_iff (by omega)).2 ⟨by omega, by omega, by omega⟩) (by omega) (by show (0 : Int) ≤ k; omega) (by show (k : Int) < 13; omega)
  unfold stepS slotW
  rw [hs, decide_eq_false (by omega), if_neg (show ¬ (false || false) = true by decide)]
  rw [show (16 * b + 3 + (k : Int)).toNat = (16 * b).toNat + 3 + k by omega]
theorem stepS_over {w : List Int} {s : Sk} (h : s.over = true) : stepS w s = s := by unfold stepS; rw [h]; rfl
theorem stepS_up {w : List Int} {b t : Int} {k : Nat} {refs : List Int} (h : InW w b) (hk : k < 13) (hd : downB t = false) :
    stepS w ⟨b, t, k, refs, false⟩ = if slotW w b k < 1 ∨ k = 12 then ⟨b, t, k, seeR refs (slotW w b k), true⟩ else ⟨b, t, (k + 1 : Nat), seeR refs (slotW w b k), false⟩ := by
  rw [stepS_go h hk]
  have hr := goOn_refs (slotW w b k) ⟨b, t, k, refs, false⟩
  have ho : overB (slotW w b k) ⟨b, t, k, refs, false⟩ = decide (slotW w b k < 1 ∨ k = 12) := by
    unfold overB
    simp only [hd]
    rw [if_neg (by decide)]
    rw [show decide ((k : Int) = 12) = decide (k = 12) from decide_eq_decide.2 (by omega)]
    by_cases h1 : slotW w b k < 1 <;> by_cases h2 : k = 12 <;> simp [h1, h2]
  unfold goOn at hr ⊢
  simp only at hr
  rw [ho]
  simp only [hr]
  by_cases hc : slotW w b k < 1 ∨ k = 12
  · rw [if_pos hc, decide_eq_true hc]; simp
  · rw [if_neg hc, decide_eq_false hc]
    simp only [hd]
    rw [if_neg (by decide), if_neg (by decide), wnext (by omega)]
theorem stepS_down {w : List Int} {b t : Int} {k : Nat} {refs : List Int} (h : InW w b) (hk : k < 13) (hd : downB t = true) :
    stepS w ⟨b, t, k, refs, false⟩ = if k = 0 then ⟨b, t, k, seeR refs (slotW w b k), true⟩ else ⟨b, t, (k - 1 : Nat), seeR refs (slotW w b k), false⟩ := by
  rw [stepS_go h hk]
  have hr := goOn_refs (slotW w b k) ⟨b, t, k, refs, false⟩
  have ho : overB (slotW w b k) ⟨b, t, k, refs, false⟩ = decide (k = 0) := by
    unfold overB
    simp only [hd, if_true]
    exact decide_eq_decide.2 (by omega)
  unfold goOn at hr ⊢
  simp only at hr
  rw [ho]
  simp only [hr]
  by_cases hc : k = 0
  · rw [if_pos hc, decide_eq_true hc]; simp
  · rw [if_neg hc, decide_eq_false hc]
    simp only [hd, if_true]
    rw [if_neg (by decide)]
    rw [show IntKind.i64.wrap ((k : Int) - 1) = ((k - 1 : Nat) : Int) by rw [w64 (by omega) (by omega)]; omega]
end Lam
namespace Lam
open Go Go.Proofs
set_option linter.unusedVariables false
end Lam
namespace Lam
set_option maxRecDepth 20000
open Go Go.Proofs
set_option linter.unusedVariables false
set_option linter.unnecessarySimpa false
set_option linter.unusedSimpArgs false
theorem stepS_len1 (w : List Int) (s : Sk) : (stepS w s).refs.length ≤ s.refs.length + 1 := by
  unfold stepS
  split
  · omega
  · unfold goOn
    simp only
    split
    · simp
    · omega
theorem begin_refs {w : List Int} {b : Int} {s : Sk} (h : beginO w b = some s) : s.refs = [] := by
  unfold beginO at h
  split at h
  · split at h
    · cases h
    · cases h; rfl
  · cases h
end Lam
namespace Lam
open Go Go.Proofs
set_option linter.unusedVariables false
def lamplighterref02_Numbers.loops : Nat → LInfo
  | 4 => ⟨[5], [false], [0, 1], [], [], []⟩
  | _ => ⟨[], [], [], [], [], []⟩
def lamplighterref02_Numbers.L1 (c : Ctx) (J1 : List AObj → Prop) (K : AOut → List AObj → Prop) (lv : List AV) (h0 : List AObj) (n0 : Nat) (c0 : AV) (c1 : AV) : Prop :=
  ∃ I : Nat → List AV → List AObj → Prop, (∃ n, I n lv h0) ∧ ∀ n h, ∀ t5, I n [t5] h →
    runD (lenD T_sl_int h c0) h fun t13 h =>
    runD (binD T_int .lss t5 t13) h fun t14 h =>
    condW t14
    (runD (indexAddrD T_sl_int h c0 t5) h fun t19 h =>
    runD (fitD T_int (loadD h t19)) h fun t20 h =>
    runD (indexAddrD T_sl_int h c1 t5) h fun t23 h =>
    runD (fitD T_int (loadD h t23)) h fun t24 h =>
    runD (binD T_int .neq t20 t24) h fun t25 h =>
    condW t25
    (K (.ret (.bool false)) h)
    (runD (binD T_int .add t5 (.int .i64 1)) h fun t16 h =>
    (∃ m, m < n ∧ I m (AV.norms n0 h [t16]) (normH n0 h)) ∧ AV.norms n0 h [c0, c1] = [c0, c1]))
    (J1 h)
def lamplighterref02_Numbers.H (c : Ctx) (t0 : AV) (t1 : AV) (h : List AObj) (K : AOut → List AObj → Prop) : Prop :=
  runD (lenD T_sl_int h t0) h fun t7 h =>
  runD (lenD T_sl_int h t1) h fun t9 h =>
  runD (binD T_int .neq t7 t9) h fun t10 h =>
  condW t10
  (K (.ret (.bool false)) h)
  (joinW (fun (J1 : List AObj → Prop) =>
  promV [false] [(.int .i64 0)] h fun lv h => lamplighterref02_Numbers.L1 c J1 K (AV.norms h.length h lv) (normH h.length h) h.length (AV.norm h.length h t0) (AV.norm h.length h t1))
  (fun h => K (.ret (.bool true)) h))
def lamplighterref02_Text.loops : Nat → LInfo
  | 1 => ⟨[], [], [], [(3, none), (5, some [15, 20])], [], []⟩
  | 5 => ⟨[6, 7], [true, false], [0, 1], [], [], []⟩
  | 12 => ⟨[8, 9, 10], [false, false, false], [0, 1, 6, 7], [], [], []⟩
  | _ => ⟨[], [], [], [], [], []⟩
def lamplighterref02_Text.L2 (c : Ctx) (J4 : AV → AV → AV → AV → AV → List AObj → Prop) (K : AOut → List AObj → Prop) (lv : List AV) (h0 : List AObj) (n0 : Nat) (c0 : AV) (c1 : AV) (c6 : AV) (c7 : AV) : Prop :=
  ∃ I : Nat → List AV → List AObj → Prop, (∃ n, I n lv h0) ∧ ∀ n h, ∀ t8, ∀ t9, ∀ t10, I n [t8, t9, t10] h →
    runD (binD T_int .lss t10 (.int .i64 7)) h fun t38 h =>
    condW t38
    (runD (binD T_int .rem t9 (.int .i64 256)) h fun t42 h =>
    runD (convD h T_int T_uint8 t42) h fun t43 h =>
    runD (buildSliceD T_sl_uint8 1 [(0, t43)] h.length) h fun t44 h =>
    runDM (appendD T_sl_uint8 h t44 t8 h.length) (appendH T_sl_uint8 h t44 t8) h fun t46 h =>
    runD (binD T_int .quo t9 (.int .i64 256)) h fun t48 h =>
    runD (binD T_int .add t10 (.int .i64 1)) h fun t40 h =>
    (∃ m, m < n ∧ I m (AV.norms n0 h [t46, t48, t40]) (normH n0 h)) ∧ AV.norms n0 h [c0, c1, c6, c7] = [c0, c1, c6, c7])
    (J4 c0 c1 c6 c7 t8 h)
def lamplighterref02_Text.L1 (c : Ctx) (J2 : AV → AV → AV → List AObj → Prop) (K : AOut → List AObj → Prop) (lv : List AV) (h0 : List AObj) (n0 : Nat) (c0 : AV) (c1 : AV) : Prop :=
  ∃ I : Nat → List AV → List AObj → Prop, (∃ n, I n lv h0) ∧ ∀ n h, ∀ t6, ∀ t7, I n [t6, t7] h →
    runD (lenD T_sl_int h c0) h fun t24 h =>
    runD (binD T_int .lss t7 t24) h fun t25 h =>
    condW t25
    (joinW (fun (J3 : AV → AV → AV → AV → List AObj → Prop) =>
    runD (indexAddrD T_sl_int h c0 t7) h fun t30 h =>
    runD (fitD T_int (loadD h t30)) h fun t31 h =>
    runD (binD T_int .lss t31 (.int .i64 0)) h fun t32 h =>
    condW t32
    (K (.ret (.tup [(.str []), (.int .i64 20)])) h)
    (runD (indexAddrD T_sl_int h c0 t7) h fun t35 h =>
    runD (fitD T_int (loadD h t35)) h fun t36 h =>
    joinW (fun (J4 : AV → AV → AV → AV → AV → List AObj → Prop) =>
    promV [false, false, false] [(.sl true (.ints .u8 [])), t36, (.int .i64 0)] h fun lv h => lamplighterref02_Text.L2 c J4 K (AV.norms h.length h lv) (normH h.length h) h.length (AV.norm h.length h c0) (AV.norm h.length h c1) (AV.norm h.length h t6) (AV.norm h.length h t7))
    (fun t0 t1 t6 t7 t8 h => runDM (appendD T_sl_uint8 h t6 t8 h.length) (appendH T_sl_uint8 h t6 t8) h fun t51 h =>
    J3 t0 t1 t51 t7 h)))
    (fun t0 t1 t6 t7 h => runD (binD T_int .add t7 (.int .i64 1)) h fun t27 h =>
    (∃ m, m < n ∧ I m (AV.norms n0 h [t6, t27]) (normH n0 h)) ∧ AV.norms n0 h [t0, t1] = [c0, c1]))
    (J2 c0 c1 t6 h)
def lamplighterref02_Text.H (c : Ctx) (t0 : AV) (t1 : AV) (h : List AObj) (K : AOut → List AObj → Prop) : Prop :=
  runD (binD T_int .lss t1 (.int .i64 0)) h fun t14 h =>
  joinW (fun (J1 : AV → AV → List AObj → Prop) =>
  guardW t14 false
  (runD (lenD T_sl_int h t0) h fun t18 h =>
    runD (binD T_int .mul (.int .i64 7) t18) h fun t19 h =>
    runD (binD T_int .gtr t1 t19) h fun t20 h =>
    J1 (.bool false) t20 h)
  (J1 (.bool true) .und h))
  (fun t15 t20 h => runD (pickD t15 (.bool true) t20) h fun t21 h =>
  condW t21
  (K (.ret (.tup [(.str []), (.int .i64 20)])) h)
  (joinW (fun (J2 : AV → AV → AV → List AObj → Prop) =>
  promV [true, false] [(.sl true (.ints .u8 [])), (.int .i64 0)] h fun lv h => lamplighterref02_Text.L1 c J2 K (AV.norms h.length h lv) (normH h.length h) h.length (AV.norm h.length h t0) (AV.norm h.length h t1))
  (fun t0 t1 t6 h => runD (sliceD T_sl_uint8 h t6 none (some t1) none) h fun t54 h =>
  runD (convD h T_sl_uint8 T_string t54) h fun t55 h =>
  callW false c (.fn (.func 124) [] []) [t55] h (fun t57 h =>
  callW false c (.fn (.func 20) [] []) [t57, t0] h (fun t60 h =>
  runD (unD .not t60) h fun t61 h =>
  condW t61
  (K (.ret (.tup [(.str []), (.int .i64 20)])) h)
  (K (.ret (.tup [t55, (.int .i64 0)])) h))
  (fun v h => K (.pan v) h))
  (fun v h => K (.pan v) h))))
def lamplighterref02_Words.loops : Nat → LInfo
  | 3 => ⟨[3, 4], [true, false], [0], [], [], []⟩
  | 7 => ⟨[5, 6], [false, false], [0, 3, 4], [], [], []⟩
  | _ => ⟨[], [], [], [], [], []⟩
def lamplighterref02_Words.L2 (c : Ctx) (J3 : AV → AV → AV → AV → List AObj → Prop) (K : AOut → List AObj → Prop) (lv : List AV) (h0 : List AObj) (n0 : Nat) (c0 : AV) (c3 : AV) (c4 : AV) : Prop :=
  ∃ I : Nat → List AV → List AObj → Prop, (∃ n, I n lv h0) ∧ ∀ n h, ∀ t5, ∀ t6, I n [t5, t6] h →
    runD (binD T_int .add c4 (.int .i64 7)) h fun t16 h =>
    runD (binD T_int .lss t6 t16) h fun t17 h =>
    condW t17
    (runD (binD T_int .mul t5 (.int .i64 256)) h fun t21 h =>
    runD (lenD T_string h c0) h fun t24 h =>
    runD (binD T_int .lss t6 t24) h fun t25 h =>
    joinW (fun (J4 : AV → List AObj → Prop) =>
    condW t25
    (runD (indexD T_string c0 t6) h fun t29 h =>
      runD (convD h T_uint8 T_int t29) h fun t30 h =>
      runD (binD T_int .add t21 t30) h fun t31 h =>
      J4 t31 h)
    (J4 t21 h))
    (fun t5 h => runD (binD T_int .add t6 (.int .i64 1)) h fun t19 h =>
    (∃ m, m < n ∧ I m (AV.norms n0 h [t5, t19]) (normH n0 h)) ∧ AV.norms n0 h [c0, c3, c4] = [c0, c3, c4]))
    (J3 c0 c3 c4 t5 h)
def lamplighterref02_Words.L1 (c : Ctx) (J1 : AV → List AObj → Prop) (K : AOut → List AObj → Prop) (lv : List AV) (h0 : List AObj) (n0 : Nat) (c0 : AV) : Prop :=
  ∃ I : Nat → List AV → List AObj → Prop, (∃ n, I n lv h0) ∧ ∀ n h, ∀ t3, ∀ t4, I n [t3, t4] h →
    runD (lenD T_string h c0) h fun t9 h =>
    runD (binD T_int .lss t4 t9) h fun t10 h =>
    condW t10
    (joinW (fun (J2 : AV → AV → AV → List AObj → Prop) =>
    joinW (fun (J3 : AV → AV → AV → AV → List AObj → Prop) =>
    promV [false, false] [(.int .i64 0), t4] h fun lv h => lamplighterref02_Words.L2 c J3 K (AV.norms h.length h lv) (normH h.length h) h.length (AV.norm h.length h c0) (AV.norm h.length h t3) (AV.norm h.length h t4))
    (fun t0 t3 t4 t5 h => runD (buildSliceD T_sl_int 1 [(0, t5)] h.length) h fun t34 h =>
    runDM (appendD T_sl_int h t3 t34 h.length) (appendH T_sl_int h t3 t34) h fun t35 h =>
    J2 t0 t35 t4 h))
    (fun t0 t3 t4 h => runD (binD T_int .add t4 (.int .i64 7)) h fun t12 h =>
    (∃ m, m < n ∧ I m (AV.norms n0 h [t3, t12]) (normH n0 h)) ∧ AV.norms n0 h [t0] = [c0]))
    (J1 t3 h)
def lamplighterref02_Words.H (c : Ctx) (t0 : AV) (h : List AObj) (K : AOut → List AObj → Prop) : Prop :=
  joinW (fun (J1 : AV → List AObj → Prop) =>
  promV [true, false] [(.sl true (.ints .i64 [])), (.int .i64 0)] h fun lv h => lamplighterref02_Words.L1 c J1 K (AV.norms h.length h lv) (normH h.length h) h.length (AV.norm h.length h t0))
  (fun t3 h => K (.ret t3) h)
def lamplighterref02_Check.loops : Nat → LInfo
  | 1 => ⟨[], [], [], [(4, none), (3, some [6, 9])], [], []⟩
  | _ => ⟨[], [], [], [], [], []⟩
def lamplighterref02_Check.H (c : Ctx) (t0 : AV) (h : List AObj) (K : AOut → List AObj → Prop) : Prop :=
  runD (lenD T_string h t0) h fun t4 h =>
  runD (binD T_int .geq t4 (.int .i64 1)) h fun t5 h =>
  joinW (fun (J1 : AV → AV → List AObj → Prop) =>
  guardW t5 true
  (runD (lenD T_string h t0) h fun t8 h =>
    runD (binD T_int .leq t8 (.int .i64 21)) h fun t9 h =>
    J1 (.bool true) t9 h)
  (J1 (.bool false) .und h))
  (fun t6 t9 h => runD (pickD t6 t9 (.bool false)) h fun t10 h =>
  K (.ret t10) h)
def lamplighterref02_CheckVal.loops : Nat → LInfo
  | _ => ⟨[], [], [], [], [], []⟩
def lamplighterref02_CheckVal.H (c : Ctx) (t0 : AV) (h : List AObj) (K : AOut → List AObj → Prop) : Prop :=
  runD (lenD T_string h t0) h fun t4 h =>
  runD (binD T_int .leq t4 (.int .i64 21)) h fun t5 h =>
  K (.ret t5) h
theorem lamplighterref02_Numbers.eq (F : List (FuncId × Contract)) (S : List (FuncId × Con)) (t0 t1 : AV) (h : List AObj) (K : AOut → List AObj → Prop) : funW (ctx F S lamplighterref02_Numbers.loops) Try.f20 [t0, t1] h K = lamplighterref02_Numbers.H (ctx F S lamplighterref02_Numbers.loops) t0 t1 h K := by kernel_rfl
theorem lamplighterref02_Text.eq (F : List (FuncId × Contract)) (S : List (FuncId × Con)) (t0 t1 : AV) (h : List AObj) (K : AOut → List AObj → Prop) : funW (ctx F S lamplighterref02_Text.loops) Try.f96 [t0, t1] h K = lamplighterref02_Text.H (ctx F S lamplighterref02_Text.loops) t0 t1 h K := by kernel_rfl
theorem lamplighterref02_Words.eq (F : List (FuncId × Contract)) (S : List (FuncId × Con)) (t0 : AV) (h : List AObj) (K : AOut → List AObj → Prop) : funW (ctx F S lamplighterref02_Words.loops) Try.f124 [t0] h K = lamplighterref02_Words.H (ctx F S lamplighterref02_Words.loops) t0 h K := by kernel_rfl
theorem lamplighterref02_Check.eq (F : List (FuncId × Contract)) (S : List (FuncId × Con)) (t0 : AV) (h : List AObj) (K : AOut → List AObj → Prop) : funW (ctx F S lamplighterref02_Check.loops) Try.f142 [t0] h K = lamplighterref02_Check.H (ctx F S lamplighterref02_Check.loops) t0 h K := by kernel_rfl
theorem lamplighterref02_CheckVal.eq (F : List (FuncId × Contract)) (S : List (FuncId × Con)) (t0 : AV) (h : List AObj) (K : AOut → List AObj → Prop) : funW (ctx F S lamplighterref02_CheckVal.loops) Try.f143 [t0] h K = lamplighterref02_CheckVal.H (ctx F S lamplighterref02_CheckVal.loops) t0 h K := by kernel_rfl
theorem lamplighterref02_Numbers.at : Try.prog.funcs[20]? = some Try.f20 := by kernel_rfl
theorem lamplighterref02_Numbers.nm : (Try.f20.name == "runtime.NumGoroutine") = false := by kernel_rfl
theorem lamplighterref02_Numbers.bd : Try.f20.body.isNone = false := by kernel_rfl
theorem lamplighterref02_Text.at : Try.prog.funcs[96]? = some Try.f96 := by kernel_rfl
theorem lamplighterref02_Text.nm : (Try.f96.name == "runtime.NumGoroutine") = false := by kernel_rfl
theorem lamplighterref02_Text.bd : Try.f96.body.isNone = false := by kernel_rfl
theorem lamplighterref02_Words.at : Try.prog.funcs[124]? = some Try.f124 := by kernel_rfl
theorem lamplighterref02_Words.nm : (Try.f124.name == "runtime.NumGoroutine") = false := by kernel_rfl
theorem lamplighterref02_Words.bd : Try.f124.body.isNone = false := by kernel_rfl
theorem lamplighterref02_Check.at : Try.prog.funcs[142]? = some Try.f142 := by kernel_rfl
theorem lamplighterref02_Check.nm : (Try.f142.name == "runtime.NumGoroutine") = false := by kernel_rfl
theorem lamplighterref02_Check.bd : Try.f142.body.isNone = false := by kernel_rfl
theorem lamplighterref02_CheckVal.at : Try.prog.funcs[143]? = some Try.f143 := by kernel_rfl
theorem lamplighterref02_CheckVal.nm : (Try.f143.name == "runtime.NumGoroutine") = false := by kernel_rfl
theorem lamplighterref02_CheckVal.bd : Try.f143.body.isNone = false := by kernel_rfl
end Lam
namespace Lam
open Go Go.Proofs
set_option linter.unusedVariables false
set_option linter.unnecessarySimpa false
set_option linter.unusedSimpArgs false
def lamplighterref02_Numbers.C : Contract
  | [.sl _ (.ints .i64 a), .sl _ (.ints .i64 b)] => some (false, pD (roomy a.length) (.bool (decide (a = b))))
  | _ => none
set_option maxRecDepth 20000 in
theorem lamplighterref02_Numbers.spec : FSpec Try.prog 20 lamplighterref02_Numbers.C := by
  refine FSpec.of (ctx_ok (F := []) (S := []) (by simp) (by simp) lamplighterref02_Numbers.loops) lamplighterref02_Numbers.at lamplighterref02_Numbers.nm lamplighterref02_Numbers.bd ?_
  intro vs b S v news e hS
  unfold lamplighterref02_Numbers.C at e
  split at e
  rotate_left
  · cases e
  cases e
  rw [lamplighterref02_Numbers.eq]
  unfold lamplighterref02_Numbers.H
  simp (maxSteps := 4000000) only [go_sem, Nat.reduceEqDiff, Nat.reduceLT, Nat.reduceAdd, Nat.reduceSub, Nat.reduceLeDiff, List.reduceReplicate, Int.reduceToNat]
  rename_i a _ b
  unfold roomy at hS
  refine ⟨fun hne => ?_, fun heq => ?_⟩
  · have : decide (a = b) = false := by rw [decide_eq_false_iff_not]; rintro rfl; exact hne rfl
    rw [this]; exact post_val rfl rfl
  rw [joinW_eq]
  unfold lamplighterref02_Numbers.L1
  have hlen : a.length = b.length := by omega
  refine loop1 (fun k : Nat => .int .i64 k) (fun _ => []) (fun k => a.length - k) (fun k => k ≤ a.length ∧ ∀ i, i < k → a.getD i 0 = b.getD i 0) 0 rfl rfl ⟨Nat.zero_le _, fun i hi => absurd hi (Nat.not_lt_zero i)⟩ ?_
  rintro I back k ⟨hk, hall⟩
  simp only [go_sem, Nat.reduceEqDiff, Nat.reduceLT, Nat.reduceAdd, Nat.reduceSub, Nat.reduceLeDiff, List.reduceReplicate, Int.reduceToNat]
  refine ⟨fun hlt => ⟨by omega, by omega, fun h0 => ?_, fun h0 => ?_⟩, fun hge => ?_⟩
  · have : decide (a = b) = false := by rw [decide_eq_false_iff_not]; rintro rfl; exact h0 rfl
    rw [this]; exact post_val rfl rfl
  · refine back (k + 1) (by omega) (by rw [wnext (by omega)]) rfl ⟨by omega, fun i hi => ?_⟩
    by_cases e : i = k
    · subst e; exact h0
    · exact hall i (by omega)
  · rw [decide_eq_true (ext_d 0 hlen fun i hi => hall i (by omega))]; exact post_val rfl rfl
end Lam
namespace Lam
open Go Go.Proofs
set_option linter.unusedVariables false
def lamplighterref13_Begin.loops : Nat → LInfo
  | 2 => ⟨[], [], [], [(3, none), (2, some [17, 19])], [], []⟩
  | _ => ⟨[], [], [], [], [], []⟩
def lamplighterref13_Begin.H (c : Ctx) (t0 : AV) (t1 : AV) (h : List AObj) (K : AOut → List AObj → Prop) : Prop :=
  allocW T_api_Seek h fun t4 h =>
  callW false c (.fn (.func 62) [] []) [t0, t1] h (fun t12 h =>
  runD (extractD t12 0) h fun t13 h =>
  runD (extractD t12 1) h fun t14 h =>
  allocW T_api_Node h fun t6 h =>
  runH (storeH T_api_Node h t6 t13) h fun _ h =>
  runD (binD T_api_Errno .neq t14 (.int .i64 0)) h fun t16 h =>
  joinW (fun (J1 : AV → AV → List AObj → Prop) =>
  guardW t16 false
  (runD (binD T_int .gtr t1 (.int .i64 255)) h fun t19 h =>
    J1 (.bool false) t19 h)
  (J1 (.bool true) .und h))
  (fun t17 t19 h => runD (pickD t17 (.bool true) t19) h fun t20 h =>
  condW t20
  (runD (buildD T_api_Seek []) h fun t21 h =>
    runH (storeH T_api_Seek h t4 t21) h fun _ h =>
    loadRes (fitD T_api_Seek (loadD h t4)) fun r0 => K (.ret (.tup [r0, (.int .i64 90)])) h)
  (runD (fieldAddrD T_api_Node t6 1) h fun t23 h =>
  runD (fitD T_int (loadD h t23)) h fun t24 h =>
  runD (buildD T_api_Seek [(0, t1), (1, t24)]) h fun t25 h =>
  allocW T_api_Seek h fun t8 h =>
  runH (storeH T_api_Seek h t8 t25) h fun _ h =>
  runD (fieldAddrD T_api_Node t6 1) h fun t26 h =>
  runD (fitD T_int (loadD h t26)) h fun t27 h =>
  runD (binD T_int .rem t27 (.int .i64 2)) h fun t28 h =>
  runD (binD T_int .eql t28 (.int .i64 1)) h fun t29 h =>
  joinW (fun (J2 : List AObj → Prop) =>
  condW t29
  (runD (fieldAddrD T_api_Seek t8 2) h fun t30 h =>
    runH (storeH T_int h t30 (.int .i64 12)) h fun _ h =>
    J2 h)
  (J2 h))
  (fun h => runD (fitD T_api_Seek (loadD h t8)) h fun t31 h =>
  runH (storeH T_api_Seek h t4 t31) h fun _ h =>
  loadRes (fitD T_api_Seek (loadD h t4)) fun r0 => K (.ret (.tup [r0, (.int .i64 0)])) h))))
  (fun v h => K (.pan v) h)
def lamplighterref13_Same.loops : Nat → LInfo
  | 1 => ⟨[], [], [], [(6, none), (5, some [10, 15]), (2, none), (5, some [17, 22]), (2, none), (5, some [24, 29]), (2, none), (5, some [31, 36])], [], []⟩
  | _ => ⟨[], [], [], [], [], []⟩
def lamplighterref13_Same.H (c : Ctx) (t0 : AV) (t1 : AV) (h : List AObj) (K : AOut → List AObj → Prop) : Prop :=
  boxW T_api_Seek t0 h fun t2 h =>
  boxW T_api_Seek t1 h fun t3 h =>
  runD (fieldAddrD T_api_Seek t2 0) h fun t5 h =>
  runD (fitD T_int (loadD h t5)) h fun t6 h =>
  runD (fieldAddrD T_api_Seek t3 0) h fun t7 h =>
  runD (fitD T_int (loadD h t7)) h fun t8 h =>
  runD (binD T_int .eql t6 t8) h fun t9 h =>
  joinW (fun (J1 : AV → AV → List AObj → Prop) =>
  guardW t9 true
  (runD (fieldAddrD T_api_Seek t2 1) h fun t11 h =>
    runD (fitD T_int (loadD h t11)) h fun t12 h =>
    runD (fieldAddrD T_api_Seek t3 1) h fun t13 h =>
    runD (fitD T_int (loadD h t13)) h fun t14 h =>
    runD (binD T_int .eql t12 t14) h fun t15 h =>
    J1 (.bool true) t15 h)
  (J1 (.bool false) .und h))
  (fun t10 t15 h => runD (pickD t10 t15 (.bool false)) h fun t16 h =>
  joinW (fun (J2 : AV → AV → List AObj → Prop) =>
  guardW t16 true
  (runD (fieldAddrD T_api_Seek t2 2) h fun t18 h =>
    runD (fitD T_int (loadD h t18)) h fun t19 h =>
    runD (fieldAddrD T_api_Seek t3 2) h fun t20 h =>
    runD (fitD T_int (loadD h t20)) h fun t21 h =>
    runD (binD T_int .eql t19 t21) h fun t22 h =>
    J2 (.bool true) t22 h)
  (J2 (.bool false) .und h))
  (fun t17 t22 h => runD (pickD t17 t22 (.bool false)) h fun t23 h =>
  joinW (fun (J3 : AV → AV → List AObj → Prop) =>
  guardW t23 true
  (runD (fieldAddrD T_api_Seek t2 4) h fun t25 h =>
    runD (fitD T_bool (loadD h t25)) h fun t26 h =>
    runD (fieldAddrD T_api_Seek t3 4) h fun t27 h =>
    runD (fitD T_bool (loadD h t27)) h fun t28 h =>
    runD (binD T_bool .eql t26 t28) h fun t29 h =>
    J3 (.bool true) t29 h)
  (J3 (.bool false) .und h))
  (fun t24 t29 h => runD (pickD t24 t29 (.bool false)) h fun t30 h =>
  joinW (fun (J4 : AV → AV → List AObj → Prop) =>
  guardW t30 true
  (runD (fieldAddrD T_api_Seek t2 3) h fun t32 h =>
    runD (fitD T_sl_int (loadD h t32)) h fun t33 h =>
    runD (fieldAddrD T_api_Seek t3 3) h fun t34 h =>
    runD (fitD T_sl_int (loadD h t34)) h fun t35 h =>
    callW false c (.fn (.func 20) [] []) [t33, t35] h (fun t36 h =>
    J4 (.bool true) t36 h)
    (fun v h => K (.pan v) h))
  (J4 (.bool false) .und h))
  (fun t31 t36 h => runD (pickD t31 t36 (.bool false)) h fun t37 h =>
  K (.ret t37) h))))
def lamplighterref13_Step.loops : Nat → LInfo
  | 1 => ⟨[], [], [], [(3, none), (3, some [10, 13]), (2, none), (3, some [15, 18]), (2, none), (7, some [20, 27]), (2, none), (3, some [29, 32]), (2, none), (3, some [34, 37])], [], []⟩
  | 6 => ⟨[], [], [], [(3, none), (16, some [67, 83])], [], []⟩
  | 8 => ⟨[], [], [], [(2, none), (3, some [92, 95]), (2, none), (11, some [97, 108])], [], []⟩
  | _ => ⟨[], [], [], [], [], []⟩
def lamplighterref13_Step.H (c : Ctx) (t0 : AV) (t1 : AV) (h : List AObj) (K : AOut → List AObj → Prop) : Prop :=
  boxW T_api_Seek t1 h fun t3 h =>
  allocW T_api_Seek h fun t4 h =>
  runD (fieldAddrD T_api_Seek t3 4) h fun t8 h =>
  runD (fitD T_bool (loadD h t8)) h fun t9 h =>
  joinW (fun (J1 : AV → AV → List AObj → Prop) =>
  guardW t9 false
  (runD (fieldAddrD T_api_Seek t3 0) h fun t11 h =>
    runD (fitD T_int (loadD h t11)) h fun t12 h =>
    runD (binD T_int .lss t12 (.int .i64 0)) h fun t13 h =>
    J1 (.bool false) t13 h)
  (J1 (.bool true) .und h))
  (fun t10 t13 h => runD (pickD t10 (.bool true) t13) h fun t14 h =>
  joinW (fun (J2 : AV → AV → List AObj → Prop) =>
  guardW t14 false
  (runD (fieldAddrD T_api_Seek t3 0) h fun t16 h =>
    runD (fitD T_int (loadD h t16)) h fun t17 h =>
    runD (binD T_int .gtr t17 (.int .i64 255)) h fun t18 h =>
    J2 (.bool false) t18 h)
  (J2 (.bool true) .und h))
  (fun t15 t18 h => runD (pickD t15 (.bool true) t18) h fun t19 h =>
  joinW (fun (J3 : AV → AV → List AObj → Prop) =>
  guardW t19 false
  (runD (fieldAddrD T_api_Seek t3 0) h fun t21 h =>
    runD (fitD T_int (loadD h t21)) h fun t22 h =>
    runD (binD T_int .mul (.int .i64 16) t22) h fun t23 h =>
    runD (binD T_int .add t23 (.int .i64 16)) h fun t24 h =>
    runD (lenD T_sl_int h t0) h fun t26 h =>
    runD (binD T_int .gtr t24 t26) h fun t27 h =>
    J3 (.bool false) t27 h)
  (J3 (.bool true) .und h))
  (fun t20 t27 h => runD (pickD t20 (.bool true) t27) h fun t28 h =>
  joinW (fun (J4 : AV → AV → List AObj → Prop) =>
  guardW t28 false
  (runD (fieldAddrD T_api_Seek t3 2) h fun t30 h =>
    runD (fitD T_int (loadD h t30)) h fun t31 h =>
    runD (binD T_int .lss t31 (.int .i64 0)) h fun t32 h =>
    J4 (.bool false) t32 h)
  (J4 (.bool true) .und h))
  (fun t29 t32 h => runD (pickD t29 (.bool true) t32) h fun t33 h =>
  joinW (fun (J5 : AV → AV → List AObj → Prop) =>
  guardW t33 false
  (runD (fieldAddrD T_api_Seek t3 2) h fun t35 h =>
    runD (fitD T_int (loadD h t35)) h fun t36 h =>
    runD (binD T_int .gtr t36 (.int .i64 12)) h fun t37 h =>
    J5 (.bool false) t37 h)
  (J5 (.bool true) .und h))
  (fun t34 t37 h => runD (pickD t34 (.bool true) t37) h fun t38 h =>
  condW t38
  (runD (fitD T_api_Seek (loadD h t3)) h fun t39 h =>
    runH (storeH T_api_Seek h t4 t39) h fun _ h =>
    loadRes (fitD T_api_Seek (loadD h t4)) fun r0 => K (.ret r0) h)
  (runD (fieldAddrD T_api_Seek t3 0) h fun t41 h =>
  runD (fitD T_int (loadD h t41)) h fun t42 h =>
  runD (binD T_int .mul (.int .i64 16) t42) h fun t43 h =>
  runD (binD T_int .add t43 (.int .i64 3)) h fun t44 h =>
  runD (fieldAddrD T_api_Seek t3 2) h fun t45 h =>
  runD (fitD T_int (loadD h t45)) h fun t46 h =>
  runD (binD T_int .add t44 t46) h fun t47 h =>
  runD (indexAddrD T_sl_int h t0 t47) h fun t48 h =>
  runD (fitD T_int (loadD h t48)) h fun t49 h =>
  runD (fieldAddrD T_api_Seek t3 1) h fun t50 h =>
  runD (fitD T_int (loadD h t50)) h fun t51 h =>
  runD (binD T_int .rem t51 (.int .i64 2)) h fun t52 h =>
  runD (binD T_int .neq t52 (.int .i64 0)) h fun t53 h =>
  runD (fieldAddrD T_api_Seek t3 0) h fun t54 h =>
  runD (fitD T_int (loadD h t54)) h fun t55 h =>
  runD (fieldAddrD T_api_Seek t3 1) h fun t56 h =>
  runD (fitD T_int (loadD h t56)) h fun t57 h =>
  runD (fieldAddrD T_api_Seek t3 2) h fun t58 h =>
  runD (fitD T_int (loadD h t58)) h fun t59 h =>
  runD (buildSliceD T_sl_int 0 [] h.length) h fun t60 h =>
  runD (fieldAddrD T_api_Seek t3 3) h fun t61 h =>
  runD (fitD T_sl_int (loadD h t61)) h fun t62 h =>
  runDM (appendD T_sl_int h t60 t62 h.length) (appendH T_sl_int h t60 t62) h fun t63 h =>
  runD (buildD T_api_Seek [(0, t55), (1, t57), (2, t59), (3, t63)]) h fun t64 h =>
  allocW T_api_Seek h fun t7 h =>
  runH (storeH T_api_Seek h t7 t64) h fun _ h =>
  sepB t60 [t54] = true ∧ sepB t60 [t56] = true ∧ sepB t60 [t58] = true ∧ runD (binD T_int .gtr t49 (.int .i64 0)) h fun t66 h =>
  joinW (fun (J6 : AV → AV → List AObj → Prop) =>
  guardW t66 true
  (runD (fieldAddrD T_api_Seek t3 3) h fun t68 h =>
    runD (fitD T_sl_int (loadD h t68)) h fun t69 h =>
    runD (lenD T_sl_int h t69) h fun t70 h =>
    runD (binD T_int .eql t70 (.int .i64 0)) h fun t71 h =>
    joinW (fun (J7 : AV → AV → List AObj → Prop) =>
    guardW t71 false
    (runD (fieldAddrD T_api_Seek t3 3) h fun t73 h =>
      runD (fitD T_sl_int (loadD h t73)) h fun t74 h =>
      runD (fieldAddrD T_api_Seek t3 3) h fun t75 h =>
      runD (fitD T_sl_int (loadD h t75)) h fun t76 h =>
      runD (lenD T_sl_int h t76) h fun t77 h =>
      runD (binD T_int .sub t77 (.int .i64 1)) h fun t78 h =>
      runD (indexAddrD T_sl_int h t74 t78) h fun t79 h =>
      runD (fitD T_int (loadD h t79)) h fun t80 h =>
      runD (binD T_int .neq t80 t49) h fun t82 h =>
      J7 (.bool false) t82 h)
    (J7 (.bool true) .und h))
    (fun t72 t82 h => runD (pickD t72 (.bool true) t82) h fun t83 h =>
    J6 (.bool true) t83 h))
  (J6 (.bool false) .und h))
  (fun t67 t83 h => runD (pickD t67 t83 (.bool false)) h fun t84 h =>
  joinW (fun (J8 : List AObj → Prop) =>
  condW t84
  (runD (fieldAddrD T_api_Seek t7 3) h fun t85 h =>
    runD (fitD T_sl_int (loadD h t85)) h fun t86 h =>
    runD (buildSliceD T_sl_int 1 [(0, t49)] h.length) h fun t88 h =>
    runDM (appendD T_sl_int h t86 t88 h.length) (appendH T_sl_int h t86 t88) h fun t89 h =>
    runD (fieldAddrD T_api_Seek t7 3) h fun t90 h =>
    runH (storeH T_sl_int h t90 t89) h fun _ h =>
    J8 h)
  (J8 h))
  (fun h => joinW (fun (J9 : AV → AV → List AObj → Prop) =>
  guardW t53 true
  (runD (fieldAddrD T_api_Seek t3 2) h fun t93 h =>
    runD (fitD T_int (loadD h t93)) h fun t94 h =>
    runD (binD T_int .eql t94 (.int .i64 0)) h fun t95 h =>
    J9 (.bool true) t95 h)
  (J9 (.bool false) .und h))
  (fun t92 t95 h => runD (pickD t92 t95 (.bool false)) h fun t96 h =>
  joinW (fun (J10 : AV → AV → List AObj → Prop) =>
  guardW t96 false
  (runD (unD .not t53) h fun t99 h =>
    joinW (fun (J11 : AV → AV → List AObj → Prop) =>
    guardW t99 true
    (runD (fieldAddrD T_api_Seek t3 2) h fun t101 h =>
      runD (fitD T_int (loadD h t101)) h fun t102 h =>
      runD (binD T_int .eql t102 (.int .i64 12)) h fun t103 h =>
      joinW (fun (J12 : AV → AV → List AObj → Prop) =>
      guardW t103 false
      (runD (binD T_int .leq t49 (.int .i64 0)) h fun t106 h =>
        J12 (.bool false) t106 h)
      (J12 (.bool true) .und h))
      (fun t104 t106 h => runD (pickD t104 (.bool true) t106) h fun t107 h =>
      J11 (.bool true) t107 h))
    (J11 (.bool false) .und h))
    (fun t100 t107 h => runD (pickD t100 t107 (.bool false)) h fun t108 h =>
    J10 (.bool false) t108 h))
  (J10 (.bool true) .und h))
  (fun t97 t108 h => runD (pickD t97 (.bool true) t108) h fun t109 h =>
  condW t109
  (runD (fieldAddrD T_api_Seek t7 4) h fun t110 h =>
    runH (storeH T_bool h t110 (.bool true)) h fun _ h =>
    runD (fitD T_api_Seek (loadD h t7)) h fun t111 h =>
    runH (storeH T_api_Seek h t4 t111) h fun _ h =>
    loadRes (fitD T_api_Seek (loadD h t4)) fun r0 => K (.ret r0) h)
  (joinW (fun (J13 : List AObj → Prop) =>
  condW t53
  (runD (fieldAddrD T_api_Seek t3 2) h fun t113 h =>
    runD (fitD T_int (loadD h t113)) h fun t114 h =>
    runD (binD T_int .sub t114 (.int .i64 1)) h fun t115 h =>
    runD (fieldAddrD T_api_Seek t7 2) h fun t116 h =>
    runH (storeH T_int h t116 t115) h fun _ h =>
    J13 h)
  (runD (fieldAddrD T_api_Seek t3 2) h fun t117 h =>
    runD (fitD T_int (loadD h t117)) h fun t118 h =>
    runD (binD T_int .add t118 (.int .i64 1)) h fun t119 h =>
    runD (fieldAddrD T_api_Seek t7 2) h fun t120 h =>
    runH (storeH T_int h t120 t119) h fun _ h =>
    J13 h))
  (fun h => runD (fitD T_api_Seek (loadD h t7)) h fun t121 h =>
  runH (storeH T_api_Seek h t4 t121) h fun _ h =>
  loadRes (fitD T_api_Seek (loadD h t4)) fun r0 => K (.ret r0) h))))))))))))
def lamplighterref13_Holds.loops : Nat → LInfo
  | 2 => ⟨[], [], [], [(3, none), (5, some [16, 21])], [], []⟩
  | _ => ⟨[], [], [], [], [], []⟩
def lamplighterref13_Holds.H (c : Ctx) (t0 : AV) (t1 : AV) (h : List AObj) (K : AOut → List AObj → Prop) : Prop :=
  boxW T_api_Seek t1 h fun t3 h =>
  runD (fieldAddrD T_api_Seek t3 0) h fun t9 h =>
  runD (fitD T_int (loadD h t9)) h fun t10 h =>
  callW false c (.fn (.func 62) [] []) [t0, t10] h (fun t11 h =>
  runD (extractD t11 0) h fun t12 h =>
  runD (extractD t11 1) h fun t13 h =>
  allocW T_api_Node h fun t5 h =>
  runH (storeH T_api_Node h t5 t12) h fun _ h =>
  runD (binD T_api_Errno .eql t13 (.int .i64 0)) h fun t15 h =>
  joinW (fun (J1 : AV → AV → List AObj → Prop) =>
  guardW t15 true
  (runD (fieldAddrD T_api_Node t5 1) h fun t17 h =>
    runD (fitD T_int (loadD h t17)) h fun t18 h =>
    runD (fieldAddrD T_api_Seek t3 1) h fun t19 h =>
    runD (fitD T_int (loadD h t19)) h fun t20 h =>
    runD (binD T_int .eql t18 t20) h fun t21 h =>
    J1 (.bool true) t21 h)
  (J1 (.bool false) .und h))
  (fun t16 t21 h => runD (pickD t16 t21 (.bool false)) h fun t22 h =>
  K (.ret t22) h))
  (fun v h => K (.pan v) h)
def lamplighterref13_Recs.loops : Nat → LInfo
  | 4 => ⟨[5], [false], [0, 1], [], [], []⟩
  | _ => ⟨[], [], [], [], [], []⟩
def lamplighterref13_Recs.L1 (c : Ctx) (J1 : List AObj → Prop) (K : AOut → List AObj → Prop) (lv : List AV) (h0 : List AObj) (n0 : Nat) (c0 : AV) (c1 : AV) : Prop :=
  ∃ I : Nat → List AV → List AObj → Prop, (∃ n, I n lv h0) ∧ ∀ n h, ∀ t5, I n [t5] h →
    runD (lenD T_sl_api_Rec h c0) h fun t13 h =>
    runD (binD T_int .lss t5 t13) h fun t14 h =>
    condW t14
    (runD (indexAddrD T_sl_api_Rec h c0 t5) h fun t19 h =>
    runD (fitD T_api_Rec (loadD h t19)) h fun t20 h =>
    runD (indexAddrD T_sl_api_Rec h c1 t5) h fun t23 h =>
    runD (fitD T_api_Rec (loadD h t23)) h fun t24 h =>
    runD (binD T_api_Rec .neq t20 t24) h fun t25 h =>
    condW t25
    (K (.ret (.bool false)) h)
    (runD (binD T_int .add t5 (.int .i64 1)) h fun t16 h =>
    (∃ m, m < n ∧ I m (AV.norms n0 h [t16]) (normH n0 h)) ∧ AV.norms n0 h [c0, c1] = [c0, c1]))
    (J1 h)
def lamplighterref13_Recs.H (c : Ctx) (t0 : AV) (t1 : AV) (h : List AObj) (K : AOut → List AObj → Prop) : Prop :=
  runD (lenD T_sl_api_Rec h t0) h fun t7 h =>
  runD (lenD T_sl_api_Rec h t1) h fun t9 h =>
  runD (binD T_int .neq t7 t9) h fun t10 h =>
  condW t10
  (K (.ret (.bool false)) h)
  (joinW (fun (J1 : List AObj → Prop) =>
  promV [false] [(.int .i64 0)] h fun lv h => lamplighterref13_Recs.L1 c J1 K (AV.norms h.length h lv) (normH h.length h) h.length (AV.norm h.length h t0) (AV.norm h.length h t1))
  (fun h => K (.ret (.bool true)) h))
def lamplighterref13_Hits.loops : Nat → LInfo
  | 3 => ⟨[5, 6], [false, false], [0, 3], [], [], []⟩
  | 10 => ⟨[9, 10, 11], [false, false, false], [0, 3, 5, 6, 7], [], [], []⟩
  | _ => ⟨[], [], [], [], [], []⟩
def lamplighterref13_Hits.L2 (c : Ctx) (J3 : AV → AV → AV → AV → AV → AV → AV → List AObj → Prop) (K : AOut → List AObj → Prop) (lv : List AV) (h0 : List AObj) (n0 : Nat) (c0 : AV) (c3 : AV) (c5 : AV) (c6 : AV) (c7 : AV) : Prop :=
  ∃ I : Nat → List AV → List AObj → Prop, (∃ n, I n lv h0) ∧ ∀ n h, ∀ t9, ∀ t10, ∀ t11, I n [t9, t10, t11] h →
    runD (lenD T_sl_api_Rec h c5) h fun t33 h =>
    runD (binD T_int .lss t11 t33) h fun t34 h =>
    condW t34
    (runD (indexAddrD T_sl_api_Rec h c5 t11) h fun t39 h =>
    runD (fieldAddrD T_api_Rec t39 1) h fun t40 h =>
    runD (fitD T_string (loadD h t40)) h fun t41 h =>
    runD (fieldAddrD T_api_Rec c7 1) h fun t42 h =>
    runD (fitD T_string (loadD h t42)) h fun t43 h =>
    runD (binD T_string .eql t41 t43) h fun t44 h =>
    joinW (fun (J4 : AV → List AObj → Prop) =>
    condW t44
    (J4 (.bool true) h)
    (J4 t10 h))
    (fun t10 h => runD (indexAddrD T_sl_api_Rec h c5 t11) h fun t47 h =>
    runD (fieldAddrD T_api_Rec t47 1) h fun t48 h =>
    runD (fitD T_string (loadD h t48)) h fun t49 h =>
    runD (fieldAddrD T_api_Rec c7 1) h fun t50 h =>
    runD (fitD T_string (loadD h t50)) h fun t51 h =>
    runD (binD T_string .lss t49 t51) h fun t52 h =>
    joinW (fun (J5 : AV → List AObj → Prop) =>
    condW t52
    (runD (binD T_int .add t11 (.int .i64 1)) h fun t54 h =>
      J5 t54 h)
    (J5 t9 h))
    (fun t9 h => runD (binD T_int .add t11 (.int .i64 1)) h fun t36 h =>
    (∃ m, m < n ∧ I m (AV.norms n0 h [t9, t10, t36]) (normH n0 h)) ∧ AV.norms n0 h [c0, c3, c5, c6, c7] = [c0, c3, c5, c6, c7])))
    (J3 c0 c3 c5 c6 c7 t9 t10 h)
def lamplighterref13_Hits.L1 (c : Ctx) (J1 : AV → List AObj → Prop) (K : AOut → List AObj → Prop) (lv : List AV) (h0 : List AObj) (n0 : Nat) (c0 : AV) (c3 : AV) : Prop :=
  ∃ I : Nat → List AV → List AObj → Prop, (∃ n, I n lv h0) ∧ ∀ n h, ∀ t5, ∀ t6, I n [t5, t6] h →
    runD (fieldAddrD T_api_Seek c3 3) h fun t13 h =>
    runD (fitD T_sl_int (loadD h t13)) h fun t14 h =>
    runD (lenD T_sl_int h t14) h fun t15 h =>
    runD (binD T_int .lss t6 t15) h fun t16 h =>
    condW t16
    (joinW (fun (J2 : AV → AV → AV → AV → List AObj → Prop) =>
    runD (fieldAddrD T_api_Seek c3 3) h fun t21 h =>
    runD (fitD T_sl_int (loadD h t21)) h fun t22 h =>
    runD (indexAddrD T_sl_int h t22 t6) h fun t24 h =>
    runD (fitD T_int (loadD h t24)) h fun t25 h =>
    callW false c (.fn (.func 70) [] []) [c0, t25] h (fun t26 h =>
    runD (extractD t26 0) h fun t27 h =>
    runD (extractD t26 1) h fun t28 h =>
    allocW T_api_Rec h fun t7 h =>
    runH (storeH T_api_Rec h t7 t27) h fun _ h =>
    runD (binD T_api_Errno .neq t28 (.int .i64 0)) h fun t30 h =>
    condW t30
    (J2 c0 c3 t5 t6 h)
    (joinW (fun (J3 : AV → AV → AV → AV → AV → AV → AV → List AObj → Prop) =>
    promV [false, false, false] [(.int .i64 0), (.bool false), (.int .i64 0)] h fun lv h => lamplighterref13_Hits.L2 c J3 K (AV.norms h.length h lv) (normH h.length h) h.length (AV.norm h.length h c0) (AV.norm h.length h c3) (AV.norm h.length h t5) (AV.norm h.length h t6) (AV.norm h.length h t7))
    (fun t0 t3 t5 t6 t7 t9 t10 h => runD (unD .not t10) h fun t56 h =>
    joinW (fun (J6 : AV → List AObj → Prop) =>
    condW t56
    (runD (buildSliceD T_sl_api_Rec 0 [] h.length) h fun t57 h =>
      runD (sliceD T_sl_api_Rec h t5 none (some t9) none) h fun t60 h =>
      runDM (appendD T_sl_api_Rec h t57 t60 h.length) (appendH T_sl_api_Rec h t57 t60) h fun t61 h =>
      runD (fitD T_api_Rec (loadD h t7)) h fun t62 h =>
      runD (buildSliceD T_sl_api_Rec 1 [(0, t62)] h.length) h fun t63 h =>
      runDM (appendD T_sl_api_Rec h t61 t63 h.length) (appendH T_sl_api_Rec h t61 t63) h fun t64 h =>
      runD (sliceD T_sl_api_Rec h t5 (some t9) none none) h fun t67 h =>
      runDM (appendD T_sl_api_Rec h t64 t67 h.length) (appendH T_sl_api_Rec h t64 t67) h fun t68 h =>
      sepB t57 [t7] = true ∧ sepB t57 [t5, t9] = true ∧ sepB t61 [t5, t9] = true ∧ J6 t68 h)
    (J6 t5 h))
    (fun t5 h => J2 t0 t3 t5 t6 h))))
    (fun v h => K (.pan v) h))
    (fun t0 t3 t5 t6 h => runD (binD T_int .add t6 (.int .i64 1)) h fun t18 h =>
    (∃ m, m < n ∧ I m (AV.norms n0 h [t5, t18]) (normH n0 h)) ∧ AV.norms n0 h [t0, t3] = [c0, c3]))
    (J1 t5 h)
def lamplighterref13_Hits.H (c : Ctx) (t0 : AV) (t1 : AV) (h : List AObj) (K : AOut → List AObj → Prop) : Prop :=
  boxW T_api_Seek t1 h fun t3 h =>
  joinW (fun (J1 : AV → List AObj → Prop) =>
  promV [false, false] [(.sl true (.recs [])), (.int .i64 0)] h fun lv h => lamplighterref13_Hits.L1 c J1 K (AV.norms h.length h lv) (normH h.length h) h.length (AV.norm h.length h t0) (AV.norm h.length h t3))
  (fun t5 h => K (.ret t5) h)
theorem lamplighterref13_Begin.eq (F : List (FuncId × Contract)) (S : List (FuncId × Con)) (t0 t1 : AV) (h : List AObj) (K : AOut → List AObj → Prop) : funW (ctx F S lamplighterref13_Begin.loops) Try.f26 [t0, t1] h K = lamplighterref13_Begin.H (ctx F S lamplighterref13_Begin.loops) t0 t1 h K := by kernel_rfl
theorem lamplighterref13_Same.eq (F : List (FuncId × Contract)) (S : List (FuncId × Con)) (t0 t1 : AV) (h : List AObj) (K : AOut → List AObj → Prop) : funW (ctx F S lamplighterref13_Same.loops) Try.f27 [t0, t1] h K = lamplighterref13_Same.H (ctx F S lamplighterref13_Same.loops) t0 t1 h K := by kernel_rfl
theorem lamplighterref13_Step.eq (F : List (FuncId × Contract)) (S : List (FuncId × Con)) (t0 t1 : AV) (h : List AObj) (K : AOut → List AObj → Prop) : funW (ctx F S lamplighterref13_Step.loops) Try.f29 [t0, t1] h K = lamplighterref13_Step.H (ctx F S lamplighterref13_Step.loops) t0 t1 h K := by kernel_rfl
theorem lamplighterref13_Holds.eq (F : List (FuncId × Contract)) (S : List (FuncId × Con)) (t0 t1 : AV) (h : List AObj) (K : AOut → List AObj → Prop) : funW (ctx F S lamplighterref13_Holds.loops) Try.f31 [t0, t1] h K = lamplighterref13_Holds.H (ctx F S lamplighterref13_Holds.loops) t0 t1 h K := by kernel_rfl
theorem lamplighterref13_Recs.eq (F : List (FuncId × Contract)) (S : List (FuncId × Con)) (t0 t1 : AV) (h : List AObj) (K : AOut → List AObj → Prop) : funW (ctx F S lamplighterref13_Recs.loops) Try.f32 [t0, t1] h K = lamplighterref13_Recs.H (ctx F S lamplighterref13_Recs.loops) t0 t1 h K := by kernel_rfl
theorem lamplighterref13_Hits.eq (F : List (FuncId × Contract)) (S : List (FuncId × Con)) (t0 t1 : AV) (h : List AObj) (K : AOut → List AObj → Prop) : funW (ctx F S lamplighterref13_Hits.loops) Try.f34 [t0, t1] h K = lamplighterref13_Hits.H (ctx F S lamplighterref13_Hits.loops) t0 t1 h K := by kernel_rfl
theorem lamplighterref13_Begin.at : Try.prog.funcs[26]? = some Try.f26 := by kernel_rfl
theorem lamplighterref13_Begin.nm : (Try.f26.name == "runtime.NumGoroutine") = false := by kernel_rfl
theorem lamplighterref13_Begin.bd : Try.f26.body.isNone = false := by kernel_rfl
theorem lamplighterref13_Same.at : Try.prog.funcs[27]? = some Try.f27 := by kernel_rfl
theorem lamplighterref13_Same.nm : (Try.f27.name == "runtime.NumGoroutine") = false := by kernel_rfl
theorem lamplighterref13_Same.bd : Try.f27.body.isNone = false := by kernel_rfl
theorem lamplighterref13_Step.at : Try.prog.funcs[29]? = some Try.f29 := by kernel_rfl
theorem lamplighterref13_Step.nm : (Try.f29.name == "runtime.NumGoroutine") = false := by kernel_rfl
theorem lamplighterref13_Step.bd : Try.f29.body.isNone = false := by kernel_rfl
theorem lamplighterref13_Holds.at : Try.prog.funcs[31]? = some Try.f31 := by kernel_rfl
theorem lamplighterref13_Holds.nm : (Try.f31.name == "runtime.NumGoroutine") = false := by kernel_rfl
theorem lamplighterref13_Holds.bd : Try.f31.body.isNone = false := by kernel_rfl
theorem lamplighterref13_Recs.at : Try.prog.funcs[32]? = some Try.f32 := by kernel_rfl
theorem lamplighterref13_Recs.nm : (Try.f32.name == "runtime.NumGoroutine") = false := by kernel_rfl
theorem lamplighterref13_Recs.bd : Try.f32.body.isNone = false := by kernel_rfl
theorem lamplighterref13_Hits.at : Try.prog.funcs[34]? = some Try.f34 := by kernel_rfl
theorem lamplighterref13_Hits.nm : (Try.f34.name == "runtime.NumGoroutine") = false := by kernel_rfl
theorem lamplighterref13_Hits.bd : Try.f34.body.isNone = false := by kernel_rfl
end Lam
namespace Lam
open Go Go.Proofs
set_option linter.unusedVariables false
set_option linter.unnecessarySimpa false
set_option linter.unusedSimpArgs false
def sameS (x y : Sk) : Bool := decide (x.block = y.block) && decide (x.turn = y.turn) && decide (x.at_ = y.at_) && (x.over == y.over) && decide (x.refs = y.refs)
theorem sameS_self (x : Sk) : sameS x x = true := by simp [sameS]
def lamplighterref13_Same.C : Contract
  | [.agg [.int .i64 a, .int .i64 b, .int .i64 c, .sl _ (.ints .i64 d), .bool e], .agg [.int .i64 f, .int .i64 g, .int .i64 i, .sl _ (.ints .i64 j), .bool k]] => some (false, pD (roomy d.length) (.bool (sameS ⟨a, b, c, d, e⟩ ⟨f, g, i, j, k⟩)))
  | _ => none
set_option maxRecDepth 20000 in
theorem lamplighterref13_Same.spec : FSpec Try.prog 27 lamplighterref13_Same.C := by
  refine FSpec.of (ctx_ok (F := [(20, lamplighterref02_Numbers.C)]) (S := []) (by simpa using lamplighterref02_Numbers.spec) (by simp) lamplighterref13_Same.loops) lamplighterref13_Same.at lamplighterref13_Same.nm lamplighterref13_Same.bd ?_
  intro vs b S v news e hS
  unfold lamplighterref13_Same.C at e
  split at e
  rotate_left
  · cases e
  cases e
  rw [lamplighterref13_Same.eq]
  unfold lamplighterref13_Same.H
  simp (maxSteps := 4000000) only [go_sem, Nat.reduceEqDiff, Nat.reduceLT, Nat.reduceAdd, Nat.reduceSub, Nat.reduceLeDiff, List.reduceReplicate, Int.reduceToNat, lamplighterref02_Numbers.C]
  exact ⟨fun _ => hS, post_val rfl rfl⟩
end Lam
namespace Lam
open Go Go.Proofs
set_option linter.unusedVariables false
def lamplighterref09_Read.loops : Nat → LInfo
  | 1 => ⟨[], [], [], [(3, none), (2, some [14, 16]), (2, none), (6, some [18, 24])], [], []⟩
  | 5 => ⟨[], [], [], [(5, none), (2, some [42, 44])], [], []⟩
  | 9 => ⟨[9], [false], [4, 6, 8], [(3, none), (5, some [60, 65])], [8], []⟩
  | 13 => ⟨[], [], [], [(3, none), (4, some [85, 89])], [], []⟩
  | _ => ⟨[], [], [], [], [], []⟩
def lamplighterref09_Read.L1 (c : Ctx) (J4 : AV → AV → AV → List AObj → Prop) (K : AOut → List AObj → Prop) (lv : List AV) (h0 : List AObj) (n0 : Nat) (c4 : AV) (c6 : AV) (c8 : AV) : Prop :=
  ∃ I : Nat → List AV → List AObj → Prop, (∃ n, I n lv h0) ∧ ∀ n h, ∀ t9, I n [t9] h →
    runD (binD T_int .lss t9 (.int .i64 16)) h fun t59 h =>
    joinW (fun (J5 : AV → AV → List AObj → Prop) =>
    guardW t59 true
    (runD (indexAddrD T_sl_int h c6 t9) h fun t63 h =>
      runD (fitD T_int (loadD h t63)) h fun t64 h =>
      runD (binD T_int .neq t64 (.int .i64 0)) h fun t65 h =>
      J5 (.bool true) t65 h)
    (J5 (.bool false) .und h))
    (fun t60 t65 h => runD (pickD t60 t65 (.bool false)) h fun t66 h =>
    condW t66
    (runD (fieldAddrD T_api_Node c8 4) h fun t69 h =>
    runD (fitD T_sl_int (loadD h t69)) h fun t70 h =>
    runD (indexAddrD T_sl_int h c6 t9) h fun t73 h =>
    runD (fitD T_int (loadD h t73)) h fun t74 h =>
    runD (buildSliceD T_sl_int 1 [(0, t74)] h.length) h fun t75 h =>
    runDM (appendD T_sl_int h t70 t75 h.length) (appendH T_sl_int h t70 t75) h fun t76 h =>
    runD (fieldAddrD T_api_Node c8 4) h fun t77 h =>
    runH (storeH T_sl_int h t77 t76) h fun _ h =>
    runD (binD T_int .add t9 (.int .i64 1)) h fun t68 h =>
    (∃ m, m < n ∧ I m (AV.norms n0 h [t68]) (normH n0 h)) ∧ AV.norms n0 h [c4, c6, c8] = [c4, c6, c8])
    (J4 c4 c6 c8 h))
def lamplighterref09_Read.H (c : Ctx) (t0 : AV) (t1 : AV) (h : List AObj) (K : AOut → List AObj → Prop) : Prop :=
  allocW T_api_Node h fun t4 h =>
  runD (binD T_int .lss t1 (.int .i64 0)) h fun t13 h =>
  joinW (fun (J1 : AV → AV → List AObj → Prop) =>
  guardW t13 false
  (runD (binD T_int .geq t1 (.int .i64 4096)) h fun t16 h =>
    J1 (.bool false) t16 h)
  (J1 (.bool true) .und h))
  (fun t14 t16 h => runD (pickD t14 (.bool true) t16) h fun t17 h =>
  joinW (fun (J2 : AV → AV → List AObj → Prop) =>
  guardW t17 false
  (runD (binD T_int .mul (.int .i64 16) t1) h fun t20 h =>
    runD (binD T_int .add t20 (.int .i64 16)) h fun t21 h =>
    runD (lenD T_sl_int h t0) h fun t23 h =>
    runD (binD T_int .gtr t21 t23) h fun t24 h =>
    J2 (.bool false) t24 h)
  (J2 (.bool true) .und h))
  (fun t18 t24 h => runD (pickD t18 (.bool true) t24) h fun t25 h =>
  condW t25
  (runD (buildD T_api_Node []) h fun t26 h =>
    runH (storeH T_api_Node h t4 t26) h fun _ h =>
    loadRes (fitD T_api_Node (loadD h t4)) fun r0 => K (.ret (.tup [r0, (.int .i64 1)])) h)
  (runD (binD T_int .mul (.int .i64 16) t1) h fun t29 h =>
  runD (binD T_int .mul (.int .i64 16) t1) h fun t31 h =>
  runD (binD T_int .add t31 (.int .i64 16)) h fun t32 h =>
  runD (sliceD T_sl_int h t0 (some t29) (some t32) none) h fun t33 h =>
  runD (indexAddrD T_sl_int h t33 (.int .i64 0)) h fun t35 h =>
  runD (fitD T_int (loadD h t35)) h fun t36 h =>
  runD (binD T_int .sub t36 (.int .i64 1152921504606846976)) h fun t37 h =>
  runD (indexAddrD T_sl_int h t33 (.int .i64 0)) h fun t39 h =>
  runD (fitD T_int (loadD h t39)) h fun t40 h =>
  runD (binD T_int .lss t40 (.int .i64 0)) h fun t41 h =>
  joinW (fun (J3 : AV → AV → List AObj → Prop) =>
  guardW t41 false
  (runD (binD T_int .lss t37 (.int .i64 0)) h fun t44 h =>
    J3 (.bool false) t44 h)
  (J3 (.bool true) .und h))
  (fun t42 t44 h => runD (pickD t42 (.bool true) t44) h fun t45 h =>
  condW t45
  (runD (buildD T_api_Node []) h fun t46 h =>
    runH (storeH T_api_Node h t4 t46) h fun _ h =>
    loadRes (fitD T_api_Node (loadD h t4)) fun r0 => K (.ret (.tup [r0, (.int .i64 90)])) h)
  (runD (binD T_int .rem t37 (.int .i64 16)) h fun t48 h =>
  runD (binD T_int .quo t37 (.int .i64 16)) h fun t50 h =>
  runD (indexAddrD T_sl_int h t33 (.int .i64 1)) h fun t52 h =>
  runD (fitD T_int (loadD h t52)) h fun t53 h =>
  runD (indexAddrD T_sl_int h t33 (.int .i64 2)) h fun t55 h =>
  runD (fitD T_int (loadD h t55)) h fun t56 h =>
  runD (buildD T_api_Node [(0, t48), (1, t50), (2, t53), (3, t56)]) h fun t57 h =>
  allocW T_api_Node h fun t8 h =>
  runH (storeH T_api_Node h t8 t57) h fun _ h =>
  joinW (fun (J4 : AV → AV → AV → List AObj → Prop) =>
  promV [false] [(.int .i64 3)] (boxH [t8] h) fun lv h => lamplighterref09_Read.L1 c J4 K (AV.norms h.length h lv) (normH h.length h) h.length (AV.norm h.length h t4) (AV.norm h.length h t33) (AV.norm h.length h t8))
  (fun t4 t6 t8 h => runD (fitD T_api_Node (loadD h t8)) h fun t79 h =>
  callW false c (.fn (.func 91) [] []) [t79] h (fun t80 h =>
  runD (extractD t80 0) h fun t81 h =>
  runD (extractD t80 1) h fun t82 h =>
  runD (binD T_api_Errno .neq t82 (.int .i64 0)) h fun t84 h =>
  joinW (fun (J6 : AV → AV → List AObj → Prop) =>
  guardW t84 false
  (callW false c (.fn (.func 20) [] []) [t81, t6] h (fun t88 h =>
    runD (unD .not t88) h fun t89 h =>
    J6 (.bool false) t89 h)
    (fun v h => K (.pan v) h))
  (J6 (.bool true) .und h))
  (fun t85 t89 h => runD (pickD t85 (.bool true) t89) h fun t90 h =>
  condW t90
  (runD (buildD T_api_Node []) h fun t91 h =>
    runH (storeH T_api_Node h t4 t91) h fun _ h =>
    loadRes (fitD T_api_Node (loadD h t4)) fun r0 => K (.ret (.tup [r0, (.int .i64 90)])) h)
  (runD (fitD T_api_Node (loadD h t8)) h fun t92 h =>
  runH (storeH T_api_Node h t4 t92) h fun _ h =>
  loadRes (fitD T_api_Node (loadD h t4)) fun r0 => K (.ret (.tup [r0, (.int .i64 0)])) h)))
  (fun v h => K (.pan v) h)))))))
def lamplighterref09_Words.loops : Nat → LInfo
  | 5 => ⟨[5], [true], [], [], [], []⟩
  | _ => ⟨[], [], [], [], [], []⟩
def lamplighterref09_Words.L1 (c : Ctx) (J1 : AV → List AObj → Prop) (K : AOut → List AObj → Prop) (lv : List AV) (h0 : List AObj) (n0 : Nat) : Prop :=
  ∃ I : Nat → List AV → List AObj → Prop, (∃ n, I n lv h0) ∧ ∀ n h, ∀ t5, I n [t5] h →
    runD (lenD T_sl_int h t5) h fun t21 h =>
    runD (binD T_int .lss t21 (.int .i64 16)) h fun t22 h =>
    condW t22
    (runD (buildSliceD T_sl_int 1 [(0, (.int .i64 0))] h.length) h fun t24 h =>
    runDM (appendD T_sl_int h t5 t24 h.length) (appendH T_sl_int h t5 t24) h fun t25 h =>
    (∃ m, m < n ∧ I m (AV.norms n0 h [t25]) (normH n0 h)) ∧ AV.norms n0 h [] = [])
    (J1 t5 h)
def lamplighterref09_Words.H (c : Ctx) (t0 : AV) (h : List AObj) (K : AOut → List AObj → Prop) : Prop :=
  boxW T_api_Node t0 h fun t1 h =>
  runD (fitD T_api_Node (loadD h t1)) h fun t6 h =>
  callW false c (.fn (.func 112) [] []) [t6] h (fun t7 h =>
  runD (unD .not t7) h fun t9 h =>
  condW t9
  (K (.ret (.tup [(.sl true (.ints .i64 [])), (.int .i64 90)])) h)
  (runD (fitD T_api_Node (loadD h t1)) h fun t10 h =>
  callW false c.noS (.fn (.func 113) [] []) [t10] h (fun t11 h =>
  runD (fieldAddrD T_api_Node t1 2) h fun t12 h =>
  runD (fitD T_int (loadD h t12)) h fun t13 h =>
  runD (fieldAddrD T_api_Node t1 3) h fun t14 h =>
  runD (fitD T_int (loadD h t14)) h fun t15 h =>
  runD (buildSliceD T_sl_int 3 [(0, t11), (1, t13), (2, t15)] h.length) h fun t16 h =>
  runD (fieldAddrD T_api_Node t1 4) h fun t17 h =>
  runD (fitD T_sl_int (loadD h t17)) h fun t18 h =>
  runDM (appendD T_sl_int h t16 t18 h.length) (appendH T_sl_int h t16 t18) h fun t19 h =>
  joinW (fun (J1 : AV → List AObj → Prop) =>
  promV [true] [t19] h fun lv h => lamplighterref09_Words.L1 c J1 K (AV.norms h.length h lv) (normH h.length h) h.length)
  (fun t5 h => K (.ret (.tup [t5, (.int .i64 0)])) h))
  (fun _ _ => False)))
  (fun v h => K (.pan v) h)
def lamplighterref09_Check.loops : Nat → LInfo
  | 1 => ⟨[], [], [], [(4, none), (3, some [7, 10]), (2, none), (3, some [12, 15]), (2, none), (3, some [17, 20]), (2, none), (4, some [22, 26]), (2, none), (4, some [28, 32]), (2, none), (4, some [34, 38])], [], []⟩
  | 4 => ⟨[3], [false], [1], [], [], []⟩
  | 6 => ⟨[], [], [], [(8, none), (6, some [54, 60])], [], []⟩
  | _ => ⟨[], [], [], [], [], []⟩
def lamplighterref09_Check.L1 (c : Ctx) (J7 : List AObj → Prop) (K : AOut → List AObj → Prop) (lv : List AV) (h0 : List AObj) (n0 : Nat) (c1 : AV) : Prop :=
  ∃ I : Nat → List AV → List AObj → Prop, (∃ n, I n lv h0) ∧ ∀ n h, ∀ t3, I n [t3] h →
    runD (fieldAddrD T_api_Node c1 4) h fun t41 h =>
    runD (fitD T_sl_int (loadD h t41)) h fun t42 h =>
    runD (lenD T_sl_int h t42) h fun t43 h =>
    runD (binD T_int .lss t3 t43) h fun t44 h =>
    condW t44
    (runD (fieldAddrD T_api_Node c1 4) h fun t47 h =>
    runD (fitD T_sl_int (loadD h t47)) h fun t48 h =>
    runD (indexAddrD T_sl_int h t48 t3) h fun t50 h =>
    runD (fitD T_int (loadD h t50)) h fun t51 h =>
    callW false c (.fn (.func 136) [] []) [t51] h (fun t52 h =>
    runD (unD .not t52) h fun t53 h =>
    joinW (fun (J8 : AV → AV → List AObj → Prop) =>
    guardW t53 false
    (runD (fieldAddrD T_api_Node c1 4) h fun t55 h =>
      runD (fitD T_sl_int (loadD h t55)) h fun t56 h =>
      runD (indexAddrD T_sl_int h t56 t3) h fun t58 h =>
      runD (fitD T_int (loadD h t58)) h fun t59 h =>
      runD (binD T_int .eql t59 (.int .i64 0)) h fun t60 h =>
      J8 (.bool false) t60 h)
    (J8 (.bool true) .und h))
    (fun t54 t60 h => runD (pickD t54 (.bool true) t60) h fun t61 h =>
    condW t61
    (K (.ret (.bool false)) h)
    (runD (binD T_int .add t3 (.int .i64 1)) h fun t46 h =>
    (∃ m, m < n ∧ I m (AV.norms n0 h [t46]) (normH n0 h)) ∧ AV.norms n0 h [c1] = [c1])))
    (fun v h => K (.pan v) h))
    (J7 h)
def lamplighterref09_Check.H (c : Ctx) (t0 : AV) (h : List AObj) (K : AOut → List AObj → Prop) : Prop :=
  boxW T_api_Node t0 h fun t1 h =>
  runD (fieldAddrD T_api_Node t1 0) h fun t4 h =>
  runD (fitD T_int (loadD h t4)) h fun t5 h =>
  runD (binD T_int .lss t5 (.int .i64 0)) h fun t6 h =>
  joinW (fun (J1 : AV → AV → List AObj → Prop) =>
  guardW t6 false
  (runD (fieldAddrD T_api_Node t1 0) h fun t8 h =>
    runD (fitD T_int (loadD h t8)) h fun t9 h =>
    runD (binD T_int .gtr t9 (.int .i64 9)) h fun t10 h =>
    J1 (.bool false) t10 h)
  (J1 (.bool true) .und h))
  (fun t7 t10 h => runD (pickD t7 (.bool true) t10) h fun t11 h =>
  joinW (fun (J2 : AV → AV → List AObj → Prop) =>
  guardW t11 false
  (runD (fieldAddrD T_api_Node t1 1) h fun t13 h =>
    runD (fitD T_int (loadD h t13)) h fun t14 h =>
    runD (binD T_int .lss t14 (.int .i64 0)) h fun t15 h =>
    J2 (.bool false) t15 h)
  (J2 (.bool true) .und h))
  (fun t12 t15 h => runD (pickD t12 (.bool true) t15) h fun t16 h =>
  joinW (fun (J3 : AV → AV → List AObj → Prop) =>
  guardW t16 false
  (runD (fieldAddrD T_api_Node t1 1) h fun t18 h =>
    runD (fitD T_int (loadD h t18)) h fun t19 h =>
    runD (binD T_int .gtr t19 (.int .i64 1099511627776)) h fun t20 h =>
    J3 (.bool false) t20 h)
  (J3 (.bool true) .und h))
  (fun t17 t20 h => runD (pickD t17 (.bool true) t20) h fun t21 h =>
  joinW (fun (J4 : AV → AV → List AObj → Prop) =>
  guardW t21 false
  (runD (fieldAddrD T_api_Node t1 2) h fun t23 h =>
    runD (fitD T_int (loadD h t23)) h fun t24 h =>
    callW false c (.fn (.func 136) [] []) [t24] h (fun t25 h =>
    runD (unD .not t25) h fun t26 h =>
    J4 (.bool false) t26 h)
    (fun v h => K (.pan v) h))
  (J4 (.bool true) .und h))
  (fun t22 t26 h => runD (pickD t22 (.bool true) t26) h fun t27 h =>
  joinW (fun (J5 : AV → AV → List AObj → Prop) =>
  guardW t27 false
  (runD (fieldAddrD T_api_Node t1 3) h fun t29 h =>
    runD (fitD T_int (loadD h t29)) h fun t30 h =>
    callW false c (.fn (.func 136) [] []) [t30] h (fun t31 h =>
    runD (unD .not t31) h fun t32 h =>
    J5 (.bool false) t32 h)
    (fun v h => K (.pan v) h))
  (J5 (.bool true) .und h))
  (fun t28 t32 h => runD (pickD t28 (.bool true) t32) h fun t33 h =>
  joinW (fun (J6 : AV → AV → List AObj → Prop) =>
  guardW t33 false
  (runD (fieldAddrD T_api_Node t1 4) h fun t35 h =>
    runD (fitD T_sl_int (loadD h t35)) h fun t36 h =>
    runD (lenD T_sl_int h t36) h fun t37 h =>
    runD (binD T_int .gtr t37 (.int .i64 13)) h fun t38 h =>
    J6 (.bool false) t38 h)
  (J6 (.bool true) .und h))
  (fun t34 t38 h => runD (pickD t34 (.bool true) t38) h fun t39 h =>
  condW t39
  (K (.ret (.bool false)) h)
  (joinW (fun (J7 : List AObj → Prop) =>
  promV [false] [(.int .i64 0)] h fun lv h => lamplighterref09_Check.L1 c J7 K (AV.norms h.length h lv) (normH h.length h) h.length (AV.norm h.length h t1))
  (fun h => K (.ret (.bool true)) h))))))))
def lamplighterref09_first.loops : Nat → LInfo
  | _ => ⟨[], [], [], [], [], []⟩
def lamplighterref09_first.H (c : Ctx) (t0 : AV) (h : List AObj) (K : AOut → List AObj → Prop) : Prop :=
  boxW T_api_Node t0 h fun t1 h =>
  runD (fieldAddrD T_api_Node t1 1) h fun t3 h =>
  runD (fitD T_int (loadD h t3)) h fun t4 h =>
  runD (binD T_int .mul (.int .i64 16) t4) h fun t5 h =>
  runD (binD T_int .add (.int .i64 1152921504606846976) t5) h fun t6 h =>
  runD (fieldAddrD T_api_Node t1 0) h fun t7 h =>
  runD (fitD T_int (loadD h t7)) h fun t8 h =>
  runD (binD T_int .add t6 t8) h fun t9 h =>
  K (.ret t9) h
def lamplighterref09_block.loops : Nat → LInfo
  | 1 => ⟨[], [], [], [(3, none), (2, some [5, 7])], [], []⟩
  | _ => ⟨[], [], [], [], [], []⟩
def lamplighterref09_block.H (c : Ctx) (t0 : AV) (h : List AObj) (K : AOut → List AObj → Prop) : Prop :=
  runD (binD T_int .geq t0 (.int .i64 0)) h fun t4 h =>
  joinW (fun (J1 : AV → AV → List AObj → Prop) =>
  guardW t4 true
  (runD (binD T_int .leq t0 (.int .i64 255)) h fun t7 h =>
    J1 (.bool true) t7 h)
  (J1 (.bool false) .und h))
  (fun t5 t7 h => runD (pickD t5 t7 (.bool false)) h fun t8 h =>
  K (.ret t8) h)
theorem lamplighterref09_Read.eq (F : List (FuncId × Contract)) (S : List (FuncId × Con)) (t0 t1 : AV) (h : List AObj) (K : AOut → List AObj → Prop) : funW (ctx F S lamplighterref09_Read.loops) Try.f62 [t0, t1] h K = lamplighterref09_Read.H (ctx F S lamplighterref09_Read.loops) t0 t1 h K := by kernel_rfl
theorem lamplighterref09_Words.eq (F : List (FuncId × Contract)) (S : List (FuncId × Con)) (t0 : AV) (h : List AObj) (K : AOut → List AObj → Prop) : funW (ctx F S lamplighterref09_Words.loops) Try.f91 [t0] h K = lamplighterref09_Words.H (ctx F S lamplighterref09_Words.loops) t0 h K := by kernel_rfl
theorem lamplighterref09_Check.eq (F : List (FuncId × Contract)) (S : List (FuncId × Con)) (t0 : AV) (h : List AObj) (K : AOut → List AObj → Prop) : funW (ctx F S lamplighterref09_Check.loops) Try.f112 [t0] h K = lamplighterref09_Check.H (ctx F S lamplighterref09_Check.loops) t0 h K := by kernel_rfl
theorem lamplighterref09_first.eq (F : List (FuncId × Contract)) (S : List (FuncId × Con)) (t0 : AV) (h : List AObj) (K : AOut → List AObj → Prop) : funW (ctx F S lamplighterref09_first.loops) Try.f113 [t0] h K = lamplighterref09_first.H (ctx F S lamplighterref09_first.loops) t0 h K := by kernel_rfl
theorem lamplighterref09_block.eq (F : List (FuncId × Contract)) (S : List (FuncId × Con)) (t0 : AV) (h : List AObj) (K : AOut → List AObj → Prop) : funW (ctx F S lamplighterref09_block.loops) Try.f136 [t0] h K = lamplighterref09_block.H (ctx F S lamplighterref09_block.loops) t0 h K := by kernel_rfl
theorem lamplighterref09_Read.at : Try.prog.funcs[62]? = some Try.f62 := by kernel_rfl
theorem lamplighterref09_Read.nm : (Try.f62.name == "runtime.NumGoroutine") = false := by kernel_rfl
theorem lamplighterref09_Read.bd : Try.f62.body.isNone = false := by kernel_rfl
theorem lamplighterref09_Words.at : Try.prog.funcs[91]? = some Try.f91 := by kernel_rfl
theorem lamplighterref09_Words.nm : (Try.f91.name == "runtime.NumGoroutine") = false := by kernel_rfl
theorem lamplighterref09_Words.bd : Try.f91.body.isNone = false := by kernel_rfl
theorem lamplighterref09_Check.at : Try.prog.funcs[112]? = some Try.f112 := by kernel_rfl
theorem lamplighterref09_Check.nm : (Try.f112.name == "runtime.NumGoroutine") = false := by kernel_rfl
theorem lamplighterref09_Check.bd : Try.f112.body.isNone = false := by kernel_rfl
theorem lamplighterref09_first.at : Try.prog.funcs[113]? = some Try.f113 := by kernel_rfl
theorem lamplighterref09_first.nm : (Try.f113.name == "runtime.NumGoroutine") = false := by kernel_rfl
theorem lamplighterref09_first.bd : Try.f113.body.isNone = false := by kernel_rfl
theorem lamplighterref09_block.at : Try.prog.funcs[136]? = some Try.f136 := by kernel_rfl
theorem lamplighterref09_block.nm : (Try.f136.name == "runtime.NumGoroutine") = false := by kernel_rfl
theorem lamplighterref09_block.bd : Try.f136.body.isNone = false := by kernel_rfl
end Lam
namespace Lam
open Go Go.Proofs
set_option linter.unusedVariables false
set_option linter.unnecessarySimpa false
set_option linter.unusedSimpArgs false
end Lam
namespace Lam
open Go Go.Proofs
set_option linter.unusedVariables false
set_option linter.unnecessarySimpa false
set_option linter.unusedSimpArgs false
end Lam
namespace Lam
open Go Go.Proofs
set_option linter.unusedVariables false
set_option linter.unnecessarySimpa false
set_option linter.unusedSimpArgs false
theorem wordsV_ok {n : Nd} (h : ndB n = true) : wordsV n = .tup [.sl false (.ints .i64 (wordsNd n)), .int .i64 0] := by unfold wordsV; rw [if_pos h]
theorem wordsV_no {n : Nd} (h : ndB n = false) : wordsV n = .tup [.sl false (.ints .i64 []), .int .i64 90] := by unfold wordsV; rw [h]; rfl
end Lam
namespace Lam
open Go Go.Proofs
set_option linter.unusedVariables false
set_option linter.unnecessarySimpa false
set_option linter.unusedSimpArgs false
def lamplighterref09_block.C : Contract
  | [.int .i64 n] => some (false, pD True (.bool (blockB n)))
  | _ => none
set_option maxRecDepth 20000 in
theorem lamplighterref09_block.spec : FSpec Try.prog 136 lamplighterref09_block.C := by
  refine FSpec.of (ctx_ok (F := []) (S := []) (by simp) (by simp) lamplighterref09_block.loops) lamplighterref09_block.at lamplighterref09_block.nm lamplighterref09_block.bd ?_
  intro vs b S v news e hS
  unfold lamplighterref09_block.C at e
  split at e
  rotate_left
  · cases e
  cases e
  rw [lamplighterref09_block.eq]
  unfold lamplighterref09_block.H
  simp (maxSteps := 4000000) only [go_sem, Nat.reduceEqDiff, Nat.reduceLT, Nat.reduceAdd, Nat.reduceSub, Nat.reduceLeDiff, List.reduceReplicate, Int.reduceToNat]
  rename_i n
  have : decide (n ≤ 255) = decide (n < 256) := decide_eq_decide.2 (by omega)
  rw [this]
  exact post_val rfl rfl
def lamplighterref09_Check.C : Contract
  | [.agg [.int .i64 a, .int .i64 b, .int .i64 c, .int .i64 d, .sl false (.ints .i64 l)]] => some (false, pD True (.bool (ndB ⟨a, b, c, d, l⟩)))
  | _ => none
set_option maxRecDepth 20000 in
theorem lamplighterref09_Check.spec : FSpec Try.prog 112 lamplighterref09_Check.C := by
  refine FSpec.of (ctx_ok (F := [(136, lamplighterref09_block.C)]) (S := []) (by simpa using lamplighterref09_block.spec) (by simp) lamplighterref09_Check.loops) lamplighterref09_Check.at lamplighterref09_Check.nm lamplighterref09_Check.bd ?_
  intro vs b S v news e hS
  unfold lamplighterref09_Check.C at e
  split at e
  rotate_left
  · cases e
  cases e
  rw [lamplighterref09_Check.eq]
  unfold lamplighterref09_Check.H
  simp (maxSteps := 4000000) only [go_sem, Nat.reduceEqDiff, Nat.reduceLT, Nat.reduceAdd, Nat.reduceSub, Nat.reduceLeDiff, List.reduceReplicate, Int.reduceToNat, lamplighterref09_block.C]
  rename_i a b c d l
  have eg : (decide (a < 0) || decide (9 < a) || decide (b < 0) || decide (1099511627776 < b) || !blockB c || !blockB d || decide (13 < (l.length : Int))) = !(decide (0 ≤ a) && decide (a ≤ 9) && decide (0 ≤ b) && decide (b ≤ 1099511627776) && blockB c && blockB d && decide (l.length ≤ 13)) := by
    rw [Bool.eq_iff_iff]
    cases blockB c <;> cases blockB d <;> simp <;> omega
  have en : ndB ⟨a, b, c, d, l⟩ = ((decide (0 ≤ a) && decide (a ≤ 9) && decide (0 ≤ b) && decide (b ≤ 1099511627776) && blockB c && blockB d && decide (l.length ≤ 13)) && !l.any noBlock) := rfl
  rw [eg, en]
  cases h : (decide (0 ≤ a) && decide (a ≤ 9) && decide (0 ≤ b) && decide (b ≤ 1099511627776) && blockB c && blockB d && decide (l.length ≤ 13)) with
  | false => exact ⟨fun _ => post_val rfl rfl, fun h => (by cases h)⟩
  | true =>
    refine ⟨fun h => (by cases h), fun _ => ?_⟩
    have hl : l.length ≤ 13 := by simp only [Bool.and_eq_true, decide_eq_true_eq] at h; exact h.2
    rw [joinW_eq]
    unfold lamplighterref09_Check.L1
    refine loop1 (σ := Nat) (fun k => .int .i64 k) (fun k => [.box (.agg [.int .i64 a, .int .i64 b, .int .i64 c, .int .i64 d, .sl false (.ints .i64 l)])]) (fun k => l.length - k) (fun k => k ≤ l.length ∧ ∀ x ∈ l.take k, noBlock x = false) 0 rfl rfl ⟨Nat.zero_le _, fun x hx => by cases hx⟩ ?_
    rintro I back k ⟨hk, hall⟩
    simp only [lamplighterref09_block.C, go_sem, Nat.reduceEqDiff, Nat.reduceLT, Nat.reduceAdd, Nat.reduceSub, Nat.reduceLeDiff, List.reduceReplicate, Int.reduceToNat]
    have hnb : ∀ x, (!blockB x || decide (x = 0)) = noBlock x := fun x => by unfold noBlock blockB; rw [Bool.or_comm]
    rw [hnb]
    refine ⟨fun hlt => ⟨by omega, fun _ => by omega, fun hb => ?_, fun hb => ?_⟩, fun hge => ?_⟩
    · have : l.any noBlock = true := List.any_eq_true.2 ⟨_, getD_mem l k 0 (by omega), hb⟩
      rw [this]; exact post_val rfl rfl
    · refine back (k + 1) (by omega) (by rw [wnext (by omega)]) rfl ⟨by omega, fun x hx => ?_⟩
      rw [take_next l k 0 (by omega)] at hx
      rcases List.mem_append.1 hx with hx | hx
      · exact hall x hx
      · rw [List.mem_singleton] at hx; subst hx; exact hb
    · obtain rfl : k = l.length := by omega
      rw [List.take_length] at hall
      have : l.any noBlock = false := List.any_eq_false.2 fun x hx => by rw [hall x hx]; decide
      rw [this]; exact post_val rfl rfl
def lamplighterref09_first.C : Contract
  | [.agg [.int .i64 a, .int .i64 b, .int .i64 c, .int .i64 d, .sl false (.ints .i64 l)]] => some (false, pD (0 ≤ a ∧ a ≤ 9 ∧ 0 ≤ b ∧ b ≤ 1099511627776) (.int .i64 (firstN ⟨a, b, c, d, l⟩)))
  | _ => none
set_option maxRecDepth 20000 in
theorem lamplighterref09_first.spec : FSpec Try.prog 113 lamplighterref09_first.C := by
  refine FSpec.of (ctx_ok (F := []) (S := []) (by simp) (by simp) lamplighterref09_first.loops) lamplighterref09_first.at lamplighterref09_first.nm lamplighterref09_first.bd ?_
  intro vs b S v news e hS
  unfold lamplighterref09_first.C at e
  split at e
  rotate_left
  · cases e
  cases e
  rw [lamplighterref09_first.eq]
  unfold lamplighterref09_first.H
  simp (maxSteps := 4000000) only [go_sem, Nat.reduceEqDiff, Nat.reduceLT, Nat.reduceAdd, Nat.reduceSub, Nat.reduceLeDiff, List.reduceReplicate, Int.reduceToNat]
  rename_i a b c d l
  have : IntKind.i64.wrap (IntKind.i64.wrap (1152921504606846976 + IntKind.i64.wrap (16 * b)) + a) = firstN ⟨a, b, c, d, l⟩ := by
    obtain ⟨h1, h2, h3, h4⟩ := hS
    rw [w64 (n := 16 * b) (by omega) (by omega), w64 (n := 1152921504606846976 + 16 * b) (by omega) (by omega), w64 (by omega) (by omega)]; rfl
  rw [this]; exact post_val rfl rfl
def lamplighterref09_Words.C : Contract
  | [.agg [.int .i64 a, .int .i64 b, .int .i64 c, .int .i64 d, .sl false (.ints .i64 l)]] => some (false, pD True (wordsV ⟨a, b, c, d, l⟩))
  | _ => none
set_option maxRecDepth 20000 in
theorem lamplighterref09_Words.spec : FSpec Try.prog 91 lamplighterref09_Words.C := by
  refine FSpec.of (ctx_ok (F := [(112, lamplighterref09_Check.C), (113, lamplighterref09_first.C)]) (S := []) (by simpa using ⟨lamplighterref09_Check.spec, lamplighterref09_first.spec⟩) (by simp) lamplighterref09_Words.loops) lamplighterref09_Words.at lamplighterref09_Words.nm lamplighterref09_Words.bd ?_
  intro vs b S v news e hS
  unfold lamplighterref09_Words.C at e
  split at e
  rotate_left
  · cases e
  cases e
  rw [lamplighterref09_Words.eq]
  unfold lamplighterref09_Words.H
  simp (maxSteps := 4000000) only [go_sem, Nat.reduceEqDiff, Nat.reduceLT, Nat.reduceAdd, Nat.reduceSub, Nat.reduceLeDiff, List.reduceReplicate, Int.reduceToNat, lamplighterref09_Check.C, lamplighterref09_first.C]
  rename_i a b c d l
  refine ⟨fun h => ?_, fun h => ?_⟩
  · rw [wordsV_no h]; exact post_val rfl rfl
  · have hok := nd_iff.1 h
    have q7 := hok.2.2.2.2.2.2.1
    simp only at q7
    rw [wordsV_ok h]
    refine ⟨⟨hok.1, hok.2.1, hok.2.2.1, hok.2.2.2.1⟩, by unfold roomy; omega, ?_⟩
    rw [joinW_eq]
    unfold lamplighterref09_Words.L1
    refine loop1 (σ := Nat) (fun k => .sref false 1 (1 + k) 0 (l.length + 3 + k)) (fun k => [.box (.agg [.int .i64 a, .int .i64 b, .int .i64 c, .int .i64 d, .sl false (.ints .i64 l)]), .row .own (1 + k) (.ints .i64 (firstN ⟨a, b, c, d, l⟩ :: c :: d :: (l ++ List.replicate k 0)))]) (fun k => 13 - l.length - k) (fun k => l.length + k ≤ 13) 0 ?_ ?_ q7 ?_
    · rfl
    · simp
    intro I back k hk
    simp only [go_sem, Nat.reduceEqDiff, Nat.reduceLT, Nat.reduceAdd, Nat.reduceSub, Nat.reduceLeDiff, List.reduceReplicate, Int.reduceToNat]
    have hlk : (l ++ List.replicate k 0).length = l.length + k := by simp
    have hrep : List.replicate k (0 : Int) ++ [0] = List.replicate (k + 1) 0 := List.replicate_succ'.symm
    have hlk1 : (l ++ List.replicate (k + 1) 0).length = l.length + (k + 1) := by simp
    rw [hlk, hrep, hlk1]
    refine ⟨fun hlt => ⟨⟨by omega, by unfold roomy; omega⟩, ?_⟩, fun hge => ?_⟩
    · refine back (k + 1) (by omega) ?_ rfl (by omega)
      rw [show l.length + (k + 1) + 1 + 1 + 1 = l.length + 3 + (k + 1) from by omega, Nat.add_assoc 1 k 1]
    · obtain rfl : k = 13 - l.length := by omega
      refine post_val ?_ rfl
      simp only [go_sem, Nat.reduceEqDiff, Nat.reduceLT, Nat.reduceAdd, Nat.reduceSub, Nat.reduceLeDiff, List.reduceReplicate, Int.reduceToNat]
      unfold wordsNd
      simp only
      rw [take_len]
      simp; omega
def upNZ (l : List Int) : List Int := l.takeWhile fun x => !decide (x = 0)
def decR (w : List Int) : Nd := ⟨(w.getD 0 0 - 1152921504606846976) % 16, (w.getD 0 0 - 1152921504606846976) / 16, w.getD 1 0, w.getD 2 0, upNZ (w.drop 3)⟩
theorem decR_words {n : Nd} (h : n.ok) : decR (wordsNd n) = n := by
  have hd := decN_words h
  unfold decN at hd
  unfold decR
  have : upNZ ((wordsNd n).drop 3) = upTo ((wordsNd n).drop 3) := by
    rw [upTo_words h]
    show upNZ (n.slots ++ List.replicate _ 0) = _
    have hp := h.2.2.2.2.2.2.2
    generalize 13 - n.slots.length = m
    generalize n.slots = l at *
    clear hd h
    unfold upNZ
    induction l with
    | nil => cases m with
      | zero => rfl
      | succ m => rw [List.nil_append, List.replicate_succ, List.takeWhile_cons]; rfl
    | cons a r ih =>
      have ha := hp a (by simp)
      rw [List.cons_append, List.takeWhile_cons, decide_eq_false (show ¬ a = 0 by omega), ih fun x hx => hp x (by simp [hx])]; rfl
  rw [this]; exact hd
theorem readR_eq (w : List Int) : readBy decR w = readN w := readBy_eq (fun n h => decR_words h) (fun n h => decN_words h) w
theorem readN_small {w : List Int} (h : w.getD 0 0 < 1152921504606846976) : readN w = none := by
  cases e : readN w with
  | none => rfl
  | some n =>
    obtain ⟨h1, rfl⟩ := readN_some e
    have : (wordsNd n).getD 0 0 = 1152921504606846976 + 16 * n.turn + n.level := rfl
    have := h1.1; have := h1.2.2.1
    omega
theorem upNZ_at {l : List Int} {k : Nat} (hk : k ≤ l.length) (h : ∀ i, i < k → l.getD i 0 ≠ 0) (he : k = l.length ∨ l.getD k 0 = 0) : upNZ l = l.take k := by
  unfold upNZ
  induction l generalizing k with
  | nil => simp
  | cons a r ih =>
    cases k with
    | zero =>
      have : a = 0 := by rcases he with h | h; cases h; exact h
      rw [List.takeWhile_cons, this]; rfl
    | succ k =>
      have h0 := h 0 (by omega)
      have h0 : a ≠ 0 := h0
      rw [List.takeWhile_cons, decide_eq_false h0, List.take_succ_cons, ih (k := k) (by simpa using hk) (fun i hi => h (i + 1) (by omega)) (by rcases he with h | h; left; simpa using h; right; exact h)]
      rfl
def lamplighterref09_Read.C : Contract
  | [.sl _ (.ints .i64 l), .int .i64 k] => some (false, pD (l.length ≤ 65536 ∧ i64s l) (readV l k))
  | _ => none
set_option maxRecDepth 20000 in
theorem lamplighterref09_Read.spec : FSpec Try.prog 62 lamplighterref09_Read.C := by
  refine FSpec.of (ctx_ok (F := [(91, lamplighterref09_Words.C), (20, lamplighterref02_Numbers.C)]) (S := []) (by simpa using ⟨lamplighterref09_Words.spec, lamplighterref02_Numbers.spec⟩) (by simp) lamplighterref09_Read.loops) lamplighterref09_Read.at lamplighterref09_Read.nm lamplighterref09_Read.bd ?_
  intro vs b S v news e hS
  unfold lamplighterref09_Read.C at e
  split at e
  rotate_left
  · cases e
  cases e
  rw [lamplighterref09_Read.eq]
  unfold lamplighterref09_Read.H
  simp (maxSteps := 4000000) only [go_sem, Nat.reduceEqDiff, Nat.reduceLT, Nat.reduceAdd, Nat.reduceSub, Nat.reduceLeDiff, List.reduceReplicate, Int.reduceToNat, lamplighterref09_Words.C, lamplighterref02_Numbers.C]
  rename_i l k
  obtain ⟨hS, hi64⟩ := hS
  have eg : (decide (k < 0) || decide (4096 ≤ k) || decide ((l.length : Int) < IntKind.i64.wrap (IntKind.i64.wrap (16 * k) + 16))) = (decide (k < 0) || decide (((l.length / 16 : Nat) : Int) ≤ k)) := by
    rw [Bool.eq_iff_iff]
    simp only [Bool.or_eq_true, decide_eq_true_eq]
    by_cases h : 0 ≤ k ∧ k < 4096
    · rw [w64 (n := 16 * k) (by omega) (by omega), w64 (by omega) (by omega)]; omega
    · omega
  rw [eg]
  unfold readV
  refine ⟨fun h => ?_, fun h => ?_⟩
  · rw [if_pos h]
    refine post_val ?_ rfl
    simp only [zeroNd, go_sem, Nat.reduceEqDiff, Nat.reduceLT, Nat.reduceAdd, Nat.reduceSub, Nat.reduceLeDiff, List.reduceReplicate, Int.reduceToNat]
  · rw [h]
    simp only [Bool.or_eq_false_iff, decide_eq_false_iff_not] at h
    obtain ⟨k, rfl⟩ := Int.eq_ofNat_of_zero_le (show 0 ≤ k by omega)
    have hk : 16 * k + 16 ≤ l.length := by omega
    have e1 : IntKind.i64.wrap (16 * (k : Int)) = 16 * (k : Int) := w64 (by omega) (by omega)
    have e3 : IntKind.i64.wrap (16 * (k : Int) + 16) = 16 * (k : Int) + 16 := w64 (by omega) (by omega)
    have e4 : (16 * (k : Int) + 16).toNat - (16 * (k : Int)).toNat = 16 := by omega
    have e5 : (16 * (k : Int)).toNat = 16 * k := by omega
    have eb : (l.drop (16 * k)).take 16 = blockAt l k := rfl
    have hbl : (blockAt l k).length = 16 := by unfold blockAt; simp; omega
    have hw0 : (blockAt l k).getD 0 0 < 9223372036854775808 := hi64 _ (List.drop_subset _ _ (List.take_subset _ _ (getD_mem (blockAt l k) 0 0 (by omega))))
    rw [e1, e3, e4, e5, eb, Int.toNat_natCast]
    generalize blockAt l k = w at *
    rw [hbl, ← readR_eq]
    refine ⟨by omega, by omega, by omega, fun hc => ?_, fun hc => ?_⟩
    · have : readBy decR w = none := by
        rw [readR_eq]
        apply readN_small
        simp only [Bool.or_eq_true, decide_eq_true_eq] at hc
        rcases Int.lt_or_le (w.getD 0 0) 0 with h0 | h0
        · omega
        · rw [w64 (by omega) (by omega)] at hc; omega
      rw [this]
      refine post_val ?_ rfl
      simp only [zeroNd, go_sem, Nat.reduceEqDiff, Nat.reduceLT, Nat.reduceAdd, Nat.reduceSub, Nat.reduceLeDiff, List.reduceReplicate, Int.reduceToNat]
    · simp only [Bool.or_eq_false_iff, decide_eq_false_iff_not] at hc
      have e6 : IntKind.i64.wrap (w.getD 0 0 - 1152921504606846976) = w.getD 0 0 - 1152921504606846976 := w64 (by omega) (by omega)
      rw [e6] at hc
      have e7 : IntKind.i64.wrap ((w.getD 0 0 - 1152921504606846976).tdiv 16) = (w.getD 0 0 - 1152921504606846976) / 16 := by
        rw [Int.tdiv_eq_ediv_of_nonneg (by omega)]; exact w64 (by omega) (by omega)
      have e8 : (w.getD 0 0 - 1152921504606846976).tmod 16 = (w.getD 0 0 - 1152921504606846976) % 16 := Int.tmod_eq_emod_of_nonneg (by omega)
      rw [e6, e7, e8]
      refine ⟨by decide, by decide, by omega, by omega, ?_⟩
      rw [joinW_eq]
      unfold lamplighterref09_Read.L1
      have hdl : (w.drop 3).length = 13 := by simp; omega
      refine loop1 (σ := Nat) (fun i => .int .i64 (3 + i : Nat)) (fun i => [.box (.agg [.int .i64 0, .int .i64 0, .int .i64 0, .int .i64 0, .sl false (.ints .i64 [])]), .box (.agg [.int .i64 ((w.getD 0 0 - 1152921504606846976) % 16), .int .i64 ((w.getD 0 0 - 1152921504606846976) / 16), .int .i64 (w.getD 1 0), .int .i64 (w.getD 2 0), .sref false 2 i 0 i]), .row .own i (.ints .i64 ((w.drop 3).take i))]) (fun i => 13 - i) (fun i => i ≤ 13 ∧ ∀ j, j < i → (w.drop 3).getD j 0 ≠ 0) 0 rfl rfl ⟨by omega, fun j hj => absurd hj (Nat.not_lt_zero j)⟩ ?_
      rintro I back i ⟨hi, hall⟩
      have htl : ((w.drop 3).take i).length = i := by rw [List.length_take]; omega
      simp only [htl, hbl, go_sem, Nat.reduceEqDiff, Nat.reduceLT, Nat.reduceAdd, Nat.reduceSub, Nat.reduceLeDiff, List.reduceReplicate, Int.reduceToNat]
      have hgd : (w.drop 3).getD i 0 = w.getD (3 + i) 0 := getD_drop w 3 i
      refine ⟨fun _ => by omega, fun hc2 => ?_, fun hc2 => ?_⟩
      · simp only [Bool.and_eq_true, decide_eq_true_eq, Bool.not_eq_true', decide_eq_false_iff_not] at hc2
        have htn := take_next (w.drop 3) i 0 (by omega)
        rw [hgd] at htn
        rw [← htn]
        have htl1 : ((w.drop 3).take (i + 1)).length = i + 1 := by rw [List.length_take]; omega
        rw [htl1]
        refine ⟨by omega, by unfold roomy; omega, back (i + 1) (by omega) ?_ rfl ⟨by omega, fun j hj => ?_⟩⟩
        · rw [wnext (by omega)]; rfl
        · by_cases e : j = i
          · subst e; rw [hgd]; exact hc2.2
          · exact hall j (by omega)
      · have hup : upNZ (w.drop 3) = (w.drop 3).take i := by
          refine upNZ_at (by omega) hall ?_
          rw [hgd]
          simp only [Bool.and_eq_false_iff, decide_eq_false_iff_not, Bool.not_eq_false', decide_eq_true_eq] at hc2
          rcases hc2 with h | h
          · left; omega
          · right; exact h
        rw [List.take_take, Nat.min_self, ← hup]
        have hdp : (⟨(w.getD 0 0 - 1152921504606846976) % 16, (w.getD 0 0 - 1152921504606846976) / 16, w.getD 1 0, w.getD 2 0, upNZ (w.drop 3)⟩ : Nd) = decR w := rfl
        have hil : i = (upNZ (w.drop 3)).length := by rw [hup, htl]
        have htk : (upNZ (w.drop 3)).take i = upNZ (w.drop 3) := take_len _ (by omega)
        unfold readBy
        cases hd : ndB (decR w) with
        | false =>
          simp only [lamplighterref09_Words.C, hdp, wordsV_no hd, Bool.false_eq_true, if_false, Bool.false_and, joinW_eq, joinW_eq, guard_tt, guard_tf, guard_ft, guard_ff, Int.reduceEq, Int.reduceLT, Int.reduceLE, decide_false, decide_true, Bool.not_false, Bool.not_true, Bool.not_not, not_true_eq_false, not_false_eq_true, true_implies, false_implies, implies_true, and_true, true_and, reduceCtorEq, Bool.and_self, Bool.or_self, Bool.and_true, Bool.true_and, Bool.false_eq_true, if_true, if_false, go_sem, Nat.reduceEqDiff, Nat.reduceLT, Nat.reduceAdd, Nat.reduceSub, Nat.reduceLeDiff, List.reduceReplicate, Int.reduceToNat]
          refine post_val ?_ rfl
          simp only [zeroNd, go_sem, Nat.reduceEqDiff, Nat.reduceLT, Nat.reduceAdd, Nat.reduceSub, Nat.reduceLeDiff, List.reduceReplicate, Int.reduceToNat]
        | true =>
          have hok := nd_iff.1 hd
          have hwl := words_len hok
          simp only [lamplighterref09_Words.C, hdp, wordsV_ok hd, if_true, Bool.true_and, lamplighterref02_Numbers.C, hwl, hbl, htk, joinW_eq, guard_tt, guard_tf, guard_ft, guard_ff, Int.reduceEq, Int.reduceLT, Int.reduceLE, decide_false, decide_true, Bool.not_false, Bool.not_true, Bool.not_not, not_true_eq_false, not_false_eq_true, true_implies, false_implies, implies_true, and_true, true_and, reduceCtorEq, Bool.and_self, Bool.or_self, Bool.and_true, Bool.true_and, Bool.false_eq_true, if_true, if_false, go_sem, Nat.reduceEqDiff, Nat.reduceLT, Nat.reduceAdd, Nat.reduceSub, Nat.reduceLeDiff, List.reduceReplicate, Int.reduceToNat]
          refine ⟨by unfold roomy; omega, fun h => ?_, fun h => ?_⟩
          · rw [if_neg h]
            refine post_val ?_ rfl
            simp only [zeroNd, go_sem, Nat.reduceEqDiff, Nat.reduceLT, Nat.reduceAdd, Nat.reduceSub, Nat.reduceLeDiff, List.reduceReplicate, Int.reduceToNat]
          · rw [if_pos h]
            refine post_val ?_ rfl
            simp only [htk, go_sem, Nat.reduceEqDiff, Nat.reduceLT, Nat.reduceAdd, Nat.reduceSub, Nat.reduceLeDiff, List.reduceReplicate, Int.reduceToNat]
            rfl
end Lam
namespace Lam
open Go Go.Proofs
set_option linter.unusedVariables false
set_option linter.unnecessarySimpa false
set_option linter.unusedSimpArgs false
def lamplighterref02_Check.C : Contract
  | [.str s] => some (false, pD True (.bool (keyB s)))
  | _ => none
set_option maxRecDepth 20000 in
theorem lamplighterref02_Check.spec : FSpec Try.prog 142 lamplighterref02_Check.C := by
  refine FSpec.of (ctx_ok (F := []) (S := []) (by simp) (by simp) lamplighterref02_Check.loops) lamplighterref02_Check.at lamplighterref02_Check.nm lamplighterref02_Check.bd ?_
  intro vs b S v news e hS
  unfold lamplighterref02_Check.C at e
  split at e
  rotate_left
  · cases e
  cases e
  rw [lamplighterref02_Check.eq]
  unfold lamplighterref02_Check.H
  simp (maxSteps := 4000000) only [go_sem, Nat.reduceEqDiff, Nat.reduceLT, Nat.reduceAdd, Nat.reduceSub, Nat.reduceLeDiff, List.reduceReplicate, Int.reduceToNat]
  rename_i s
  have : (decide (1 ≤ (List.length s : Int)) && decide ((List.length s : Int) ≤ 21)) = keyB s := by
    unfold keyB
    congr 1
    refine decide_eq_decide.2 ?_
    cases s <;> simp
    omega
  rw [this]; exact post_val rfl rfl
def lamplighterref02_CheckVal.C : Contract
  | [.str s] => some (false, pD True (.bool (decide ((s.length : Int) ≤ 21))))
  | _ => none
set_option maxRecDepth 20000 in
theorem lamplighterref02_CheckVal.spec : FSpec Try.prog 143 lamplighterref02_CheckVal.C := by
  refine FSpec.of (ctx_ok (F := []) (S := []) (by simp) (by simp) lamplighterref02_CheckVal.loops) lamplighterref02_CheckVal.at lamplighterref02_CheckVal.nm lamplighterref02_CheckVal.bd ?_
  intro vs b S v news e hS
  unfold lamplighterref02_CheckVal.C at e
  split at e
  rotate_left
  · cases e
  cases e
  rw [lamplighterref02_CheckVal.eq]
  unfold lamplighterref02_CheckVal.H
  simp (maxSteps := 4000000) only [go_sem, Nat.reduceEqDiff, Nat.reduceLT, Nat.reduceAdd, Nat.reduceSub, Nat.reduceLeDiff, List.reduceReplicate, Int.reduceToNat]
  exact post_val rfl rfl
def lamplighterref02_Words.C : Contract
  | [.str s] => some (false, pD (s.length ≤ 1000) (.sl false (.ints .i64 (keyW s))))
  | _ => none
set_option maxRecDepth 20000 in
theorem lamplighterref02_Words.spec : FSpec Try.prog 124 lamplighterref02_Words.C := by
  refine FSpec.of (ctx_ok (F := []) (S := []) (by simp) (by simp) lamplighterref02_Words.loops) lamplighterref02_Words.at lamplighterref02_Words.nm lamplighterref02_Words.bd ?_
  intro vs b S v news e hS
  unfold lamplighterref02_Words.C at e
  split at e
  rotate_left
  · cases e
  cases e
  rw [lamplighterref02_Words.eq]
  unfold lamplighterref02_Words.H
  simp (maxSteps := 4000000) only [go_sem, Nat.reduceEqDiff, Nat.reduceLT, Nat.reduceAdd, Nat.reduceSub, Nat.reduceLeDiff, List.reduceReplicate, Int.reduceToNat]
  rename_i s
  rw [joinW_eq]
  unfold lamplighterref02_Words.L1
  refine loop2 (σ := Nat) (fun k => .sref false 0 k 0 k) (fun k => .int .i64 (7 * k : Nat)) (fun k => [.row .own k (.ints .i64 ((keyW s).take k))]) (fun k => nPieces s - k) (fun k => k ≤ nPieces s) 0 rfl rfl (Nat.zero_le _) ?_
  intro I back k hk
  have hkl : (keyW s).length = nPieces s := keyW_len s
  have htl : ((keyW s).take k).length = k := by rw [List.length_take]; omega
  simp only [htl, go_sem, Nat.reduceEqDiff, Nat.reduceLT, Nat.reduceAdd, Nat.reduceSub, Nat.reduceLeDiff, List.reduceReplicate, Int.reduceToNat]
  have hnp : nPieces s = (s.length + 6) / 7 := rfl
  refine ⟨fun hlt => ?_, fun hge => ?_⟩
  · rw [joinW_eq, joinW_eq]
    unfold lamplighterref02_Words.L2
    have hpl := pieceN_len s k
    have hql := padB_len hpl
    have hq : ∀ j, j < 7 → ((padB (pieceN s k)).getD j 0).toNat = if 7 * k + j < s.length then (s.getD (7 * k + j) 0).toNat else 0 := by
      intro j hj
      have hpj : (pieceN s k).length = min 7 (s.length - 7 * k) := by unfold pieceN; simp
      unfold padB
      by_cases h : j < (pieceN s k).length
      · rw [getD_append_left _ _ _ _ h, if_pos (by omega)]
        unfold pieceN
        rw [List.getD_eq_getElem?_getD, List.getElem?_take, if_pos hj, List.getElem?_drop, List.getD_eq_getElem?_getD]
      · rw [getD_append_right _ _ _ _ (by omega), if_neg (by omega), List.getD_eq_getElem?_getD, List.getElem?_replicate]
        split <;> rfl
    refine loop2 (σ := Nat) (fun j => .int .i64 (pv ((padB (pieceN s k)).take j) : Nat)) (fun j => .int .i64 (7 * k + j : Nat)) (fun j => [.row .own k (.ints .i64 ((keyW s).take k))]) (fun j => 7 - j) (fun j => j ≤ 7) 0 rfl rfl (Nat.zero_le _) ?_
    intro I2 back2 j hj
    have hpv : pv ((padB (pieceN s k)).take j) < 256 ^ j := by
      have := pv_lt ((padB (pieceN s k)).take j)
      rwa [List.length_take, hql, Nat.min_eq_left hj] at this
    have hp7 : (256 : Nat) ^ j ≤ 256 ^ 7 := Nat.pow_le_pow_right (by decide) hj
    simp only [go_sem, Nat.reduceEqDiff, Nat.reduceLT, Nat.reduceAdd, Nat.reduceSub, Nat.reduceLeDiff, List.reduceReplicate, Int.reduceToNat]
    have e7 : IntKind.i64.wrap (((7 * k : Nat) : Int) + 7) = ((7 * k + 7 : Nat) : Int) := by rw [w64 (by omega) (by omega)]; omega
    have enx : IntKind.i64.wrap (((7 * k + j : Nat) : Int) + 1) = ((7 * k + (j + 1) : Nat) : Int) := by rw [w64 (by omega) (by omega)]; omega
    rw [e7, enx]
    refine ⟨fun hlt2 => ?_, fun hge2 => ?_⟩
    · have hj7 : j < 7 := by omega
      have hlt6 : (256 : Nat) ^ j ≤ 256 ^ 6 := Nat.pow_le_pow_right (by decide) (by omega)
      have hsn : pv ((padB (pieceN s k)).take (j + 1)) = pv ((padB (pieceN s k)).take j) * 256 + (if 7 * k + j < s.length then (s.getD (7 * k + j) 0).toNat else 0) := by
        rw [take_next _ j 0 (by omega), pv_snoc, hq j hj7]
      have hb : (s.getD (7 * k + j) 0).toNat < 256 := (s.getD (7 * k + j) 0).toNat_lt
      rw [joinW_eq]
      generalize pv ((padB (pieceN s k)).take j) = V at *
      have em : IntKind.i64.wrap ((V : Int) * 256) = (V : Int) * 256 := w64 (by omega) (by omega)
      rw [em]
      refine ⟨fun hin => ⟨by omega, ?_⟩, fun hin => ?_⟩
      · rw [if_pos (by omega)] at hsn
        have eb : IntKind.i64.wrap (((s.getD (7 * k + j) 0).toNat : Nat) : Int) = ((s.getD (7 * k + j) 0).toNat : Int) := w64 (by omega) (by omega)
        rw [eb, w64 (by omega) (by omega)]
        simp only [go_sem, Nat.reduceEqDiff, Nat.reduceLT, Nat.reduceAdd, Nat.reduceSub, Nat.reduceLeDiff, List.reduceReplicate, Int.reduceToNat]
        refine back2 (j + 1) (by omega) ?_ rfl (by omega)
        rw [hsn]
        rfl
      · rw [if_neg (by omega)] at hsn
        simp only [go_sem, Nat.reduceEqDiff, Nat.reduceLT, Nat.reduceAdd, Nat.reduceSub, Nat.reduceLeDiff, List.reduceReplicate, Int.reduceToNat]
        refine back2 (j + 1) (by omega) ?_ rfl (by omega)
        rw [hsn]
        rfl
    · obtain rfl : j = 7 := by omega
      have hfull : (padB (pieceN s k)).take 7 = padB (pieceN s k) := take_len _ (by omega)
      have hkn : k < nPieces s := by omega
      have hnx : (keyW s).take (k + 1) = (keyW s).take k ++ [((pv (padB (pieceN s k)) : Nat) : Int)] := by
        rw [take_next _ k 0 (by omega), getD_words s hkn, pw_pad]
      rw [hfull, ← hnx]
      have htl1 : ((keyW s).take (k + 1)).length = k + 1 := by rw [List.length_take]; omega
      rw [htl, htl1]
      exact ⟨⟨rfl, by unfold roomy; omega⟩, back (k + 1) (by omega) rfl rfl (by omega)⟩
  · obtain rfl : k = nPieces s := by omega
    refine post_val ?_ rfl
    simp only [go_sem, Nat.reduceEqDiff, Nat.reduceLT, Nat.reduceAdd, Nat.reduceSub, Nat.reduceLeDiff, List.reduceReplicate, Int.reduceToNat]
    rw [take_len (keyW s) (by omega), take_len (keyW s) (by omega)]
theorem textS_len {l : List Int} {n : Nat} (h : n ≤ 7 * l.length) : (textS l n).length = n := by
  unfold textS
  rw [List.length_map, List.length_take, flatI_len, Int.toNat_natCast]; omega
theorem text_ref {l : List Int} {n : Nat} (h : n ≤ 7 * l.length) (h63 : n < 9223372036854775808) : textB l n = true ↔ keyW (textS l n) = l := by
  have hlen := textS_len h
  constructor
  · intro hB
    have := text_only (s := textS l n) (l := l) (by omega) (by rw [hlen]; exact hB)
    rw [hlen] at this
    exact (this.1 rfl).symm
  · intro e
    have := (text_words (textS l n) (by omega)).1
    rw [hlen, e] at this; exact this
def lowB (w : Int) : Nat → List Int
  | 0 => []
  | j + 1 => byteI w (6 - j) :: lowB w j
theorem lowB_len (w : Int) : ∀ j, (lowB w j).length = j
  | 0 => rfl
  | j + 1 => by rw [lowB, List.length_cons, lowB_len w j]
theorem lowB_seven (w : Int) : lowB w 7 = sevenI w := rfl
def lamplighterref02_Text.C : Contract
  | [.sl _ (.ints .i64 l), .int .i64 n] => some (false, pD (l.length ≤ 100 ∧ i64s l ∧ n < 9223372036854775808) (textV l n))
  | _ => none
set_option maxRecDepth 20000 in
theorem lamplighterref02_Text.spec : FSpec Try.prog 96 lamplighterref02_Text.C := by
  refine FSpec.of (ctx_ok (F := [(124, lamplighterref02_Words.C), (20, lamplighterref02_Numbers.C)]) (S := []) (by simpa using ⟨lamplighterref02_Words.spec, lamplighterref02_Numbers.spec⟩) (by simp) lamplighterref02_Text.loops) lamplighterref02_Text.at lamplighterref02_Text.nm lamplighterref02_Text.bd ?_
  intro vs b S v news e hS
  unfold lamplighterref02_Text.C at e
  split at e
  rotate_left
  · cases e
  cases e
  rw [lamplighterref02_Text.eq]
  unfold lamplighterref02_Text.H
  simp (maxSteps := 4000000) only [go_sem, Nat.reduceEqDiff, Nat.reduceLT, Nat.reduceAdd, Nat.reduceSub, Nat.reduceLeDiff, List.reduceReplicate, Int.reduceToNat, lamplighterref02_Words.C, lamplighterref02_Numbers.C]
  rename_i l n
  obtain ⟨hl, hi, hn63⟩ := hS
  have e7 : IntKind.i64.wrap (7 * (l.length : Int)) = 7 * (l.length : Int) := w64 (by omega) (by omega)
  rw [e7]
  refine ⟨fun h => text_bad ?_ _, fun h => ?_⟩
  · simp only [Bool.or_eq_true, decide_eq_true_eq] at h
    rw [Bool.eq_false_iff]
    intro hB
    have hp := textB_parts hB
    obtain ⟨N, rfl⟩ := Int.eq_ofNat_of_zero_le hp.1
    have h2 := hp.2.1
    rw [lenT_nat N (by omega)] at h2
    omega
  · simp only [Bool.or_eq_false_iff, decide_eq_false_iff_not] at h
    obtain ⟨N, rfl⟩ := Int.eq_ofNat_of_zero_le (show 0 ≤ n by omega)
    have hN : N ≤ 7 * l.length := by omega
    rw [joinW_eq]
    unfold lamplighterref02_Text.L1
    refine loop2 (σ := Nat) (fun k => .sref false 0 k 0 (7 * k)) (fun k => .int .i64 k) (fun k => [.row .own k (.ints .u8 (flatI (l.take k)))]) (fun k => l.length - k) (fun k => k ≤ l.length ∧ ∀ x ∈ l.take k, 0 ≤ x) 0 rfl rfl ⟨Nat.zero_le _, fun x hx => by cases hx⟩ ?_
    rintro I back k ⟨hk, hall⟩
    have hfl : (flatI (l.take k)).length = 7 * k := by rw [flatI_len, List.length_take, Nat.min_eq_left hk]
    simp only [hfl, go_sem, Nat.reduceEqDiff, Nat.reduceLT, Nat.reduceAdd, Nat.reduceSub, Nat.reduceLeDiff, List.reduceReplicate, Int.reduceToNat]
    refine ⟨fun hlt => ?_, fun hge => ?_⟩
    · have hkl : k < l.length := by omega
      rw [joinW_eq]
      refine ⟨by omega, fun hneg => text_bad ?_ _, fun hpos => ⟨by omega, ?_⟩⟩
      · rw [Bool.eq_false_iff]
        intro hB
        have := List.all_eq_true.1 (textB_parts hB).2.2.1 _ (getD_mem l k 0 hkl)
        simp only [wMay, Bool.and_eq_true, decide_eq_true_eq] at this
        omega
      · rw [joinW_eq]
        unfold lamplighterref02_Text.L2
        have hw0 : 0 ≤ l.getD k 0 := by omega
        have hw1 : l.getD k 0 < 9223372036854775808 := hi _ (getD_mem l k 0 hkl)
        refine loop3 (σ := Nat) (fun j => .sl false (.ints .u8 (lowB (l.getD k 0) j))) (fun j => .int .i64 (l.getD k 0 / 256 ^ j)) (fun j => .int .i64 j) (fun j => [.row .own k (.ints .u8 (flatI (l.take k)))]) (fun j => 7 - j) (fun j => j ≤ 7) 0 (by simp [lowB]) rfl (Nat.zero_le _) ?_
        intro I2 back2 j hj
        have hll := lowB_len (l.getD k 0) j
        simp only [hll, hfl, go_sem, Nat.reduceEqDiff, Nat.reduceLT, Nat.reduceAdd, Nat.reduceSub, Nat.reduceLeDiff, List.reduceReplicate, Int.reduceToNat]
        have hp : (0 : Int) < 256 ^ j := Int.pow_pos (by decide)
        have hd0 : 0 ≤ l.getD k 0 / 256 ^ j := Int.ediv_nonneg hw0 (by omega)
        have hd1 : l.getD k 0 / 256 ^ j ≤ l.getD k 0 := Int.ediv_le_self _ hw0
        refine ⟨fun hlt2 => ⟨by decide, by unfold roomy; omega, by decide, back2 (j + 1) (by omega) ?_ rfl (by omega)⟩, fun hge2 => ?_⟩
        · have hb : IntKind.u8.wrap ((l.getD k 0 / 256 ^ j).tmod 256) = byteI (l.getD k 0) (6 - j) := by
            unfold byteI
            rw [show 8 * (6 - (6 - j)) = 8 * j from by omega, Int.fdiv_eq_ediv_of_nonneg _ (by exact Int.le_of_lt (Int.pow_pos (by decide))), show (2 : Int) ^ (8 * j) = 256 ^ j from by rw [Int.pow_mul]; rfl, Int.tmod_eq_emod_of_nonneg hd0]
            simp [IntKind.wrap, IntKind.bits, IntKind.signed]
          have hq : IntKind.i64.wrap ((l.getD k 0 / 256 ^ j).tdiv 256) = l.getD k 0 / 256 ^ (j + 1) := by
            rw [Int.tdiv_eq_ediv_of_nonneg hd0, Int.pow_succ, ← Int.ediv_ediv_of_nonneg (by omega)]
            generalize l.getD k 0 / 256 ^ j = z at *
            exact w64 (by omega) (by omega)
          rw [hb, hq, wnext (by omega), take_len (lowB (l.getD k 0) j) (by omega)]
          rfl
        · obtain rfl : j = 7 := by omega
          have hnx : flatI (l.take k) ++ lowB (l.getD k 0) 7 = flatI (l.take (k + 1)) := by
            rw [take_next l k 0 hkl, lowB_seven]; simp [flatI]
          have hfl1 : (flatI (l.take (k + 1))).length = 7 * (k + 1) := by rw [flatI_len, List.length_take, Nat.min_eq_left (by omega)]
          rw [hnx, hfl1]
          refine ⟨by unfold roomy; omega, back (k + 1) (by omega) (by rw [wnext (by omega)]) rfl ⟨by omega, fun x hx => ?_⟩⟩
          rw [take_next l k 0 hkl] at hx
          rcases List.mem_append.1 hx with hx | hx
          · exact hall x hx
          · rw [List.mem_singleton] at hx; subst hx; exact hw0
    · obtain rfl : k = l.length := by omega
      rw [List.take_length] at *
      have hT : (List.map (fun n => UInt8.ofNat n.toNat) (List.take N (flatI l)) : Bytes) = textS l N := rfl
      have htr := text_ref (l := l) (n := N) hN (by omega)
      have hsl := textS_len hN
      rw [hT]
      have hkw : (keyW (textS l N)).length = nPieces (textS l N) := keyW_len _
      have hnp : nPieces (textS l N) = (N + 6) / 7 := by unfold nPieces; rw [hsl]
      have hrk : roomy (keyW (textS l N)).length := by unfold roomy; omega
      simp only [lamplighterref02_Words.C, lamplighterref02_Numbers.C, joinW_eq, guard_tt, guard_tf, guard_ft, guard_ff, Int.reduceEq, Int.reduceLT, Int.reduceLE, decide_false, decide_true, Bool.not_false, Bool.not_true, Bool.not_not, not_true_eq_false, not_false_eq_true, true_implies, false_implies, implies_true, and_true, true_and, reduceCtorEq, Bool.and_self, Bool.or_self, Bool.and_true, Bool.true_and, Bool.false_eq_true, if_true, if_false, go_sem, Nat.reduceEqDiff, Nat.reduceLT, Nat.reduceAdd, Nat.reduceSub, Nat.reduceLeDiff, List.reduceReplicate, Int.reduceToNat]
      refine ⟨by omega, by omega, hrk, fun h => text_bad ?_ _, fun h => ?_⟩
      · rw [Bool.eq_false_iff]; intro hB; exact h (htr.1 hB)
      · unfold textV
        rw [htr.2 h]
        exact post_val rfl rfl
end Lam
namespace Lam
open Go Go.Proofs
set_option linter.unusedVariables false
def lamplighterref03_Of.loops : Nat → LInfo
  | 3 => ⟨[3, 4], [false, false], [0], [], [], []⟩
  | _ => ⟨[], [], [], [], [], []⟩
def lamplighterref03_Of.L1 (c : Ctx) (J1 : AV → List AObj → Prop) (K : AOut → List AObj → Prop) (lv : List AV) (h0 : List AObj) (n0 : Nat) (c0 : AV) : Prop :=
  ∃ I : Nat → List AV → List AObj → Prop, (∃ n, I n lv h0) ∧ ∀ n h, ∀ t3, ∀ t4, I n [t3, t4] h →
    runD (lenD T_sl_int h c0) h fun t7 h =>
    runD (binD T_int .lss t4 t7) h fun t8 h =>
    condW t8
    (runD (indexAddrD T_sl_int h c0 t4) h fun t14 h =>
    runD (fitD T_int (loadD h t14)) h fun t15 h =>
    callW false c (.fn (.func 144) [] []) [t3, t15] h (fun t16 h =>
    runD (binD T_int .add t4 (.int .i64 1)) h fun t10 h =>
    (∃ m, m < n ∧ I m (AV.norms n0 h [t16, t10]) (normH n0 h)) ∧ AV.norms n0 h [c0] = [c0])
    (fun v h => K (.pan v) h))
    (J1 t3 h)
def lamplighterref03_Of.H (c : Ctx) (t0 : AV) (h : List AObj) (K : AOut → List AObj → Prop) : Prop :=
  joinW (fun (J1 : AV → List AObj → Prop) =>
  promV [false, false] [(.int .u32 4294967295), (.int .i64 0)] h fun lv h => lamplighterref03_Of.L1 c J1 K (AV.norms h.length h lv) (normH h.length h) h.length (AV.norm h.length h t0))
  (fun t3 h => runD (binD T_uint32 .sub (.int .u32 4294967295) t3) h fun t18 h =>
  runD (convD h T_uint32 T_int t18) h fun t19 h =>
  K (.ret t19) h)
def lamplighterref03_Word.loops : Nat → LInfo
  | 4 => ⟨[5, 6, 7], [false, false, false], [0], [], [], []⟩
  | 9 => ⟨[0, 8], [false, false], [6], [], [], []⟩
  | _ => ⟨[], [], [], [], [], []⟩
def lamplighterref03_Word.L1 (c : Ctx) (J1 : AV → AV → List AObj → Prop) (K : AOut → List AObj → Prop) (lv : List AV) (h0 : List AObj) (n0 : Nat) (c0 : AV) : Prop :=
  ∃ I : Nat → List AV → List AObj → Prop, (∃ n, I n lv h0) ∧ ∀ n h, ∀ t5, ∀ t6, ∀ t7, I n [t5, t6, t7] h →
    runD (binD T_int .lss t7 (.int .i64 8)) h fun t12 h =>
    condW t12
    (runD (binD T_uint64 .rem t5 (.int .u64 256)) h fun t16 h =>
    runD (convD h T_uint64 T_uint8 t16) h fun t17 h =>
    runD (buildSliceD T_sl_uint8 1 [(0, t17)] h.length) h fun t18 h =>
    runDM (appendD T_sl_uint8 h t18 t6 h.length) (appendH T_sl_uint8 h t18 t6) h fun t20 h =>
    runD (binD T_uint64 .quo t5 (.int .u64 256)) h fun t22 h =>
    runD (binD T_int .add t7 (.int .i64 1)) h fun t14 h =>
    (∃ m, m < n ∧ I m (AV.norms n0 h [t22, t20, t14]) (normH n0 h)) ∧ AV.norms n0 h [c0] = [c0])
    (J1 c0 t6 h)
def lamplighterref03_Word.L2 (c : Ctx) (J2 : AV → List AObj → Prop) (K : AOut → List AObj → Prop) (lv : List AV) (h0 : List AObj) (n0 : Nat) (c6 : AV) : Prop :=
  ∃ I : Nat → List AV → List AObj → Prop, (∃ n, I n lv h0) ∧ ∀ n h, ∀ t0, ∀ t8, I n [t0, t8] h →
    runD (binD T_int .lss t8 (.int .i64 8)) h fun t24 h =>
    condW t24
    (runD (indexAddrD T_sl_uint8 h c6 t8) h fun t30 h =>
    runD (fitD T_uint8 (loadD h t30)) h fun t31 h =>
    callW false c (.fn (.func 151) [] []) [t0, t31] h (fun t32 h =>
    runD (binD T_int .add t8 (.int .i64 1)) h fun t26 h =>
    (∃ m, m < n ∧ I m (AV.norms n0 h [t32, t26]) (normH n0 h)) ∧ AV.norms n0 h [c6] = [c6])
    (fun v h => K (.pan v) h))
    (J2 t0 h)
def lamplighterref03_Word.H (c : Ctx) (t0 : AV) (t1 : AV) (h : List AObj) (K : AOut → List AObj → Prop) : Prop :=
  runD (convD h T_int T_uint64 t1) h fun t10 h =>
  joinW (fun (J1 : AV → AV → List AObj → Prop) =>
  promV [false, false, false] [t10, (.sl true (.ints .u8 [])), (.int .i64 0)] h fun lv h => lamplighterref03_Word.L1 c J1 K (AV.norms h.length h lv) (normH h.length h) h.length (AV.norm h.length h t0))
  (fun t0 t6 h => joinW (fun (J2 : AV → List AObj → Prop) =>
  promV [false, false] [t0, (.int .i64 0)] h fun lv h => lamplighterref03_Word.L2 c J2 K (AV.norms h.length h lv) (normH h.length h) h.length (AV.norm h.length h t6))
  (fun t0 h => K (.ret t0) h))
def lamplighterref03_Byte.loops : Nat → LInfo
  | 3 => ⟨[0, 5], [false, false], [], [], [], []⟩
  | _ => ⟨[], [], [], [], [], []⟩
def lamplighterref03_Byte.L1 (c : Ctx) (J1 : AV → List AObj → Prop) (K : AOut → List AObj → Prop) (lv : List AV) (h0 : List AObj) (n0 : Nat) : Prop :=
  ∃ I : Nat → List AV → List AObj → Prop, (∃ n, I n lv h0) ∧ ∀ n h, ∀ t0, ∀ t5, I n [t0, t5] h →
    runD (binD T_int .lss t5 (.int .i64 8)) h fun t11 h =>
    condW t11
    (callW false c (.fn (.func 155) [] []) [t0] h (fun t15 h =>
    runD (binD T_int .add t5 (.int .i64 1)) h fun t13 h =>
    (∃ m, m < n ∧ I m (AV.norms n0 h [t15, t13]) (normH n0 h)) ∧ AV.norms n0 h [] = [])
    (fun v h => K (.pan v) h))
    (J1 t0 h)
def lamplighterref03_Byte.H (c : Ctx) (t0 : AV) (t1 : AV) (h : List AObj) (K : AOut → List AObj → Prop) : Prop :=
  runD (convD h T_uint8 T_uint32 t1) h fun t8 h =>
  callW false c (.fn (.func 154) [] []) [t0, t8] h (fun t9 h =>
  joinW (fun (J1 : AV → List AObj → Prop) =>
  promV [false, false] [t9, (.int .i64 0)] h fun lv h => lamplighterref03_Byte.L1 c J1 K (AV.norms h.length h lv) (normH h.length h) h.length)
  (fun t0 h => K (.ret t0) h))
  (fun v h => K (.pan v) h)
def lamplighterref03_turn.loops : Nat → LInfo
  | _ => ⟨[], [], [], [], [], []⟩
def lamplighterref03_turn.H (c : Ctx) (t0 : AV) (t1 : AV) (h : List AObj) (K : AOut → List AObj → Prop) : Prop :=
  runD (binD T_uint32 .or t0 t1) h fun t7 h =>
  runD (binD T_uint32 .and t0 t1) h fun t10 h =>
  runD (binD T_uint32 .sub t7 t10) h fun t11 h =>
  K (.ret t11) h
def lamplighterref03_move.loops : Nat → LInfo
  | _ => ⟨[], [], [], [], [], []⟩
def lamplighterref03_move.H (c : Ctx) (t0 : AV) (h : List AObj) (K : AOut → List AObj → Prop) : Prop :=
  runD (binD T_uint32 .rem t0 (.int .u32 2)) h fun t4 h =>
  runD (binD T_uint32 .eql t4 (.int .u32 1)) h fun t5 h =>
  condW t5
  (runD (binD T_uint32 .quo t0 (.int .u32 2)) h fun t7 h =>
    callW false c (.fn (.func 154) [] []) [t7, (.int .u32 3988292384)] h (fun t8 h =>
    K (.ret t8) h)
    (fun v h => K (.pan v) h))
  (runD (binD T_uint32 .quo t0 (.int .u32 2)) h fun t10 h =>
  K (.ret t10) h)
theorem lamplighterref03_Of.eq (F : List (FuncId × Contract)) (S : List (FuncId × Con)) (t0 : AV) (h : List AObj) (K : AOut → List AObj → Prop) : funW (ctx F S lamplighterref03_Of.loops) Try.f127 [t0] h K = lamplighterref03_Of.H (ctx F S lamplighterref03_Of.loops) t0 h K := by kernel_rfl
theorem lamplighterref03_Word.eq (F : List (FuncId × Contract)) (S : List (FuncId × Con)) (t0 t1 : AV) (h : List AObj) (K : AOut → List AObj → Prop) : funW (ctx F S lamplighterref03_Word.loops) Try.f144 [t0, t1] h K = lamplighterref03_Word.H (ctx F S lamplighterref03_Word.loops) t0 t1 h K := by kernel_rfl
theorem lamplighterref03_Byte.eq (F : List (FuncId × Contract)) (S : List (FuncId × Con)) (t0 t1 : AV) (h : List AObj) (K : AOut → List AObj → Prop) : funW (ctx F S lamplighterref03_Byte.loops) Try.f151 [t0, t1] h K = lamplighterref03_Byte.H (ctx F S lamplighterref03_Byte.loops) t0 t1 h K := by kernel_rfl
theorem lamplighterref03_turn.eq (F : List (FuncId × Contract)) (S : List (FuncId × Con)) (t0 t1 : AV) (h : List AObj) (K : AOut → List AObj → Prop) : funW (ctx F S lamplighterref03_turn.loops) Try.f154 [t0, t1] h K = lamplighterref03_turn.H (ctx F S lamplighterref03_turn.loops) t0 t1 h K := by kernel_rfl
theorem lamplighterref03_move.eq (F : List (FuncId × Contract)) (S : List (FuncId × Con)) (t0 : AV) (h : List AObj) (K : AOut → List AObj → Prop) : funW (ctx F S lamplighterref03_move.loops) Try.f155 [t0] h K = lamplighterref03_move.H (ctx F S lamplighterref03_move.loops) t0 h K := by kernel_rfl
theorem lamplighterref03_Of.at : Try.prog.funcs[127]? = some Try.f127 := by kernel_rfl
theorem lamplighterref03_Of.nm : (Try.f127.name == "runtime.NumGoroutine") = false := by kernel_rfl
theorem lamplighterref03_Of.bd : Try.f127.body.isNone = false := by kernel_rfl
theorem lamplighterref03_Word.at : Try.prog.funcs[144]? = some Try.f144 := by kernel_rfl
theorem lamplighterref03_Word.nm : (Try.f144.name == "runtime.NumGoroutine") = false := by kernel_rfl
theorem lamplighterref03_Word.bd : Try.f144.body.isNone = false := by kernel_rfl
theorem lamplighterref03_Byte.at : Try.prog.funcs[151]? = some Try.f151 := by kernel_rfl
theorem lamplighterref03_Byte.nm : (Try.f151.name == "runtime.NumGoroutine") = false := by kernel_rfl
theorem lamplighterref03_Byte.bd : Try.f151.body.isNone = false := by kernel_rfl
theorem lamplighterref03_turn.at : Try.prog.funcs[154]? = some Try.f154 := by kernel_rfl
theorem lamplighterref03_turn.nm : (Try.f154.name == "runtime.NumGoroutine") = false := by kernel_rfl
theorem lamplighterref03_turn.bd : Try.f154.body.isNone = false := by kernel_rfl
theorem lamplighterref03_move.at : Try.prog.funcs[155]? = some Try.f155 := by kernel_rfl
theorem lamplighterref03_move.nm : (Try.f155.name == "runtime.NumGoroutine") = false := by kernel_rfl
theorem lamplighterref03_move.bd : Try.f155.body.isNone = false := by kernel_rfl
end Lam
namespace Lam
open Go Go.Proofs
set_option linter.unusedVariables false
set_option linter.unnecessarySimpa false
set_option linter.unusedSimpArgs false
def U32 (c : Int) : Prop := 0 ≤ c ∧ c < 4294967296
def lamplighterref03_turn.C : Contract
  | [.int .u32 a, .int .u32 b] => some (false, pD (U32 a ∧ U32 b) (.int .u32 (xor32 a b)))
  | _ => none
set_option maxRecDepth 20000 in
theorem lamplighterref03_turn.spec : FSpec Try.prog 154 lamplighterref03_turn.C := by
  refine FSpec.of (ctx_ok (F := []) (S := []) (by simp) (by simp) lamplighterref03_turn.loops) lamplighterref03_turn.at lamplighterref03_turn.nm lamplighterref03_turn.bd ?_
  intro vs b S v news e hS
  unfold lamplighterref03_turn.C at e
  split at e
  rotate_left
  · cases e
  cases e
  rw [lamplighterref03_turn.eq]
  unfold lamplighterref03_turn.H
  simp (maxSteps := 4000000) only [go_sem, Nat.reduceEqDiff, Nat.reduceLT, Nat.reduceAdd, Nat.reduceSub, Nat.reduceLeDiff, List.reduceReplicate, Int.reduceToNat]
  rename_i a b
  rw [turn_eq hS.1.1 hS.1.2 hS.2.1 hS.2.2]
  exact post_val rfl rfl
def lamplighterref03_move.C : Contract
  | [.int .u32 a] => some (false, pD (U32 a) (.int .u32 (bitS a)))
  | _ => none
set_option maxRecDepth 20000 in
theorem lamplighterref03_move.spec : FSpec Try.prog 155 lamplighterref03_move.C := by
  refine FSpec.of (ctx_ok (F := [(154, lamplighterref03_turn.C)]) (S := []) (by simpa using lamplighterref03_turn.spec) (by simp) lamplighterref03_move.loops) lamplighterref03_move.at lamplighterref03_move.nm lamplighterref03_move.bd ?_
  intro vs b S v news e hS
  unfold lamplighterref03_move.C at e
  split at e
  rotate_left
  · cases e
  cases e
  rw [lamplighterref03_move.eq]
  unfold lamplighterref03_move.H
  simp (maxSteps := 4000000) only [go_sem, Nat.reduceEqDiff, Nat.reduceLT, Nat.reduceAdd, Nat.reduceSub, Nat.reduceLeDiff, List.reduceReplicate, Int.reduceToNat, lamplighterref03_turn.C]
  rename_i a
  have h := bitS_move hS.1 hS.2
  have hr : U32 (IntKind.u32.wrap (a.tdiv 2)) := u32_range _
  refine ⟨by decide, fun e => ⟨by decide, ⟨hr, by unfold U32; omega⟩, ?_⟩, fun e => ⟨by decide, ?_⟩⟩
  · rw [h, if_pos e]; exact post_val rfl rfl
  · rw [h, if_neg e]; exact post_val rfl rfl
def lamplighterref03_Byte.C : Contract
  | [.int .u32 c, .int .u8 b] => some (false, pD (U32 c ∧ 0 ≤ b ∧ b < 256) (.int .u32 (withS tabL c b)))
  | _ => none
set_option maxRecDepth 20000 in
theorem lamplighterref03_Byte.spec : FSpec Try.prog 151 lamplighterref03_Byte.C := by
  refine FSpec.of (ctx_ok (F := [(154, lamplighterref03_turn.C), (155, lamplighterref03_move.C)]) (S := []) (by simpa using ⟨lamplighterref03_turn.spec, lamplighterref03_move.spec⟩) (by simp) lamplighterref03_Byte.loops) lamplighterref03_Byte.at lamplighterref03_Byte.nm lamplighterref03_Byte.bd ?_
  intro vs b S v news e hS
  unfold lamplighterref03_Byte.C at e
  split at e
  rotate_left
  · cases e
  cases e
  rw [lamplighterref03_Byte.eq]
  unfold lamplighterref03_Byte.H
  simp (maxSteps := 4000000) only [go_sem, Nat.reduceEqDiff, Nat.reduceLT, Nat.reduceAdd, Nat.reduceSub, Nat.reduceLeDiff, List.reduceReplicate, Int.reduceToNat, lamplighterref03_turn.C, lamplighterref03_move.C]
  rename_i c b
  obtain ⟨hc, hb0, hb1⟩ := hS
  have eb : IntKind.u32.wrap b = b := wrap32 hb0 (by omega)
  rw [eb]
  refine ⟨⟨hc, by unfold U32; omega⟩, ?_⟩
  rw [joinW_eq]
  unfold lamplighterref03_Byte.L1
  refine loop2 (σ := Nat) (fun k => .int .u32 (bitN k (xor32 c b))) (fun k => .int .i64 k) (fun k => []) (fun k => 8 - k) (fun k => k ≤ 8) 0 rfl rfl (Nat.zero_le _) ?_
  intro I back k hk
  have hx : U32 (xor32 c b) := xor32_range
  simp only [lamplighterref03_move.C, go_sem, Nat.reduceEqDiff, Nat.reduceLT, Nat.reduceAdd, Nat.reduceSub, Nat.reduceLeDiff, List.reduceReplicate, Int.reduceToNat]
  refine ⟨fun hlt => ⟨bitN_range hx.1 hx.2 k, back (k + 1) (by omega) (by rw [wnext (by omega)]; rfl) rfl (by omega)⟩, fun hge => ?_⟩
  obtain rfl : k = 8 := by omega
  rw [byte_eq hc.1 hc.2 hb0 hb1]
  exact post_val rfl rfl
def bytesLo (w : Int) : Nat → List Int
  | 0 => []
  | k + 1 => byteAt w (7 - k) :: bytesLo w k
theorem bytesLo_len (w : Int) : ∀ k, (bytesLo w k).length = k
  | 0 => rfl
  | k + 1 => by rw [bytesLo, List.length_cons, bytesLo_len w k]
theorem bytesLo_get (w : Int) (j : Nat) (h : j < 8) : (bytesLo w 8).getD j 0 = byteAt w j := by
  rcases j with _|_|_|_|_|_|_|_|j <;> first | rfl | omega
def lamplighterref03_Word.C : Contract
  | [.int .u32 c, .int .i64 w] => some (false, pD (U32 c) (.int .u32 (wordS tabL c w)))
  | _ => none
set_option maxRecDepth 20000 in
theorem lamplighterref03_Word.spec : FSpec Try.prog 144 lamplighterref03_Word.C := by
  refine FSpec.of (ctx_ok (F := [(151, lamplighterref03_Byte.C)]) (S := []) (by simpa using lamplighterref03_Byte.spec) (by simp) lamplighterref03_Word.loops) lamplighterref03_Word.at lamplighterref03_Word.nm lamplighterref03_Word.bd ?_
  intro vs b S v news e hS
  unfold lamplighterref03_Word.C at e
  split at e
  rotate_left
  · cases e
  cases e
  rw [lamplighterref03_Word.eq]
  unfold lamplighterref03_Word.H
  simp (maxSteps := 4000000) only [go_sem, Nat.reduceEqDiff, Nat.reduceLT, Nat.reduceAdd, Nat.reduceSub, Nat.reduceLeDiff, List.reduceReplicate, Int.reduceToNat, lamplighterref03_Byte.C]
  rename_i c w
  rw [joinW_eq]
  unfold lamplighterref03_Word.L1
  refine loop3 (σ := Nat) (fun k => .int .u64 ((IntKind.u64.wrap w) / 256 ^ k)) (fun k => .sl false (.ints .u8 (bytesLo w k))) (fun k => .int .i64 k) (fun k => []) (fun k => 8 - k) (fun k => k ≤ 8) 0 (by simp [bytesLo]) rfl (Nat.zero_le _) ?_
  rintro I back k hk
  simp only [go_sem, Nat.reduceEqDiff, Nat.reduceLT, Nat.reduceAdd, Nat.reduceSub, Nat.reduceLeDiff, List.reduceReplicate, Int.reduceToNat]
  have hU := u64_range w
  have hlo := bytesLo_len w k
  rw [hlo]
  refine ⟨fun hlt => ⟨by decide, by unfold roomy; omega, by decide, ?_⟩, fun hge => ?_⟩
  · refine back (k + 1) (by omega) ?_ rfl (by omega)
    have hp : (0 : Int) < 256 ^ k := Int.pow_pos (by decide)
    have hd0 : 0 ≤ IntKind.u64.wrap w / 256 ^ k := Int.ediv_nonneg hU.1 (by omega)
    have hd1 : IntKind.u64.wrap w / 256 ^ k ≤ IntKind.u64.wrap w := Int.ediv_le_self _ hU.1
    have hb : IntKind.u8.wrap ((IntKind.u64.wrap w / 256 ^ k).tmod 256) = byteAt w (7 - k) := by
      unfold byteAt
      have e1 : (Int.toNat (56 - 8 * ((7 - k : Nat) : Int))) = 8 * k := by omega
      rw [e1, Nat.min_eq_left (by omega), Int.fdiv_eq_ediv_of_nonneg _ (by exact Int.le_of_lt (Int.pow_pos (by decide))), show (2 : Int) ^ (8 * k) = 256 ^ k from by rw [Int.pow_mul]; rfl, Int.tmod_eq_emod_of_nonneg hd0]
      simp [IntKind.wrap, IntKind.bits, IntKind.signed]
    have hq : IntKind.u64.wrap ((IntKind.u64.wrap w / 256 ^ k).tdiv 256) = IntKind.u64.wrap w / 256 ^ (k + 1) := by
      rw [Int.tdiv_eq_ediv_of_nonneg hd0, Int.pow_succ, ← Int.ediv_ediv_of_nonneg (by omega)]
      generalize IntKind.u64.wrap w / 256 ^ k = z at *
      simp [IntKind.wrap, IntKind.bits, IntKind.signed]; omega
    rw [hb, hq, wnext (by omega)]
    rfl
  obtain rfl : k = 8 := by omega
  rw [joinW_eq]
  unfold lamplighterref03_Word.L2
  refine loop2 (σ := Nat) (fun k => .int .u32 (wordN tabL w k c)) (fun k => .int .i64 k) (fun k => []) (fun k => 8 - k) (fun k => k ≤ 8) 0 rfl rfl (Nat.zero_le _) ?_
  intro I2 back2 j hj
  have hr := wordN_range (t := tabL) (w := w) hS.1 hS.2 j
  have hbr := byteAt_range (w := w) (k := j)
  simp only [lamplighterref03_Byte.C, hlo, go_sem, Nat.reduceEqDiff, Nat.reduceLT, Nat.reduceAdd, Nat.reduceSub, Nat.reduceLeDiff, List.reduceReplicate, Int.reduceToNat]
  refine ⟨fun hlt => ⟨by omega, ?_⟩, fun hge => ?_⟩
  · have hg : (bytesLo w 8).getD j 0 = byteAt w j := bytesLo_get w j (by omega)
    rw [hg]
    exact ⟨⟨hr, hbr⟩, back2 (j + 1) (by omega) (by rw [wnext (by omega)]; rfl) rfl (by omega)⟩
  · obtain rfl : j = 8 := by omega
    exact post_val rfl rfl
def lamplighterref03_Of.C : Contract
  | [.sl _ (.ints .i64 l)] => some (false, pD (roomy l.length) (.int .i64 (sumOf l)))
  | _ => none
set_option maxRecDepth 20000 in
theorem lamplighterref03_Of.spec : FSpec Try.prog 127 lamplighterref03_Of.C := by
  refine FSpec.of (ctx_ok (F := [(144, lamplighterref03_Word.C)]) (S := []) (by simpa using lamplighterref03_Word.spec) (by simp) lamplighterref03_Of.loops) lamplighterref03_Of.at lamplighterref03_Of.nm lamplighterref03_Of.bd ?_
  intro vs b S v news e hS
  unfold lamplighterref03_Of.C at e
  split at e
  rotate_left
  · cases e
  cases e
  rw [lamplighterref03_Of.eq]
  unfold lamplighterref03_Of.H
  simp (maxSteps := 4000000) only [go_sem, Nat.reduceEqDiff, Nat.reduceLT, Nat.reduceAdd, Nat.reduceSub, Nat.reduceLeDiff, List.reduceReplicate, Int.reduceToNat, lamplighterref03_Word.C]
  rename_i x l
  unfold roomy at hS
  rw [joinW_eq]
  unfold lamplighterref03_Of.L1
  refine loop2 (σ := Nat) (fun k => .int .u32 ((l.take k).foldl (wordS tabL) 4294967295)) (fun k => .int .i64 k) (fun k => []) (fun k => l.length - k) (fun k => k ≤ l.length) 0 rfl rfl (Nat.zero_le _) ?_
  intro I back k hk
  have hr := sumC_range (l.take k) 4294967295 (by decide) (by decide)
  simp only [lamplighterref03_Word.C, go_sem, Nat.reduceEqDiff, Nat.reduceLT, Nat.reduceAdd, Nat.reduceSub, Nat.reduceLeDiff, List.reduceReplicate, Int.reduceToNat]
  refine ⟨fun hlt => ⟨by omega, hr, back (k + 1) (by omega) ?_ rfl (by omega)⟩, fun hge => ?_⟩
  · rw [wnext (by omega), take_next l k 0 (by omega), List.foldl_append]; rfl
  · obtain rfl : k = l.length := by omega
    rw [List.take_length] at hr ⊢
    have : IntKind.i64.wrap (IntKind.u32.wrap (4294967295 - l.foldl (wordS tabL) 4294967295)) = sumOf l := by
      unfold sumOf sumC
      rw [notI32 hr.1 hr.2]
    rw [this]; exact post_val rfl rfl
end Lam
namespace Lam
open Go Go.Proofs
set_option linter.unusedVariables false
set_option linter.unnecessarySimpa false
set_option linter.unusedSimpArgs false
theorem rwords_ok {x : Rc} (h : recB x = true) : rwordsV x = .tup [.sl false (.ints .i64 (formR x)), .int .i64 0] := by unfold rwordsV; rw [if_pos h]
theorem rwords_no {x : Rc} (h : recB x = false) : rwordsV x = .tup [.sl false (.ints .i64 []), .int .i64 70] := by unfold rwordsV; rw [h]; rfl
end Lam
