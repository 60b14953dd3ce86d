/- What functions of the program come to, each proved from its code. -/
import Derived.Test.YtpjnljbfnppmlaaLK1
namespace Lam
open Go Go.Proofs
set_option linter.unusedVariables false
set_option linter.unnecessarySimpa false
set_option linter.unusedSimpArgs false

def byteI (w : Int) (i : Nat) : Int := IntKind.u8.wrap (w.fdiv (2 ^ (8 * (6 - i))))
def sevenI (w : Int) : List Int := (List.range 7).map (byteI w)
def flatI (l : List Int) : List Int := l.flatMap sevenI
def wMay (w : Int) : Bool := decide (0 ≤ w) && decide (w < 72057594037927936)
def lenT (n : Int) : Int := IntKind.i64.wrap (IntKind.i64.wrap (n.tdiv 7) + (if n.tmod 7 < 1 then n.tmod 7 else 1))
def textB (l : List Int) (n : Int) : Bool := !decide (n < 0) && decide ((l.length : Int) = lenT n) && l.all wMay && ((flatI l).drop n.toNat).all (fun b => decide (b = 0))
def textS (l : List Int) (n : Int) : Bytes := ((flatI l).take n.toNat).map fun b => UInt8.ofNat b.toNat
def textV (l : List Int) (n : Int) : AV := .tup [.str (if textB l n = true then textS l n else []), .int .i64 (if textB l n = true then 0 else 20)]
@[go_sem] theorem textV_noSl (l : List Int) (n : Int) : (textV l n).noSl = true := (rfl)
theorem text_bad {l : List Int} {n : Int} (hb : textB l n = false) (h : List AObj) : Post false (textV l n) [] (.ret (.tup [.str [], .int .i64 20])) h := by
  unfold textV; rw [hb]; exact post_val rfl rfl
def key_Text.C : Contract
  | [.sl _ (.ints .i64 l), .int .i64 n] => some (false, pD (roomy (7 * l.length) ∧ n < 9223372036854775808) (textV l n))
  | _ => none
theorem lenT_nat (m : Nat) (h : (m : Int) < 9223372036854775808) : lenT m = ((m + 6) / 7 : Nat) := by
  unfold lenT
  have e1 : (m : Int).tdiv 7 = ((m / 7 : Nat) : Int) := rfl
  have e2 : (m : Int).tmod 7 = ((m % 7 : Nat) : Int) := rfl
  rw [e1, e2, w64 (n := ((m / 7 : Nat) : Int)) (by omega) (by omega)]
  split
  · rw [w64 (by omega) (by omega)]; omega
  · rw [w64 (by omega) (by omega)]; omega

theorem flatI_len (l : List Int) : (flatI l).length = 7 * l.length := by
  induction l with
  | nil => rfl
  | cons w r ih => simp only [flatI, List.flatMap_cons, List.length_append, List.length_cons] at ih ⊢; rw [ih]; simp [sevenI]; omega
theorem byteI_range (w : Int) (i : Nat) : 0 ≤ byteI w i ∧ byteI w i < 256 := u8_range _

theorem key_Text_L2 (c : Ctx) (J : AV → AV → AV → AV → AV → List AObj → Prop) (K : AOut → List AObj → Prop) (n w : Int) (l pre : List Int) (v k len : Nat) (hr : pre.length + 7 ≤ 1099511627776)
    (hJ : J (.int .i64 n) (.sref false 0 (v + 7) 0 (pre.length + 7)) (.sl false (.ints .i64 l)) (.int .i64 len) (.int .i64 k) [.row .own (v + 7) (.ints .u8 (pre ++ sevenI w))]) :
    key_Text.L2 c J K [.sref false 0 v 0 pre.length, .int .i64 0] [.row .own v (.ints .u8 pre)] 1 (.int .i64 n) (.int .i64 w) (.sl false (.ints .i64 l)) (.int .i64 len) (.int .i64 k) := by
  unfold key_Text.L2
  refine ⟨fun m lv h' => ∃ j : Nat, j + m = 7 ∧ lv = [.sref false 0 (v + j) 0 (pre.length + j), .int .i64 j] ∧ h' = [.row .own (v + j) (.ints .u8 (pre ++ (List.range j).map (byteI w)))],
    ⟨7, 0, by omega, by simp, by simp⟩, ?_⟩
  rintro m h' t6 t41 ⟨j, hj, hlv, rfl⟩
  simp only [List.cons.injEq, and_true] at hlv
  obtain ⟨rfl, rfl⟩ := hlv
  have hlen : (pre ++ (List.range j).map (byteI w)).length = pre.length + j := by simp
  simp only [go_sem, Nat.reduceEqDiff, Nat.reduceLT, Nat.reduceAdd, Nat.reduceSub, Nat.reduceLeDiff, List.reduceReplicate, Int.reduceToNat, hlen]
  refine ⟨fun hlt => ?_, fun hge => ?_⟩
  · have e1 : IntKind.i64.wrap (6 - (j : Int)) = 6 - j := w64 (by omega) (by omega)
    have e2 : IntKind.i64.wrap (8 * (6 - (j : Int))) = 8 * (6 - j) := w64 (by omega) (by omega)
    have e3 : (8 * (6 - (j : Int))).toNat = 8 * (6 - j) := by omega
    have e4 : min (8 * (6 - j)) 64 = 8 * (6 - j) := by omega
    simp only [e1, e2, e3, e4]
    have hz : (List.range j).map (byteI w) ++ [IntKind.u8.wrap (w.fdiv (2 ^ (8 * (6 - j))))] = (List.range (j + 1)).map (byteI w) := by rw [List.range_succ]; simp [byteI]
    have hl2 : (pre ++ (List.range (j + 1)).map (byteI w)).length = pre.length + (j + 1) := by simp
    rw [hz, hl2, w64 (by omega) (by omega)]
    exact ⟨by omega, by unfold roomy; omega, m - 1, by omega, j + 1, by omega, rfl, rfl⟩
  · have : j = 7 := by omega
    subst this
    exact hJ

theorem key_Text.spec : FSpec Try.prog 8 key_Text.C := by
  refine FSpec.of (ctx_ok (F := []) (S := []) (by simp) (by simp) key_Text.loops) key_Text.at key_Text.nm key_Text.bd ?_
  intro vs b S v news e hS
  unfold key_Text.C at e
  split at e
  rotate_left
  · cases e
  cases e
  rw [key_Text.eq]
  unfold key_Text.H
  simp only [go_sem, Nat.reduceEqDiff, Nat.reduceLT, Nat.reduceAdd, Nat.reduceSub, Nat.reduceLeDiff, List.reduceReplicate, Int.reduceToNat]
  rename_i l n
  unfold roomy at hS
  obtain ⟨hS, hn63⟩ := hS
  refine ⟨fun _ => by decide, fun hb => text_bad ?_ _, fun hb => ?_⟩
  · have hb : (!decide (n < 0) && decide ((l.length : Int) = lenT n)) = false := by
      unfold lenT
      revert hb
      cases decide (n < 0) <;> simp
    unfold textB
    rw [hb]; rfl
  have hb1 : ¬ n < 0 := by intro h; simp [h] at hb
  have hb2 : (l.length : Int) = lenT n := by
    rw [decide_eq_false hb1, Bool.false_or, Bool.not_eq_false', decide_eq_true_eq] at hb
    exact hb
  have e7 : IntKind.i64.wrap (7 * (l.length : Int)) = ((7 * l.length : Nat) : Int) := by rw [w64 (by omega) (by omega)]; omega
  refine ⟨⟨by omega, by rw [e7]; omega, by rw [e7, Int.toNat_natCast]; exact hS⟩, ?_⟩
  rw [joinW_eq]
  unfold key_Text.L1
  refine ⟨fun m lv h' => ∃ k v : Nat, k + m = l.length ∧ lv = [.sref false 0 v 0 (7 * k), .int .i64 k] ∧ h' = [.row .own v (.ints .u8 (flatI (l.take k)))] ∧ (l.take k).all wMay = true,
    ⟨l.length, 0, 0, by omega, rfl, rfl, rfl⟩, ?_⟩
  rintro m h' t6 t31 ⟨k, v, hk, hlv, rfl, hall⟩
  simp only [List.cons.injEq, and_true] at hlv
  obtain ⟨rfl, rfl⟩ := hlv
  have hfl : (flatI (l.take k)).length = 7 * k := by rw [flatI_len, List.length_take, Nat.min_eq_left (by omega)]
  simp only [go_sem, Nat.reduceEqDiff, Nat.reduceLT, Nat.reduceAdd, Nat.reduceSub, Nat.reduceLeDiff, List.reduceReplicate, Int.reduceToNat, hfl]
  refine ⟨fun hlt => ?_, fun hge => ?_⟩
  · have hkl : k < l.length := by omega
    rw [joinW_eq]
    refine ⟨by omega, fun hbad => text_bad ?_ _, fun hok => ?_⟩
    · have : l.all wMay = false := by
        rw [List.all_eq_false]
        refine ⟨_, getD_mem l k 0 hkl, fun h => ?_⟩
        simp only [wMay, Bool.and_eq_true, decide_eq_true_eq] at h
        simp only [Bool.or_eq_true, decide_eq_true_eq] at hbad
        omega
      simp [textB, this]
    · have hw : wMay (l.getD k 0) = true := by
        simp only [Bool.or_eq_false_iff, decide_eq_false_iff_not] at hok
        simp only [wMay, Bool.and_eq_true, decide_eq_true_eq]; omega
      rw [joinW_eq]
      have hL2 := key_Text_L2 (ctx [] [] key_Text.loops)
      rw [← hfl]
      refine hL2 _ _ _ _ _ _ _ _ _ (by rw [hfl]; omega) ?_
      have hnx : flatI (l.take k) ++ sevenI (l.getD k 0) = flatI (l.take (k + 1)) := by
        rw [take_next l k 0 hkl]; simp [flatI]
      rw [hnx, hfl]
      simp only [go_sem, Nat.reduceEqDiff, Nat.reduceLT, Nat.reduceAdd, Nat.reduceSub, Nat.reduceLeDiff, List.reduceReplicate, Int.reduceToNat]
      have hmx : ¬ (False) := id
      refine ⟨m - 1, by omega, k + 1, v + 7, by omega, by rw [w64 (by omega) (by omega)]; rfl, rfl, ?_⟩
      rw [take_next l k 0 hkl, List.all_append, hall, Bool.true_and, List.all_cons, hw]
      rfl
  · have : k = l.length := by omega
    subst this
    rw [List.take_length] at *
    obtain ⟨N, rfl⟩ : ∃ N : Nat, n = N := ⟨n.toNat, by omega⟩
    have hN : (l.length : Int) = ((N + 6) / 7 : Nat) := by rw [hb2, lenT_nat N (by omega)]
    refine ⟨by omega, ?_⟩
    rw [joinW_eq, Int.toNat_natCast]
    unfold key_Text.L3
    refine ⟨fun m lv h' => ∃ j : Nat, j + m = 7 * l.length - N ∧ lv = [.int .i64 j] ∧ h' = [.row .own v (.ints .u8 (flatI l))] ∧ ∀ i, i < j → (flatI l).getD (N + i) 0 = 0,
      ⟨_, 0, Nat.zero_add _, rfl, rfl, fun i hi => by omega⟩, ?_⟩
    rintro m h' t59 ⟨j, hj, hlv, rfl, hz⟩
    simp only [List.cons.injEq, and_true] at hlv
    subst hlv
    simp only [go_sem, Nat.reduceEqDiff, Nat.reduceLT, Nat.reduceAdd, Nat.reduceSub, Nat.reduceLeDiff, List.reduceReplicate, Int.reduceToNat, hfl]
    refine ⟨fun hlt => ⟨by omega, by omega, fun h0 => text_bad ?_ _, fun h0 => ?_⟩, fun hge => ⟨by omega, ?_⟩⟩
    · have : ((flatI l).drop N).all (fun b => decide (b = 0)) = false := by
        rw [List.all_eq_false]
        have hjl : j < ((flatI l).drop N).length := by rw [List.length_drop, hfl]; omega
        have e : ((flatI l).drop N).getD j 0 = (flatI l).getD (N + j) 0 := by rw [List.getD_eq_getElem?_getD, List.getD_eq_getElem?_getD, List.getElem?_drop]
        exact ⟨_, getD_mem _ j 0 hjl, by rw [e]; simpa using h0⟩
      simp [textB, this]
    · refine ⟨m - 1, by omega, j + 1, by omega, by rw [w64 (by omega) (by omega)]; rfl, fun i hi => ?_⟩
      by_cases e : i = j
      · subst e; exact h0
      · exact hz i (by omega)
    · have hj2 : j = 7 * l.length - N := by omega
      have hzero : ((flatI l).drop N).all (fun b => decide (b = 0)) = true := by
        rw [List.all_eq_true]
        intro b hb
        obtain ⟨i, hi, rfl⟩ := List.getElem_of_mem hb
        rw [List.length_drop, hfl] at hi
        have := hz i (by omega)
        rw [List.getD_eq_getElem?_getD, List.getElem?_eq_getElem (by rw [hfl]; omega)] at this
        rw [List.getElem_drop]
        simpa using this
      have hB : textB l N = true := by
        unfold textB
        rw [hall, Int.toNat_natCast, hzero, decide_eq_false hb1, decide_eq_true hb2]; rfl
      unfold textV textS
      simp only [hB, if_true]
      exact post_val rfl rfl
end Lam
