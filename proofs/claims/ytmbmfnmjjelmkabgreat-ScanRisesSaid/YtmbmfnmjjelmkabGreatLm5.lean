/- What functions of the program come to, each proved from its code. -/
import Derived.Test.YtmbmfnmjjelmkabGreatLm4
set_option linter.unusedVariables false
set_option linter.unusedSimpArgs false
set_option linter.unnecessarySimpa false
set_option linter.unusedSectionVars false
open Nat (reduceEqDiff reduceAdd reduceSub reduceLeDiff)
open Int (reduceToNat reduceEq reduceLE reduceLT)
open List (reduceReplicate)
set_option maxRecDepth 20000
namespace Lam
open Go Go.Proofs
def eK.C : aF
  | [.int .i64 n] => some (false, pD True (.bool (szB n)))
  | _ => none
theorem eK.spec : bJ Tryz.prog 33 eK.C := by
  refine bJ.of (bU (F := []) (S := []) (by simp) (by simp) eK.loops) eK.at eK.nm eK.bd ?_
  intro vs b S v news e hS
  unfold eK.C at e
  split at e
  rotate_left
  · cases e
  cases e
  rw [eK.eq]
  unfold eK.H
  simp (maxSteps := 4000000) only [go_sem, reduceEqDiff, Nat.reduceLT, reduceAdd, reduceSub, reduceLeDiff, reduceReplicate, reduceToNat]
  exact ⟨fun _ => by decide, aJ rfl rfl⟩

def bA.C : aF
  | [.sl _ (.ints .i64 l)] => some (true, some (roomy l.length, .sref false 0 0 0 l.length, [.row .own 0 (.ints .i64 l)]))
  | _ => none
theorem bA.spec : bJ Tryz.prog 34 bA.C := by
  refine bJ.of (bU (F := []) (S := []) (by simp) (by simp) bA.loops) bA.at bA.nm bA.bd ?_
  intro vs b S v news e hS
  unfold bA.C at e
  split at e
  rotate_left
  · cases e
  cases e
  rw [bA.eq]
  unfold bA.H
  simp (maxSteps := 4000000) only [go_sem, reduceEqDiff, Nat.reduceLT, reduceAdd, reduceSub, reduceLeDiff, reduceReplicate, reduceToNat]
  rename_i l
  intro b hb
  refine ⟨fun h => ?_, fun h => ⟨hS, aBt rfl (by simp)⟩⟩
  have : l = [] := List.eq_nil_of_length_eq_zero (hb h)
  subst this
  exact aBu rfl
def bD.C : aF
  | [.sl _ (.pends l)] => some (true, some (roomy l.length, .sref false 0 0 0 l.length, [.row .own 0 (.pends l)]))
  | _ => none
theorem bD.spec : bJ Tryz.prog 155 bD.C := by
  refine bJ.of (bU (F := []) (S := []) (by simp) (by simp) bD.loops) bD.at bD.nm bD.bd ?_
  intro vs b S v news e hS
  unfold bD.C at e
  split at e
  rotate_left
  · cases e
  cases e
  rw [bD.eq]
  unfold bD.H
  simp (maxSteps := 4000000) only [go_sem, reduceEqDiff, Nat.reduceLT, reduceAdd, reduceSub, reduceLeDiff, reduceReplicate, reduceToNat]
  rename_i l
  intro b hb
  refine ⟨fun h => ?_, fun h => ⟨hS, aBt rfl (by simp)⟩⟩
  have : l = [] := List.eq_nil_of_length_eq_zero (hb h)
  subst this
  exact aBu rfl
def bE.C : aF
  | [.sl _ (.pends l)] => some (false, pD True (.sl true (.pends l)))
  | _ => none
theorem bE.spec : bJ Tryz.prog 153 bE.C := by
  refine bJ.of (bU (F := []) (S := []) (by simp) (by simp) bE.loops) bE.at bE.nm bE.bd ?_
  intro vs b S v news e hS
  unfold bE.C at e
  split at e
  rotate_left
  · cases e
  cases e
  rw [bE.eq]
  unfold bE.H
  simp (maxSteps := 4000000) only [go_sem, reduceEqDiff, Nat.reduceLT, reduceAdd, reduceSub, reduceLeDiff, reduceReplicate, reduceToNat]
  exact ⟨by omega, aJB rfl⟩
def bQ.C : aF
  | [.sl _ (.ints .i64 a), .sl _ (.ints .i64 b)] => some (false, pD (roomy a.length) (.bool (decide (a = b))))
  | _ => none
theorem bQ.spec : bJ Tryz.prog 35 bQ.C := by
  refine bJ.of (bU (F := []) (S := []) (by simp) (by simp) bQ.loops) bQ.at bQ.nm bQ.bd ?_
  intro vs b S v news e hS
  unfold bQ.C at e
  split at e
  rotate_left
  · cases e
  cases e
  rw [bQ.eq]
  unfold bQ.H
  simp (maxSteps := 4000000) only [go_sem, reduceEqDiff, Nat.reduceLT, reduceAdd, reduceSub, reduceLeDiff, reduceReplicate, reduceToNat]
  rename_i a _ b
  unfold roomy at hS
  refine ⟨fun hne => ?_, fun heq => ?_⟩
  · have : decide (a = b) = false := by rw [decide_eq_false_iff_not]; rintro rfl; exact hne rfl
    rw [this]; exact aJ rfl rfl
  rw [aB]
  unfold bQ.L1
  have hlen : a.length = b.length := by omega
  refine ⟨fun m lv h' => ∃ k : Nat, k + m = a.length ∧ lv = [.int .i64 k] ∧ h' = [] ∧ ∀ i, i < k → a.getD i 0 = b.getD i 0, ⟨a.length, 0, by omega, rfl, rfl, fun i hi => by omega⟩, ?_⟩
  rintro m h' t8 ⟨k, hk, hlv, rfl, hall⟩
  simp only [List.cons.injEq, and_true] at hlv
  subst hlv
  simp only [go_sem, reduceEqDiff, Nat.reduceLT, reduceAdd, reduceSub, reduceLeDiff, reduceReplicate, reduceToNat]
  refine ⟨fun hlt => ⟨by omega, by omega, fun h0 => ?_, fun h0 => ?_⟩, fun hge => ?_⟩
  · have : decide (a = b) = false := by rw [decide_eq_false_iff_not]; rintro rfl; exact h0 rfl
    rw [this]; exact aJ rfl rfl
  · refine ⟨m - 1, by omega, k + 1, by omega, by rw [w64 (by omega) (by omega)]; rfl, ?_⟩
    intro i hi
    by_cases e : i = k
    · subst e; exact h0
    · exact hall i (by omega)
  · have : a = b := by
      apply List.ext_getElem hlen
      intro i h1 h2
      have := hall i (by omega)
      rw [List.getD_eq_getElem?_getD, List.getD_eq_getElem?_getD, List.getElem?_eq_getElem h1, List.getElem?_eq_getElem h2] at this
      exact this
    rw [decide_eq_true this]; exact aJ rfl rfl

def dG.C : aF
  | [.agg [.sl false (.ints .i64 vol), .sl false (.ints .i64 per), .sl false (.pends pend)]] => some (false, pD (kY vol per pend) (.bool (mD vol per pend)))
  | _ => none
theorem dG.spec : bJ Tryz.prog 13 dG.C := by
  refine bJ.of (bU (F := [(33, eK.C), (34, bA.C), (35, bQ.C)]) (S := []) (by simpa using ⟨eK.spec, bA.spec, bQ.spec⟩) (by simp) dG.loops) dG.at dG.nm dG.bd ?_
  intro vs b S v news e hS
  unfold dG.C at e
  split at e
  rotate_left
  · cases e
  cases e
  rw [dG.eq]
  unfold dG.H
  simp (maxSteps := 4000000) only [go_sem, reduceEqDiff, Nat.reduceLT, reduceAdd, reduceSub, reduceLeDiff, reduceReplicate, reduceToNat, eK.C, bA.C, bQ.C]
  rename_i vol per pend
  obtain ⟨r1, r2, r3⟩ := hS
  unfold roomy at r1 r2 r3
  refine ⟨fun hb => ?_, fun hb => ⟨r2, ?_⟩⟩
  · have : mD vol per pend = false := by
      unfold mD
      rw [Bool.or_eq_true] at hb
      rcases hb with hb | hb
      · have : ¬ vol.length = per.length := by
          intro h; rw [h] at hb; simp at hb
        simp [this]
      · have : szB vol.length = false := by simpa using hb
        simp [this]
    rw [this]; exact aJ rfl rfl
  rw [Bool.or_eq_false_iff] at hb
  have hlen : vol.length = per.length := by
    have := hb.1
    rw [Bool.not_eq_false', decide_eq_true_eq] at this
    omega
  have hsz : szB vol.length = true := by simpa using hb.2
  have hcheck : mD vol per pend = decide (chk pend per (fun _ => false) = some vol) := by unfold mD; rw [hsz, decide_eq_true hlen]; simp
  rw [hcheck, aB]
  unfold dG.L1
  refine ⟨fun m lv h' => ∃ (k : Nat) (l : List Int) (o : Int → Bool), k + m = pend.length ∧ lv = [.int .i64 k] ∧ l.length = per.length ∧ chk pend per (fun _ => false) = chk (pend.drop k) l o ∧
      h' = [.box (.agg [.sl false (.ints .i64 vol), .sl false (.ints .i64 per), .sl false (.pends pend)]), .row .own 0 (.ints .i64 l), .map (.ib o)],
    ⟨pend.length, 0, per, fun _ => false, by omega, rfl, rfl, rfl, rfl⟩, ?_⟩
  rintro m h' t28 ⟨k, l, o, hk, hlv, hll, hchk, rfl⟩
  simp only [List.cons.injEq, and_true] at hlv
  subst hlv
  simp only [go_sem, reduceEqDiff, Nat.reduceLT, reduceAdd, reduceSub, reduceLeDiff, reduceReplicate, reduceToNat, hll, vK]
  refine ⟨fun hlt => ⟨by omega, ?_⟩, fun hge => ?_⟩
  · have hkl : k < pend.length := by omega
    have hd : pend.drop k = pend.getD k ⟨0, 0, false⟩ :: pend.drop (k + 1) := by
      rw [List.getD_eq_getElem?_getD, List.getElem?_eq_getElem hkl, List.drop_eq_getElem_cons hkl]; rfl
    generalize pend.getD k ⟨0, 0, false⟩ = p at *
    have hch : chk (pend.drop k) l o = match badB p l.length o with
      | true => none
      | false => chk (pend.drop (k + 1)) (l.set p.at_.toNat p.val) (xN p o) := by rw [hd]; rfl
    rw [hll] at hch
    refine ⟨fun _ _ => by decide, fun hbad => ?_, fun hok => ?_⟩
    · have : badB p per.length o = true := hbad
      rw [this] at hch
      rw [hchk, hch]; exact aJ rfl rfl
    · have hb2 : badB p per.length o = false := hok
      rw [hb2] at hch
      simp only [badB, Bool.or_eq_false_iff, decide_eq_false_iff_not] at hb2
      refine ⟨by decide, by decide, by omega, by omega, m - 1, by omega, k + 1, _, xN p o, by omega, by rw [w64 (by omega) (by omega)]; rfl, ?_, by rw [hchk]; exact hch, rfl⟩
      rw [List.length_set]; exact hll
  · have : k = pend.length := by omega
    subst this
    rw [List.drop_length] at hchk
    have hl : l.take per.length = l := List.take_of_length_le (by omega)
    simp only [hl, go_sem, reduceEqDiff, Nat.reduceLT, reduceAdd, reduceSub, reduceLeDiff, reduceReplicate, reduceToNat, bQ.C]
    refine ⟨by unfold roomy; omega, ?_⟩
    rw [hchk]
    have : decide (chk [] l o = some vol) = decide (l = vol) := by simp [chk]
    rw [this]; exact aJ rfl rfl
def eL.C : aF
  | [.agg [.sl false (.ints .i64 vol), .sl false (.ints .i64 per), .sl false (.pends pend)], .int .i64 at_] => some (false, pD (kY vol per pend) (.bool (lS vol per pend at_)))
  | _ => none
theorem eL.spec : bJ Tryz.prog 152 eL.C := by
  refine bJ.of (bU (F := [(13, dG.C)]) (S := []) (by simpa using dG.spec) (by simp) eL.loops) eL.at eL.nm eL.bd ?_
  intro vs b S v news e hS
  unfold eL.C at e
  split at e
  rotate_left
  · cases e
  cases e
  rw [eL.eq]
  unfold eL.H
  simp (maxSteps := 4000000) only [go_sem, reduceEqDiff, Nat.reduceLT, reduceAdd, reduceSub, reduceLeDiff, reduceReplicate, reduceToNat, dG.C]
  exact ⟨fun _ => hS, aJ rfl rfl⟩
def fN.C : aF
  | [.agg [.sl false (.ints .i64 vol), .sl false (.ints .i64 per), .sl false (.pends pend)], .int .i64 line] => some (false, pD (roomy vol.length) (.int .i64 (nO vol line)))
  | _ => none
theorem fN.spec : bJ Tryz.prog 154 fN.C := by
  refine bJ.of (bU (F := []) (S := []) (by simp) (by simp) fN.loops) fN.at fN.nm fN.bd ?_
  intro vs b S v news e hS
  unfold fN.C at e
  split at e
  rotate_left
  · cases e
  cases e
  rw [fN.eq]
  unfold fN.H
  simp (maxSteps := 4000000) only [go_sem, reduceEqDiff, Nat.reduceLT, reduceAdd, reduceSub, reduceLeDiff, reduceReplicate, reduceToNat]
  rename_i vol per pend line
  unfold roomy at hS
  have e : IntKind.i64.wrap ((vol.length : Int).tdiv 8) = ((vol.length / 8 : Nat) : Int) := by rw [aLA]; exact w64 (by omega) (by omega)
  rw [e]
  refine ⟨fun _ => by decide, fun hb => ?_, fun hb => ?_⟩
  · unfold nO; rw [if_pos hb]; exact aJ rfl rfl
  · have h2 := hb
    rw [Bool.or_eq_false_iff, decide_eq_false_iff_not, decide_eq_false_iff_not] at h2
    rw [w64 (by omega) (by omega)]
    unfold nO; rw [hb]; exact aJ rfl rfl
def gN.C : aF
  | [.agg [.sl false (.ints .i64 vol), .sl false (.ints .i64 per), .sl false (.pends pend)], .int .i64 at_, .int .i64 val] => some (false, pD (kY vol per pend ∧ roomy (pend.length + 1)) (putM vol per pend at_ val))
  | _ => none
theorem gN.spec : bJ Tryz.prog 148 gN.C := by
  refine bJ.of (bU (F := [(152, eL.C), (153, bE.C)]) (S := []) (by simpa using ⟨eL.spec, bE.spec⟩) (by simp) gN.loops) gN.at gN.nm gN.bd ?_
  intro vs b S v news e hS
  unfold gN.C at e
  split at e
  rotate_left
  · cases e
  cases e
  rw [gN.eq]
  unfold gN.H
  simp (maxSteps := 4000000) only [go_sem, reduceEqDiff, Nat.reduceLT, reduceAdd, reduceSub, reduceLeDiff, reduceReplicate, reduceToNat, eL.C, bE.C]
  rename_i vol per pend at_ val
  obtain ⟨hS, hr⟩ := hS
  refine ⟨hS, fun hb => ?_, fun hb => ?_⟩
  · unfold putM; rw [hb]; exact aJ rfl rfl
  · have hp : 0 ≤ at_ ∧ at_ < (vol.length : Int) := by
      simp only [lS, Bool.and_eq_true, decide_eq_true_eq] at hb
      exact hb.1
    have e : vol ++ List.take (vol.length - min vol.length vol.length) (List.drop (min vol.length vol.length) (List.replicate vol.length 0)) = vol := by simp
    rw [e]
    have hl : (pend ++ [(⟨at_, val, false⟩ : Pend)]).length = pend.length + 1 := by simp
    rw [hl]
    refine ⟨⟨by omega, by omega, hS.1⟩, hp, by omega, hr, rfl, ?_⟩
    unfold putM
    simp only [hb, if_true]
    refine aJ ?_ rfl
    have t1 : (vol.set at_.toNat val).take vol.length = vol.set at_.toNat val := List.take_of_length_le (by simp)
    have t2 : (pend ++ [(⟨at_, val, false⟩ : Pend)]).take (pend.length + 1) = pend ++ [(⟨at_, val, false⟩ : Pend)] := List.take_of_length_le (by simp)
    simp only [go_sem, reduceEqDiff, Nat.reduceLT, reduceAdd, reduceSub, reduceLeDiff, reduceReplicate, reduceToNat, memV, t1, t2]
def eQ.I : Con → Con := fun Y args h K => match args with
  | [.fn (.yield l) [] [], a0, a1] => eQ.H ((ctx [] [] eQ.loops).withY l Y) (.fn (.yield l) [] []) a0 a1 h K
  | _ => False
theorem eQ.spec : rI Tryz.prog 159 eQ.I := by
  refine rI.of (bU (F := []) (S := []) (by simp) (by simp) eQ.loops).toOkI eQ.at eQ.nm eQ.bd ?_
  intro Yc l cap h K hC
  unfold eQ.I at hC
  split at hC
  · rename_i e
    simp only [List.cons.injEq, AV.fn.injEq, Fn.yield.injEq, and_true, true_and] at e
    obtain ⟨rfl, rfl⟩ := e
    rw [eQ.eq]; exact hC
  · exact hC.elim
def gV.K : Con := fun args h K => match args with
  | [a0, a1] => gV.H (ctx [] [] gV.loops) a0 a1 h K
  | _ => False
theorem gV.spec : dB Tryz.prog 156 gV.K := by
  refine dB.of (bU (F := []) (S := []) (by simp) (by simp) gV.loops) gV.at gV.nm gV.bd ?_
  intro args h K hC
  unfold gV.K at hC
  split at hC
  · rw [gV.eq]; exact hC
  · exact hC.elim
def fE.C : aF
  | [.agg [.sl false (.ints .i64 vol), .sl false (.ints .i64 per), .sl false (.pends pend)], .int .i64 line] => some (false, pD (kY vol per pend) (zJ vol per pend line))
  | _ => none
theorem fE.spec : bJ Tryz.prog 149 fE.C := by
  refine bJ.of (aDl (F := [(152, eL.C), (154, fN.C), (155, bD.C)]) (S := [(156, gV.K)]) (Is := [(159, eQ.I)]) (by simpa using ⟨eL.spec, fN.spec, bD.spec⟩) (by simpa using gV.spec) (by simpa using eQ.spec) fE.loops) fE.at fE.nm fE.bd ?_
  intro vs b S v news e hS
  unfold fE.C at e
  split at e
  rotate_left
  · cases e
  cases e
  rw [fE.eq]
  unfold fE.H
  simp (maxSteps := 4000000) only [go_sem, reduceEqDiff, Nat.reduceLT, reduceAdd, reduceSub, reduceLeDiff, reduceReplicate, reduceToNat, eL.C, fN.C, bD.C, gV.K, gV.H, eQ.I, eQ.H, aB]
  rename_i vol per pend line
  refine ⟨hS.1, hS, fun hb => ?_, fun hb => ⟨hS.2.2, ?_⟩⟩
  · unfold zJ; rw [hb]; exact aJ rfl rfl
  intro l r
  obtain ⟨s1, s2, s3⟩ := hS
  unfold roomy at s1 s2 s3
  unfold eQ.L1
  refine ⟨fun m lv h' => ∃ k : Nat, k + m = pend.length ∧ lv = [.int .i64 k] ∧ h' = [.box (.agg [.sl false (.ints .i64 vol), .sl false (.ints .i64 per), .sl false (.pends pend)]),
      .box (.agg [.sl false (.ints .i64 []), .sl false (.ints .i64 []), .sl false (.pends [])]), .row .own 0 (.pends (fR line (pend.take k) ++ pend.drop k)), .box (.sref false 2 0 0 pend.length),
      .box (.agg [.sl false (.ints .i64 vol), .sl false (.ints .i64 per), .sl false (.pends pend)]), .box (.int .i64 line), .lp .ready none r],
    ⟨pend.length, 0, by omega, rfl, rfl⟩, ?_⟩
  rintro m h' t9 ⟨k, hk, hlv, rfl⟩
  simp only [List.cons.injEq, and_true] at hlv
  subst hlv
  have hlen : (fR line (pend.take k) ++ pend.drop k).length = pend.length := by simp [fR]; omega
  simp only [go_sem, reduceEqDiff, Nat.reduceLT, reduceAdd, reduceSub, reduceLeDiff, reduceReplicate, reduceToNat, vK, hlen]
  refine ⟨fun hlt => ?_, fun hge => ?_⟩
  · have hkl : k < pend.length := by omega
    have hget : (fR line (pend.take k) ++ pend.drop k).getD k ⟨0, 0, false⟩ = pend.getD k ⟨0, 0, false⟩ := by
      rw [List.getD_eq_getElem?_getD, List.getElem?_append_right (by simp [fR]; omega)]
      have e : k - (fR line (pend.take k)).length = 0 := by simp [fR]; omega
      rw [e, List.getElem?_drop, Nat.add_zero, List.getD_eq_getElem?_getD]
    have hdrop : pend.drop k = pend.getD k ⟨0, 0, false⟩ :: pend.drop (k + 1) := by
      rw [List.getD_eq_getElem?_getD, List.getElem?_eq_getElem hkl, List.drop_eq_getElem_cons hkl]; rfl
    have hset : ∀ q : Pend, (fR line (pend.take k) ++ pend.drop k).set k q = fR line (pend.take k) ++ q :: pend.drop (k + 1) := by
      intro q
      rw [hdrop, List.set_append_right _ _ (by simp [fR]; omega)]
      have e : k - (fR line (pend.take k)).length = 0 := by simp [fR]; omega
      rw [e]; rfl
    have hnx : fR line (pend.take (k + 1)) = fR line (pend.take k) ++ [if gD (pend.getD k ⟨0, 0, false⟩).at_ = line then { pend.getD k ⟨0, 0, false⟩ with fl := true } else pend.getD k ⟨0, 0, false⟩] := by
      rw [iC pend k ⟨0, 0, false⟩ hkl]
      simp [fR]
    rw [aB]
    simp only [mY, hget, hset]
    refine ⟨by omega, by decide, fun hc => ?_, fun hc => ?_⟩
    · have hc : gD (pend.getD k ⟨0, 0, false⟩).at_ = line := by simpa [gD] using hc
      simp only [go_sem, reduceEqDiff, Nat.reduceLT, reduceAdd, reduceSub, reduceLeDiff, reduceReplicate, reduceToNat]
      refine ⟨⟨by omega, by omega⟩, hkl, m - 1, by omega, k + 1, by omega, by rw [w64 (by omega) (by omega)]; rfl, ?_⟩
      rw [hnx, if_pos hc, List.append_assoc]; rfl
    · have hc : ¬ gD (pend.getD k ⟨0, 0, false⟩).at_ = line := by simpa [gD] using hc
      simp only [go_sem, reduceEqDiff, Nat.reduceLT, reduceAdd, reduceSub, reduceLeDiff, reduceReplicate, reduceToNat]
      refine ⟨m - 1, by omega, k + 1, by omega, by rw [w64 (by omega) (by omega)]; rfl, ?_⟩
      rw [hnx, if_neg hc, List.append_assoc, hdrop]; rfl
  · have : k = pend.length := by omega
    subst this
    rw [List.take_length, List.drop_length, List.append_nil] at hlen
    have e : fR line (pend.take pend.length) ++ pend.drop pend.length = fR line pend := by rw [List.take_length, List.drop_length, List.append_nil]
    rw [e]
    unfold zJ
    simp only [hb, if_true]
    refine aJ ?_ rfl
    have t1 : (fR line pend).take pend.length = fR line pend := List.take_of_length_le (by omega)
    simp only [go_sem, reduceEqDiff, Nat.reduceLT, reduceAdd, reduceSub, reduceLeDiff, reduceReplicate, reduceToNat, memV, t1]
def dQ.C : aF
  | [.agg [.int .i64 a, .int .i64 v, .bool f]] => some (false, pD True (.bool f))
  | _ => none
theorem dQ.spec : bJ Tryz.prog 158 dQ.C := by
  refine bJ.of (bU (F := []) (S := []) (by simp) (by simp) dQ.loops) dQ.at dQ.nm dQ.bd ?_
  intro vs b S v news e hS
  unfold dQ.C at e
  split at e
  rotate_left
  · cases e
  cases e
  rw [dQ.eq]
  unfold dQ.H
  simp (maxSteps := 4000000) only [go_sem, reduceEqDiff, Nat.reduceLT, reduceAdd, reduceSub, reduceLeDiff, reduceReplicate, reduceToNat]
  exact aJ rfl rfl
def eP.K : Con := fun args h K => match args with
  | [a0, a1] => eP.H (ctx [(34, bA.C), (158, dQ.C)] [] eP.loops) a0 a1 h K
  | _ => False
theorem eP.spec : dB Tryz.prog 157 eP.K := by
  refine dB.of (bU (F := [(34, bA.C), (158, dQ.C)]) (S := []) (by simpa using ⟨bA.spec, dQ.spec⟩) (by simp) eP.loops) eP.at eP.nm eP.bd ?_
  intro args h K hC
  unfold eP.K at hC
  split at hC
  · rw [eP.eq]; exact hC
  · exact hC.elim

def fF.C : aF
  | [.agg [.sl false (.ints .i64 vol), .sl false (.ints .i64 per), .sl false (.pends pend)]] => some (false, pD (kY vol per pend) (aCB fFl (mD vol per pend) vol per pend))
  | _ => none
theorem fF.spec : bJ Tryz.prog 150 fF.C := by
  refine bJ.of (bU (F := [(13, dG.C)]) (S := [(157, eP.K)]) (by simpa using dG.spec) (by simpa using eP.spec) fF.loops) fF.at fF.nm fF.bd ?_
  intro vs b S v news e hS
  unfold fF.C at e
  split at e
  rotate_left
  · cases e
  cases e
  rw [fF.eq]
  unfold fF.H
  simp (maxSteps := 4000000) only [go_sem, reduceEqDiff, Nat.reduceLT, reduceAdd, reduceSub, reduceLeDiff, reduceReplicate, reduceToNat, dG.C, eP.K, eP.H, bA.C]
  rename_i vol per pend
  refine ⟨hS, fun hb => ?_, fun hb => ⟨hS.2.1, ?_⟩⟩
  · unfold aCB; rw [hb]; exact aJ rfl rfl
  obtain ⟨s1, s2, s3⟩ := hS
  unfold roomy at s1 s2 s3
  have hrange := aGC hb
  rw [aB]
  unfold eP.L1
  refine ⟨fun m lv h' => ∃ k v : Nat, k + m = pend.length ∧ lv = [.int .i64 k] ∧ h' = [.box (.agg [.sl false (.ints .i64 vol), .sl false (.ints .i64 per), .sl false (.pends pend)]), .box (.agg [.sl false (.ints .i64 []), .sl false (.ints .i64 []), .sl false (.pends [])]), .box (.agg [.sl false (.ints .i64 vol), .sl false (.ints .i64 per), .sl false (.pends pend)]), .box (.agg [.sl false (.ints .i64 []), .sl false (.ints .i64 []), .sl false (.pends [])]), .row .own 0 (.ints .i64 (kG fFl (pend.take k) per)), .box (.agg [.sl false (.ints .i64 vol), .sref false 4 0 0 per.length, .sref false 6 v 0 (lE fFl (pend.take k)).length]), .row .own v (.pends (lE fFl (pend.take k)))],
    ⟨pend.length, 0, 0, by omega, rfl, rfl⟩, ?_⟩
  rintro m h' t17 ⟨k, v, hk, hlv, rfl⟩
  simp only [List.cons.injEq, and_true] at hlv
  subst hlv
  have hwl : (kG fFl (pend.take k) per).length = per.length := zK _ _ _
  have hpl : (lE fFl (pend.take k)).length ≤ k := Nat.le_trans (List.length_filter_le _ _) (by simp; omega)
  simp only [go_sem, reduceEqDiff, Nat.reduceLT, reduceAdd, reduceSub, reduceLeDiff, reduceReplicate, reduceToNat, vK, hwl, dQ.C]
  refine ⟨fun hlt => ?_, fun hge => ?_⟩
  · have hkl : k < pend.length := by omega
    have hr := hrange _ (kX pend k ⟨0, 0, false⟩ hkl)
    have hW := aCA fFl (pend.getD k ⟨0, 0, false⟩) (pend.take k) per
    have hP := aIk fFl (pend.getD k ⟨0, 0, false⟩) (pend.take k)
    rw [← iC pend k ⟨0, 0, false⟩ hkl] at hW hP
    generalize pend.getD k ⟨0, 0, false⟩ = p at *
    try rw [aB]
    refine ⟨by omega, fun hc => ?_, fun hc => ?_⟩
    · have hc : fFl p = true := hc
      rw [hc] at hW hP
      simp only [go_sem, reduceEqDiff, Nat.reduceLT, reduceAdd, reduceSub, reduceLeDiff, reduceReplicate, reduceToNat]
      refine ⟨hr, by omega, m - 1, by omega, k + 1, v, by omega, by rw [w64 (by omega) (by omega)]; rfl, ?_⟩
      rw [hW, hP]
    · have hc : fFl p = false := hc
      rw [hc] at hW hP
      simp only [go_sem, reduceEqDiff, Nat.reduceLT, reduceAdd, reduceSub, reduceLeDiff, reduceReplicate, reduceToNat]
      refine ⟨by unfold roomy; simp; omega, m - 1, by omega, k + 1, v + 1, by omega, by rw [w64 (by omega) (by omega)]; rfl, ?_⟩
      rw [hW, hP]
  · have : k = pend.length := by omega
    subst this
    rw [List.take_length] at hwl hpl ⊢
    have t1 : (kG fFl pend per).take per.length = kG fFl pend per := List.take_of_length_le (by omega)
    have t2 : (lE fFl pend).take (lE fFl pend).length = lE fFl pend := List.take_length
    unfold aCB
    simp only [hb, if_true, go_sem, reduceEqDiff, Nat.reduceLT, reduceAdd, reduceSub, reduceLeDiff, reduceReplicate, reduceToNat]
    refine aJ ?_ rfl
    simp only [go_sem, reduceEqDiff, Nat.reduceLT, reduceAdd, reduceSub, reduceLeDiff, reduceReplicate, reduceToNat, memV, t1, t2]

end Lam
namespace Lam
open Go Go.Proofs
def eF.C : aF
  | [.int .i64 n] => some (false, pD True (.bool (lt1 n)))
  | _ => none
theorem eF.spec : bJ Tryz.prog 103 eF.C := by
  refine bJ.of (bU (F := []) (S := []) (by simp) (by simp) eF.loops) eF.at eF.nm eF.bd ?_
  intro vs b S v news e hS
  unfold eF.C at e
  split at e
  rotate_left
  · cases e
  cases e
  rw [eF.eq]
  unfold eF.H
  simp (maxSteps := 4000000) only [go_sem, reduceEqDiff, Nat.reduceLT, reduceAdd, reduceSub, reduceLeDiff, reduceReplicate, reduceToNat]
  exact aJ rfl rfl
def eB.C : aF
  | [.int .i64 n] => some (false, pD True (.bool (qB n)))
  | _ => none
theorem eB.spec : bJ Tryz.prog 105 eB.C := by
  refine bJ.of (bU (F := []) (S := []) (by simp) (by simp) eB.loops) eB.at eB.nm eB.bd ?_
  intro vs b S v news e hS
  unfold eB.C at e
  split at e
  rotate_left
  · cases e
  cases e
  rw [eB.eq]
  unfold eB.H
  simp (maxSteps := 4000000) only [go_sem, reduceEqDiff, Nat.reduceLT, reduceAdd, reduceSub, reduceLeDiff, reduceReplicate, reduceToNat]
  exact aJ rfl rfl
def eG.C : aF
  | [.int .i64 n] => some (false, pD True (.bool (tL n)))
  | _ => none
theorem eG.spec : bJ Tryz.prog 107 eG.C := by
  refine bJ.of (bU (F := [(105, eB.C)]) (S := []) (by simpa using eB.spec) (by simp) eG.loops) eG.at eG.nm eG.bd ?_
  intro vs b S v news e hS
  unfold eG.C at e
  split at e
  rotate_left
  · cases e
  cases e
  rw [eG.eq]
  unfold eG.H
  simp (maxSteps := 4000000) only [go_sem, reduceEqDiff, Nat.reduceLT, reduceAdd, reduceSub, reduceLeDiff, reduceReplicate, reduceToNat, eB.C]
  exact aJ rfl rfl
theorem aFH (c : Ctx) (hd : c.drawn = false) (f : FuncId) (p : Int → Bool) (hf : ∀ n, c.envF f [.int .i64 n] = some (false, pD True (.bool (p n)))) (x : Bool) (l : List Int) (hr : roomy l.length) :
    bI.H c (.sl x (.ints .i64 l)) (.fn (.func f) [] []) [] (Post false (.int .i64 (idxI p l)) []) := by
  unfold roomy at hr
  unfold bI.H
  simp only [go_sem, reduceEqDiff, Nat.reduceLT, reduceAdd, reduceSub, reduceLeDiff, reduceReplicate, reduceToNat]
  rw [aB]
  unfold bI.L1
  refine lD (σ := Nat) (fun k => .int .i64 k) (fun k => []) (fun k => l.length - k) (fun k => k ≤ l.length ∧ ∀ y ∈ l.take k, p y = false) 0 rfl rfl ⟨Nat.zero_le _, by simp⟩ ?_
  rintro I back k ⟨hk, hall⟩
  simp only [hf, hd, go_sem, reduceEqDiff, Nat.reduceLT, reduceAdd, reduceSub, reduceLeDiff, reduceReplicate, reduceToNat]
  refine ⟨fun hlt => ⟨by omega, fun h => ?_, fun h => ?_⟩, fun hge => ?_⟩
  · have hkl : k < l.length := by omega
    have h1 : l.any p = true := List.any_eq_true.2 ⟨_, kX l k 0 hkl, h⟩
    have h2 : l.findIdx p = k := by
      rw [List.findIdx_eq hkl]
      refine ⟨by rw [List.getD_eq_getElem?_getD, List.getElem?_eq_getElem hkl] at h; exact h, fun j hj => ?_⟩
      have := hall l[j] (List.mem_take_iff_getElem.2 ⟨j, by omega, rfl⟩)
      simpa using this
    unfold idxI; rw [if_pos h1, h2]
    exact aJ rfl rfl
  · refine back (k + 1) (by omega) (by rw [eX (by omega)]) rfl ⟨by omega, fun y hy => ?_⟩
    rw [iC l k 0 (by omega), List.mem_append, List.mem_singleton] at hy
    rcases hy with hy | rfl
    · exact hall y hy
    · exact h
  · obtain rfl : k = l.length := by omega
    rw [List.take_length] at hall
    have h1 : ¬ l.any p = true := by
      rw [List.any_eq_true]; rintro ⟨y, hy, hp⟩; rw [hall y hy] at hp; cases hp
    unfold idxI; rw [if_neg h1]
    exact aJ rfl rfl
def aCJ (f : Nat) : Option (Int → Bool) :=
  if f = 103 then some lt1 else
  if f = 107 then some tL else
  none
@[go_sem] theorem aXy : aCJ 103 = some lt1 := rfl
@[go_sem] theorem aXz : aCJ 107 = some tL := rfl
def bI.C : aF
  | [.sl _ (.ints .i64 l), .fn (.func f) [] []] => match aCJ f with
    | some p => some (false, pD (roomy l.length) (.int .i64 (idxI p l)))
    | none => none
  | _ => none
theorem bI.spec : bJ Tryz.prog 102 bI.C := by
  refine bJ.of (bU (F := [(103, eF.C), (107, eG.C)]) (S := []) (by simpa using ⟨eF.spec, eG.spec⟩) (by simp) bI.loops) bI.at bI.nm bI.bd ?_
  intro vs b S v news e hS
  unfold bI.C at e
  split at e
  rotate_left
  · cases e
  rw [bI.eq]
  rename_i x l f
  split at e
  rotate_left
  · cases e
  rename_i p hp
  cases e
  refine aFH _ rfl f p (fun n => ?_) x l hS
  unfold aCJ at hp
  simp only [aKX]
  repeat' split at hp
  all_goals first | (rename_i h; subst h; cases hp; rfl) | cases hp
def bR.C : aF
  | [.sl _ (.ints .i64 l), .fn (.func f) [] []] => match aCJ f with
    | some p => some (false, pD (roomy l.length) (.bool (l.any p)))
    | none => none
  | _ => none
theorem bR.spec : bJ Tryz.prog 106 bR.C := by
  refine bJ.of (bU (F := [(102, bI.C)]) (S := []) (by simpa using bI.spec) (by simp) bR.loops) bR.at bR.nm bR.bd ?_
  intro vs b S v news e hS
  unfold bR.C at e
  split at e
  rotate_left
  · cases e
  rw [bR.eq]
  rename_i x l f
  split at e
  rotate_left
  · cases e
  rename_i p hp
  cases e
  unfold bR.H
  simp only [bI.C, hp, go_sem, reduceEqDiff, Nat.reduceLT, reduceAdd, reduceSub, reduceLeDiff, reduceReplicate, reduceToNat]
  refine ⟨hS, ?_⟩
  have : decide (0 ≤ idxI p l) = l.any p := by
    unfold idxI
    cases h : l.any p
    · rfl
    · rw [if_pos rfl]; exact decide_eq_true (by omega)
  rw [this]; exact aJ rfl rfl
end Lam
namespace Lam
open Go Go.Proofs
end Lam
namespace Lam
open Go Go.Proofs
def gS.loops : Nat → bX
 | 4 => ⟨[4, 10], [false, false], [3, 8, 9], [], [], []⟩
 | _ => ⟨[], [], [], [], [], []⟩
def gS.L1 (c : Ctx) (J1 : AV → List AObj → Prop) (K : AOut → List AObj → Prop) (lv : List AV) (h0 : List AObj) (n0 : Nat) (c3 : AV) (c8 : AV) (c9 : AV) : Prop :=
 ∃ I : Nat → List AV → List AObj → Prop, (∃ n, I n lv h0) ∧ ∀ n h, ∀ t4, ∀ t10, I n [t4, t10] h →
 runD (binD aA .lss t10 c9) h fun t11 h =>
 aZ t11
 (runD (aH aP h c8 t10) h fun t12 h =>
 runD (fitD aA (aD h t12)) h fun t13 h =>
 bB false c (.fn (.func 112) [] []) [c3, t4, t13] h (fun t16 h =>
 runD (binD aA .add t10 (.int .i64 1)) h fun t17 h =>
 (∃ m, m < n ∧ I m (AV.norms n0 h [t16, t17]) (cG n0 h)) ∧ AV.norms n0 h [c3, c8, c9] = [c3, c8, c9])
 (fun v h => K (.pan v) h))
 (J1 t4 h)
def gS.H (c : Ctx) (t0 : AV) (h : List AObj) (K : AOut → List AObj → Prop) : Prop :=
 bB false c (.fn (.func 111) [] []) [] h (fun t7 h =>
 cK iU h fun t3 h =>
 runH (aQ iU h t3 t7) h fun _ h =>
 runD (lenD aP h t0) h fun t9 h =>
 aM (fun (J1 : AV → List AObj → Prop) =>
 dE [false, false] [(.int .u32 4294967295), (.int .i64 0)] h fun lv h => gS.L1 c J1 K (AV.norms h.length h lv) (cG h.length h) h.length (AV.norm h.length h t3) (AV.norm h.length h t0) (AV.norm h.length h t9))
 (fun t4 h => runD (unD .xor t4) h fun t19 h =>
 runD (iI h jH aA t19) h fun t20 h =>
 K (.ret t20) h))
 (fun v h => K (.pan v) h)
def dH.loops : Nat → bX
 | 2 => ⟨[3], [false], [0], [], [], []⟩
 | 6 => ⟨[2, 8], [false, false], [0, 1, 3], [], [], []⟩
 | _ => ⟨[], [], [], [], [], []⟩
def dH.L2 (c : Ctx) (J3 : AV → AV → AV → AV → List AObj → Prop) (K : AOut → List AObj → Prop) (lv : List AV) (h0 : List AObj) (n0 : Nat) (c0 : AV) (c1 : AV) (c3 : AV) : Prop :=
 ∃ I : Nat → List AV → List AObj → Prop, (∃ n, I n lv h0) ∧ ∀ n h, ∀ t2, ∀ t8, I n [t2, t8] h →
 runD (binD aA .lss t8 (.int .i64 8)) h fun t9 h =>
 aZ t9
 (runD (binD jH .shr t2 (.int .u64 1)) h fun t11 h =>
 runD (binD jH .and t2 (.int .u32 1)) h fun t13 h =>
 runD (unD .neg t13) h fun t14 h =>
 runD (binD jH .and (.int .u32 3988292384) t14) h fun t15 h =>
 runD (binD jH .xor t11 t15) h fun t16 h =>
 runD (binD aA .add t8 (.int .i64 1)) h fun t17 h =>
 (∃ m, m < n ∧ I m (AV.norms n0 h [t16, t17]) (cG n0 h)) ∧ AV.norms n0 h [c0, c1, c3] = [c0, c1, c3])
 (J3 c0 c1 t2 c3 h)
def dH.L1 (c : Ctx) (J1 : AV → List AObj → Prop) (K : AOut → List AObj → Prop) (lv : List AV) (h0 : List AObj) (n0 : Nat) (c0 : AV) : Prop :=
 ∃ I : Nat → List AV → List AObj → Prop, (∃ n, I n lv h0) ∧ ∀ n h, ∀ t3, I n [t3] h →
 runD (binD aA .lss t3 (.int .i64 256)) h fun t4 h =>
 aZ t4
 (aM (fun (J2 : AV → AV → List AObj → Prop) =>
 runD (iI h aA jH t3) h fun t7 h =>
 aM (fun (J3 : AV → AV → AV → AV → List AObj → Prop) =>
 dE [false, false] [t7, (.int .i64 0)] h fun lv h => dH.L2 c J3 K (AV.norms h.length h lv) (cG h.length h) h.length (AV.norm h.length h c0) (AV.norm h.length h t3) (AV.norm h.length h t3))
 (fun t0 t1 t2 t3 h => runD (aH iU h t0 t1) h fun t20 h =>
 runH (aQ jH h t20 t2) h fun _ h =>
 J2 t0 t3 h))
 (fun t0 t3 h => runD (binD aA .add t3 (.int .i64 1)) h fun t21 h =>
 (∃ m, m < n ∧ I m (AV.norms n0 h [t21]) (cG n0 h)) ∧ AV.norms n0 h [t0] = [c0]))
 (J1 c0 h)
def dH.H (c : Ctx) (h : List AObj) (K : AOut → List AObj → Prop) : Prop :=
 cK iU h fun t0 h =>
 aM (fun (J1 : AV → List AObj → Prop) =>
 dE [false] [(.int .i64 0)] h fun lv h => dH.L1 c J1 K (AV.norms h.length h lv) (cG h.length h) h.length (AV.norm h.length h t0))
 (fun t0 h => runD (fitD iU (aD h t0)) h fun t22 h =>
 runH (aQ iU h t0 t22) h fun _ h =>
 cL (fitD iU (aD h t0)) fun r0 => K (.ret r0) h)
def fI.loops : Nat → bX
 | 2 => ⟨[1, 7], [false, false], [0, 2], [], [], []⟩
 | _ => ⟨[], [], [], [], [], []⟩
def fI.L1 (c : Ctx) (J1 : AV → List AObj → Prop) (K : AOut → List AObj → Prop) (lv : List AV) (h0 : List AObj) (n0 : Nat) (c0 : AV) (c2 : AV) : Prop :=
 ∃ I : Nat → List AV → List AObj → Prop, (∃ n, I n lv h0) ∧ ∀ n h, ∀ t1, ∀ t7, I n [t1, t7] h →
 runD (binD aA .geq t7 (.int .i64 0)) h fun t9 h =>
 aZ t9
 (runD (iI h aA kJ c2) h fun t15 h =>
 runD (binD kJ .shr t15 t7) h fun t17 h =>
 runD (iI h kJ kU t17) h fun t18 h =>
 bB false c (.fn (.func 122) [] []) [c0, t1, t18] h (fun t19 h =>
 runD (binD aA .sub t7 (.int .i64 8)) h fun t11 h =>
 (∃ m, m < n ∧ I m (AV.norms n0 h [t19, t11]) (cG n0 h)) ∧ AV.norms n0 h [c0, c2] = [c0, c2])
 (fun v h => K (.pan v) h))
 (J1 t1 h)
def fI.H (c : Ctx) (t0 : AV) (t1 : AV) (t2 : AV) (h : List AObj) (K : AOut → List AObj → Prop) : Prop :=
 aM (fun (J1 : AV → List AObj → Prop) =>
 dE [false, false] [t1, (.int .i64 56)] h fun lv h => fI.L1 c J1 K (AV.norms h.length h lv) (cG h.length h) h.length (AV.norm h.length h t0) (AV.norm h.length h t2))
 (fun t1 h => K (.ret t1) h)
def fW.loops : Nat → bX
 | _ => ⟨[], [], [], [], [], []⟩
def fW.H (c : Ctx) (t0 : AV) (t1 : AV) (t2 : AV) (h : List AObj) (K : AOut → List AObj → Prop) : Prop :=
 runD (binD jH .shr t1 (.int .u64 8)) h fun t8 h =>
 runD (iI h jH kU t1) h fun t11 h =>
 runD (binD kU .xor t11 t2) h fun t13 h =>
 runD (cJ t0) h fun t14 h =>
 runD (aH iU h t14 t13) h fun t15 h =>
 runD (fitD jH (aD h t15)) h fun t16 h =>
 runD (binD jH .xor t8 t16) h fun t17 h =>
 K (.ret t17) h
theorem gS.eq (F : List (FuncId × aF)) (S : List (FuncId × Con)) (t0 : AV) (h : List AObj) (K : AOut → List AObj → Prop) : funW (ctx F S gS.loops) Tryz.f93 [t0] h K = gS.H (ctx F S gS.loops) t0 h K := by kernel_rfl
theorem dH.eq (F : List (FuncId × aF)) (S : List (FuncId × Con)) (h : List AObj) (K : AOut → List AObj → Prop) : funW (ctx F S dH.loops) Tryz.f111 [] h K = dH.H (ctx F S dH.loops)  h K := by kernel_rfl
theorem fI.eq (F : List (FuncId × aF)) (S : List (FuncId × Con)) (t0 t1 t2 : AV) (h : List AObj) (K : AOut → List AObj → Prop) : funW (ctx F S fI.loops) Tryz.f112 [t0, t1, t2] h K = fI.H (ctx F S fI.loops) t0 t1 t2 h K := by kernel_rfl
theorem fW.eq (F : List (FuncId × aF)) (S : List (FuncId × Con)) (t0 t1 t2 : AV) (h : List AObj) (K : AOut → List AObj → Prop) : funW (ctx F S fW.loops) Tryz.f122 [t0, t1, t2] h K = fW.H (ctx F S fW.loops) t0 t1 t2 h K := by kernel_rfl
theorem gS.at : Tryz.prog.funcs[93]? = some Tryz.f93 := by kernel_rfl
theorem gS.nm : (Tryz.f93.name == "runtime.NumGoroutine") = false := by kernel_rfl
theorem gS.bd : Tryz.f93.body.isNone = false := by kernel_rfl
theorem dH.at : Tryz.prog.funcs[111]? = some Tryz.f111 := by kernel_rfl
theorem dH.nm : (Tryz.f111.name == "runtime.NumGoroutine") = false := by kernel_rfl
theorem dH.bd : Tryz.f111.body.isNone = false := by kernel_rfl
theorem fI.at : Tryz.prog.funcs[112]? = some Tryz.f112 := by kernel_rfl
theorem fI.nm : (Tryz.f112.name == "runtime.NumGoroutine") = false := by kernel_rfl
theorem fI.bd : Tryz.f112.body.isNone = false := by kernel_rfl
theorem fW.at : Tryz.prog.funcs[122]? = some Tryz.f122 := by kernel_rfl
theorem fW.nm : (Tryz.f122.name == "runtime.NumGoroutine") = false := by kernel_rfl
theorem fW.bd : Tryz.f122.body.isNone = false := by kernel_rfl
end Lam
namespace Lam
open Go Go.Proofs
theorem aFI (c t3 : Int) (xs : List Int) (h : List AObj) (J : AV → AV → AV → AV → List AObj → Prop) (K : AOut → List AObj → Prop) (hh : h = [AObj.row .arr 0 (.ints .u32 xs)])
    (hJ : J (.ptr 0 []) (.int .i64 t3) (.int .u32 (bitN 8 c)) (.int .i64 t3) h) :
    dH.L2 (ctx [] [] dH.loops) J K [.int .u32 c, .int .i64 0] h 1 (.ptr 0 []) (.int .i64 t3) (.int .i64 t3) := by
  unfold dH.L2
  refine ⟨fun n lv h' => ∃ k : Nat, k + n = 8 ∧ lv = [.int .u32 (bitN k c), .int .i64 k] ∧ h' = h, ⟨8, 0, rfl, rfl, rfl⟩, ?_⟩
  rintro n h' t2 t8 ⟨k, hk, hlv, rfl⟩
  simp only [List.cons.injEq, and_true] at hlv
  obtain ⟨rfl, rfl⟩ := hlv
  subst hh
  simp only [go_sem, Nat.reduceLT]
  refine ⟨fun hlt => ⟨by decide, n - 1, by omega, k + 1, by omega, ?_⟩, fun hge => ?_⟩
  · rw [w64 (by omega) (by omega)]
    rfl
  · have : k = 8 := by omega
    subst this; exact hJ

theorem aFJ (J : AV → List AObj → Prop) (K : AOut → List AObj → Prop) (hJ : J (.ptr 0 []) [AObj.row .arr 0 (.ints .u32 tabL)]) :
    dH.L1 (ctx [] [] dH.loops) J K [.int .i64 0] [AObj.row .arr 0 (.ints .u32 (List.replicate 256 0))] 1 (.ptr 0 []) := by
  unfold dH.L1
  refine ⟨fun n lv h' => ∃ k : Nat, k + n = 256 ∧ lv = [.int .i64 k] ∧ h' = [AObj.row .arr 0 (.ints .u32 ((List.range k).map tabE ++ List.replicate n 0))], ⟨256, 0, rfl, rfl, rfl⟩, ?_⟩
  rintro n h' t3 ⟨k, hk, hlv, rfl⟩
  simp only [List.cons.injEq, and_true] at hlv
  subst hlv
  simp only [go_sem, Nat.reduceLT]
  refine ⟨fun hlt => ?_, fun hge => ?_⟩
  · simp only [aB]
    apply aFI _ _ _ _ _ _ rfl
    have hlen : ((List.range k).map tabE ++ List.replicate n 0).length = 256 := by simp; omega
    simp only [go_sem, Nat.reduceLT, hlen, Int.toNat_natCast]
    refine ⟨by omega, by omega, n - 1, by omega, k + 1, by omega, ?_, ?_⟩
    · rw [w64 (by omega) (by omega)]; rfl
    · obtain ⟨m, rfl⟩ : ∃ m, n = m + 1 := ⟨n - 1, by omega⟩
      simp [List.range_succ, List.replicate_succ, tabE]
  · have hn : n = 0 := by omega
    have hk : k = 256 := by omega
    subst hn hk
    simpa [tabL] using hJ

theorem aFK : dH.H (ctx [] [] dH.loops) [] (Post false (.arr (.ints .u32 tabL)) []) := by
  unfold dH.H
  simp only [go_sem, Nat.reduceLT]
  simp only [aB]
  apply aFJ
  have : tabL.length = 256 := by simp [tabL]
  simp only [go_sem, this]
  exact aJ rfl rfl

def dH.C : aF
  | [] => some (false, pD True (.arr (.ints .u32 tabL)))
  | _ => none
theorem dH.spec : bJ Tryz.prog 111 dH.C := by
  refine bJ.of (bU (F := []) (S := []) (by simp) (by simp) dH.loops) dH.at dH.nm dH.bd ?_
  intro vs b S v news e hS
  unfold dH.C at e
  split at e
  rotate_left
  · cases e
  rw [dH.eq]
  cases e
  exact aFK
def fW.K : Con := fun args h K => match args with
  | [a0, a1, a2] => fW.H (ctx [] [] fW.loops) a0 a1 a2 h K
  | _ => False
theorem fW.spec : dB Tryz.prog 122 fW.K := by
  refine dB.of (bU (F := []) (S := []) (by simp) (by simp) fW.loops) fW.at fW.nm fW.bd ?_
  intro args h K hC
  unfold fW.K at hC
  split at hC
  · rw [fW.eq]; exact hC
  · exact hC.elim
theorem aGK (t : List Int) (ht : t.length = 256) (c b : Int) (h : List AObj) (K : AOut → List AObj → Prop) (id : Nat) (hid : h[id]? = some (.row .arr 0 (.ints .u32 t))) (hK : K (.ret (.int .u32 (aLE t c b))) h) :
    fW.K [.ptr id [], .int .u32 c, .int .u8 b] h K := by
  unfold fW.K
  simp only
  unfold fW.H
  simp only [go_sem, hid, ht]
  have hr : 0 ≤ xorI .u8 (IntKind.u8.wrap c) b ∧ xorI .u8 (IntKind.u8.wrap c) b < 256 := aFz _
  exact ⟨by decide, hr, (Int.toNat_lt hr.1).2 hr.2, hK⟩

def fI.K : Con := fun args h K => match args with
  | [a0, a1, a2] => fI.H (ctx [] [(122, fW.K)] fI.loops) a0 a1 a2 h K
  | _ => False
theorem fI.spec : dB Tryz.prog 112 fI.K := by
  refine dB.of (bU (F := []) (S := [(122, fW.K)]) (by simp) (by simpa using fW.spec) fI.loops) fI.at fI.nm fI.bd ?_
  intro args h K hC
  unfold fI.K at hC
  split at hC
  · rw [fI.eq]; exact hC
  · exact hC.elim
theorem aGL (t : List Int) (ht : t.length = 256) (c w : Int) (h : List AObj) (K : AOut → List AObj → Prop) (hh : h = [.row .arr 0 (.ints .u32 t)]) (hK : K (.ret (.int .u32 (aIx t c w))) h) :
    fI.K [.ptr 0 [], .int .u32 c, .int .i64 w] h K := by
  unfold fI.K
  simp only
  unfold fI.H
  subst hh
  simp only [aB, go_sem, Nat.reduceLT]
  unfold fI.L1
  refine ⟨fun n lv h' => ∃ k : Nat, k + n = 8 ∧ lv = [.int .u32 (aEF t w k c), .int .i64 (56 - 8 * k)] ∧ h' = [.row .arr 0 (.ints .u32 t)], ⟨8, 0, rfl, rfl, rfl⟩, ?_⟩
  rintro n h' t1 t7 ⟨k, hk, hlv, rfl⟩
  simp only [List.cons.injEq, and_true] at hlv
  obtain ⟨rfl, rfl⟩ := hlv
  simp only [go_sem, Nat.reduceLT, reduceEqDiff]
  refine ⟨fun hlt => ?_, fun hge => ?_⟩
  · refine ⟨hlt, ?_⟩
    apply aGK t ht _ _ _ _ _ rfl
    simp only [go_sem, Nat.reduceLT]
    refine ⟨n - 1, by omega, k + 1, by omega, ?_⟩
    rw [w64 (by omega) (by omega)]
    simp only [aEF]
    congr 3
    omega
  · have : k = 8 := by omega
    subst this; exact hK

def gS.C : aF
  | [.sl _ (.ints .i64 l)] => some (false, pD (roomy l.length) (.int .i64 (aAv l)))
  | _ => none
theorem gS.spec : bJ Tryz.prog 93 gS.C := by
  refine bJ.of (bU (F := [(111, dH.C)]) (S := [(112, fI.K)]) (by simpa using dH.spec) (by simpa using fI.spec) gS.loops) gS.at gS.nm gS.bd ?_
  intro vs b S v news e hS
  unfold gS.C at e
  split at e
  rotate_left
  · cases e
  rw [gS.eq]
  rename_i x l
  cases e
  unfold roomy at hS
  unfold gS.H
  have htl : tabL.length = 256 := aKS
  simp only [go_sem, reduceEqDiff, Nat.reduceLT, dH.C, htl, List.length_replicate, aB]
  unfold gS.L1
  refine ⟨fun n lv h' => ∃ k : Nat, k + n = l.length ∧ lv = [.int .u32 ((l.take k).foldl (aIx tabL) 4294967295), .int .i64 k] ∧ h' = [.row .arr 0 (.ints .u32 tabL)], ⟨l.length, 0, by omega, rfl, rfl⟩, ?_⟩
  rintro n h' t4 t10 ⟨k, hk, hlv, rfl⟩
  simp only [List.cons.injEq, and_true] at hlv
  obtain ⟨rfl, rfl⟩ := hlv
  simp only [go_sem, Nat.reduceLT, reduceEqDiff]
  refine ⟨fun hlt => ?_, fun hge => ?_⟩
  · refine ⟨by omega, ?_⟩
    apply aGL tabL htl _ _ _ _ rfl
    simp only [go_sem, Nat.reduceLT]
    refine ⟨n - 1, by omega, k + 1, by omega, ?_⟩
    rw [w64 (by omega) (by omega)]
    have hkl : k < l.length := by omega
    have : l.take (k + 1) = l.take k ++ [l.getD k 0] := by
      rw [List.take_add_one, List.getElem?_eq_getElem hkl, List.getD_eq_getElem?_getD, List.getElem?_eq_getElem hkl]; rfl
    rw [this, List.foldl_append]
    rfl
  · have : k = l.length := by omega
    subst this
    rw [List.take_length]
    exact aJ rfl rfl
end Lam
namespace Lam
open Go Go.Proofs
def gM.C : aF
  | [.sl _ (.ints .i64 l)] => some (false, pD (roomy l.length) (newM l))
  | _ => none
theorem gM.spec : bJ Tryz.prog 28 gM.C := by
  refine bJ.of (bU (F := [(33, eK.C), (34, bA.C)]) (S := []) (by simpa using ⟨eK.spec, bA.spec⟩) (by simp) gM.loops) gM.at gM.nm gM.bd ?_
  intro vs b S v news e hS
  unfold gM.C at e
  split at e
  rotate_left
  · cases e
  cases e
  rw [gM.eq]
  unfold gM.H
  simp (maxSteps := 4000000) only [go_sem, reduceEqDiff, Nat.reduceLT, reduceAdd, reduceSub, reduceLeDiff, reduceReplicate, reduceToNat, eK.C, bA.C]
  rename_i l
  unfold roomy at hS
  refine ⟨fun hb => ?_, fun hb => ?_⟩
  · unfold newM; rw [hb]; exact aJ rfl rfl
  · refine ⟨hS, hS, ?_⟩
    unfold newM; simp only [hb, if_true]
    refine aJ ?_ rfl
    simp only [go_sem, reduceEqDiff, Nat.reduceLT, reduceAdd, reduceSub, reduceLeDiff, reduceReplicate, reduceToNat, memV, List.take_length]
end Lam
namespace Lam
open Go Go.Proofs
def gO.loops : Nat → bX
 | _ => ⟨[], [], [], [], [], []⟩
def gO.H (c : Ctx) (t0 : AV) (t1 : AV) (h : List AObj) (K : AOut → List AObj → Prop) : Prop :=
 boxW aL t0 h fun t2 h =>
 boxW eT t1 h fun t3 h =>
 cK aL h fun t4 h =>
 runD (fitD aL (aD h t2)) h fun t6 h =>
 runD (fitD eT (aD h t3)) h fun t7 h =>
 runD (fD jC 1 [(0, t7)] h.length) h fun t8 h =>
 bB false c (.fn (.func 96) [] []) [t6, t8] h (fun t9 h =>
 runD (bM t9 0) h fun t10 h =>
 runD (bM t9 1) h fun t11 h =>
 runH (aQ aL h t4 t10) h fun _ h =>
 cL (fitD aL (aD h t4)) fun r0 => K (.ret (.tup [r0, t11])) h)
 (fun v h => K (.pan v) h)
def gF.loops : Nat → bX
 | _ => ⟨[], [], [], [], [], []⟩
def gF.H (c : Ctx) (t0 : AV) (t1 : AV) (h : List AObj) (K : AOut → List AObj → Prop) : Prop :=
 boxW aL t0 h fun t2 h =>
 cK aL h fun t4 h =>
 runD (fitD aL (aD h t2)) h fun t6 h =>
 bB false c (.fn (.func 113) [] []) [t6, t1] h (fun t8 h =>
 runD (unD .not t8) h fun t9 h =>
 aZ t9
 (runD (fitD aL (aD h t2)) h fun t10 h =>
 runH (aQ aL h t4 t10) h fun _ h =>
 cL (fitD aL (aD h t4)) fun r0 => K (.ret (.tup [r0, (.int .i64 40)])) h)
 (runD (fitD aL (aD h t2)) h fun t11 h =>
 runD (lenD jC h t1) h fun t14 h =>
 bB false c (.fn (.func 114) [] []) [t11, t1, t14] h (fun t15 h =>
 runH (aQ aL h t4 t15) h fun _ h =>
 cL (fitD aL (aD h t4)) fun r0 => K (.ret (.tup [r0, (.int .i64 0)])) h)
 (fun v h => K (.pan v) h)))
 (fun v h => K (.pan v) h)
def eU.loops : Nat → bX
 | 1 => ⟨[], [], [], [(3, none), (5, some [7, 12])], [], []⟩
 | _ => ⟨[], [], [], [], [], []⟩
def eU.H (c : Ctx) (t0 : AV) (t1 : AV) (h : List AObj) (K : AOut → List AObj → Prop) : Prop :=
 boxW aL t0 h fun t2 h =>
 runD (fitD aL (aD h t2)) h fun t5 h =>
 bB false c (.fn (.func 13) [] []) [t5] h (fun t6 h =>
 aM (fun (J1 : AV → AV → List AObj → Prop) =>
 aX t6 true
 (runD (aC aL t2 0) h fun t9 h =>
 runD (fitD aP (aD h t9)) h fun t10 h =>
 runD (lenD aP h t10) h fun t11 h =>
 bB false c (.fn (.func 123) [] []) [t1, t11] h (fun t12 h =>
 J1 (.bool true) t12 h)
 (fun v h => K (.pan v) h))
 (J1 (.bool false) .und h))
 (fun t7 t12 h => runD (bP t7 t12 (.bool false)) h fun t13 h =>
 K (.ret t13) h))
 (fun v h => K (.pan v) h)
def dR.loops : Nat → bX
 | 4 => ⟨[15], [false], [1, 6, 7, 8, 14], [], [], []⟩
 | _ => ⟨[], [], [], [], [], []⟩
def dR.L1 (c : Ctx) (J1 : AV → AV → List AObj → Prop) (K : AOut → List AObj → Prop) (lv : List AV) (h0 : List AObj) (n0 : Nat) (c1 : AV) (c6 : AV) (c7 : AV) (c8 : AV) (c14 : AV) : Prop :=
 ∃ I : Nat → List AV → List AObj → Prop, (∃ n, I n lv h0) ∧ ∀ n h, ∀ t15, I n [t15] h →
 runD (binD aA .lss t15 c14) h fun t16 h =>
 aZ t16
 (runD (aH jC h c1 t15) h fun t21 h =>
 runD (aC eT t21 0) h fun t22 h =>
 runD (fitD aA (aD h t22)) h fun t23 h =>
 runD (kS eD h c8 t23) h fun t24 h =>
 runD (aH jC h c1 t15) h fun t28 h =>
 runD (fitD eT (aD h t28)) h fun t29 h =>
 bB false c t24 [c7, t29] h (fun t30 h =>
 runD (binD aA .add t15 (.int .i64 1)) h fun t31 h =>
 (∃ m, m < n ∧ I m (AV.norms n0 h [t31]) (cG n0 h)) ∧ AV.norms n0 h [c1, c6, c7, c8, c14] = [c1, c6, c7, c8, c14])
 (fun v h => K (.pan v) h))
 (J1 c6 c7 h)
def dR.H (c : Ctx) (t0 : AV) (t1 : AV) (t2 : AV) (h : List AObj) (K : AOut → List AObj → Prop) : Prop :=
 boxW aL t0 h fun t3 h =>
 cK aL h fun t6 h =>
 runD (fitD aL (aD h t3)) h fun t10 h =>
 runD (gC iD [(0, t10)]) h fun t11 h =>
 boxW iD t11 h fun t12 h =>
 bB false c (.fn (.func 124) [] []) [] h (fun t13 h =>
 aM (fun (J1 : AV → AV → List AObj → Prop) =>
 dE [false] [(.int .i64 0)] h fun lv h => dR.L1 c J1 K (AV.norms h.length h lv) (cG h.length h) h.length (AV.norm h.length h t1) (AV.norm h.length h t6) (AV.norm h.length h t12) (AV.norm h.length h t13) (AV.norm h.length h t2))
 (fun t6 t7 h => runD (cJ t7) h fun t33 h =>
 runD (aC iD t33 0) h fun t34 h =>
 runD (fitD aL (aD h t34)) h fun t35 h =>
 runH (aQ aL h t6 t35) h fun _ h =>
 cL (fitD aL (aD h t6)) fun r0 => K (.ret r0) h))
 (fun v h => K (.pan v) h)
def eV.loops : Nat → bX
 | 1 => ⟨[], [], [], [(3, none), (2, some [8, 10]), (2, none), (3, some [12, 15])], [], []⟩
 | 2 => ⟨[], [], [], [(2, none), (4, some [18, 22])], [], []⟩
 | _ => ⟨[], [], [], [], [], []⟩
def eV.H (c : Ctx) (t0 : AV) (t1 : AV) (h : List AObj) (K : AOut → List AObj → Prop) : Prop :=
 boxW aA t1 h fun t3 h =>
 runD (fitD aA (aD h t3)) h fun t6 h =>
 runD (binD aA .geq t6 (.int .i64 0)) h fun t7 h =>
 aM (fun (J1 : AV → AV → List AObj → Prop) =>
 aX t7 true
 (runD (fitD aA (aD h t3)) h fun t9 h =>
 runD (binD aA .leq t9 (.int .i64 4096)) h fun t10 h =>
 J1 (.bool true) t10 h)
 (J1 (.bool false) .und h))
 (fun t8 t10 h => runD (bP t8 t10 (.bool false)) h fun t11 h =>
 aM (fun (J2 : AV → AV → List AObj → Prop) =>
 aX t11 true
 (runD (fitD aA (aD h t3)) h fun t13 h =>
 runD (binD aA .rem t13 (.int .i64 8)) h fun t14 h =>
 runD (binD aA .eql t14 (.int .i64 0)) h fun t15 h =>
 J2 (.bool true) t15 h)
 (J2 (.bool false) .und h))
 (fun t12 t15 h => runD (bP t12 t15 (.bool false)) h fun t16 h =>
 aM (fun (J3 : AV → AV → List AObj → Prop) =>
 aX t16 true
 (bB false c (.fn (.func 136) [] []) [t0, (.fn (.func 137) [] [t3])] h (fun t21 h =>
 runD (unD .not t21) h fun t22 h =>
 J3 (.bool true) t22 h)
 (fun v h => K (.pan v) h))
 (J3 (.bool false) .und h))
 (fun t18 t22 h => runD (bP t18 t22 (.bool false)) h fun t23 h =>
 K (.ret t23) h)))
def dW.loops : Nat → bX
 | _ => ⟨[], [], [], [], [], []⟩
def dW.H (c : Ctx) (h : List AObj) (K : AOut → List AObj → Prop) : Prop :=
 runD (jP eD h.length) h fun t1 h =>
 runH (iQ eD h t1 (.int .i64 1) (.fn (.func 139) [] [])) h fun _ h =>
 runH (iQ eD h t1 (.int .i64 2) (.fn (.func 140) [] [])) h fun _ h =>
 K (.ret t1) h
def cZ.loops : Nat → bX
 | _ => ⟨[], [], [], [], [], []⟩
def cZ.H (c : Ctx) (t0 : AV) (t1 : AV) (h : List AObj) (K : AOut → List AObj → Prop) : Prop :=
 boxW eT t0 h fun t2 h =>
 runD (fitD eT (aD h t2)) h fun t4 h =>
 runD (fitD aA (aD h t1)) h fun t5 h =>
 bB false c (.fn (.func 138) [] []) [t4, t5] h (fun t6 h =>
 runD (unD .not t6) h fun t7 h =>
 K (.ret t7) h)
 (fun v h => K (.pan v) h)
def fX.loops : Nat → bX
 | 2 => ⟨[], [], [], [(4, none), (7, some [14, 21]), (2, none), (8, some [23, 31])], [], []⟩
 | _ => ⟨[], [], [], [], [], []⟩
def fX.H (c : Ctx) (t0 : AV) (t1 : AV) (h : List AObj) (K : AOut → List AObj → Prop) : Prop :=
 boxW eT t0 h fun t2 h =>
 runD (jP lK h.length) h fun t6 h =>
 runH (iQ lK h t6 (.int .i64 1) t1) h fun _ h =>
 runD (binD aA .quo t1 (.int .i64 8)) h fun t9 h =>
 runH (iQ lK h t6 (.int .i64 2) t9) h fun _ h =>
 runD (aC eT t2 1) h fun t11 h =>
 runD (fitD aA (aD h t11)) h fun t12 h =>
 runD (binD aA .geq t12 (.int .i64 0)) h fun t13 h =>
 aM (fun (J1 : AV → AV → List AObj → Prop) =>
 aX t13 true
 (runD (aC eT t2 1) h fun t15 h =>
 runD (fitD aA (aD h t15)) h fun t16 h =>
 runD (aC eT t2 0) h fun t18 h =>
 runD (fitD aA (aD h t18)) h fun t19 h =>
 runD (kS lK h t6 t19) h fun t20 h =>
 runD (binD aA .lss t16 t20) h fun t21 h =>
 J1 (.bool true) t21 h)
 (J1 (.bool false) .und h))
 (fun t14 t21 h => runD (bP t14 t21 (.bool false)) h fun t22 h =>
 aM (fun (J2 : AV → AV → List AObj → Prop) =>
 aX t22 true
 (runD (aC eT t2 0) h fun t24 h =>
 runD (fitD aA (aD h t24)) h fun t25 h =>
 runD (binD aA .eql t25 (.int .i64 1)) h fun t26 h =>
 aM (fun (J3 : AV → AV → List AObj → Prop) =>
 aX t26 false
 (runD (aC eT t2 2) h fun t28 h =>
 runD (fitD aA (aD h t28)) h fun t29 h =>
 runD (binD aA .eql t29 (.int .i64 0)) h fun t30 h =>
 J3 (.bool false) t30 h)
 (J3 (.bool true) .und h))
 (fun t27 t30 h => runD (bP t27 (.bool true) t30) h fun t31 h =>
 J2 (.bool true) t31 h))
 (J2 (.bool false) .und h))
 (fun t23 t31 h => runD (bP t23 t31 (.bool false)) h fun t32 h =>
 K (.ret t32) h))
def cP.loops : Nat → bX
 | _ => ⟨[], [], [], [], [], []⟩
def cP.H (c : Ctx) (t0 : AV) (t1 : AV) (h : List AObj) (K : AOut → List AObj → Prop) : Prop :=
 boxW eT t1 h fun t3 h =>
 runD (cJ t0) h fun t7 h =>
 runD (aC iD t7 0) h fun t8 h =>
 runD (fitD aL (aD h t8)) h fun t9 h =>
 runD (aC eT t3 1) h fun t10 h =>
 runD (fitD aA (aD h t10)) h fun t11 h =>
 runD (aC eT t3 2) h fun t12 h =>
 runD (fitD aA (aD h t12)) h fun t13 h =>
 bB false c.noS (.fn (.func 148) [] []) [t9, t11, t13] h (fun t14 h =>
 runD (bM t14 0) h fun t15 h =>
 runD (bM t14 1) h fun t16 h =>
 runD (cJ t0) h fun t17 h =>
 runD (aC iD t17 0) h fun t18 h =>
 runH (aQ aL h t18 t15) h fun _ h =>
 K (.ret (.tup [])) h)
 (fun _ _ => False)
def cH.loops : Nat → bX
 | _ => ⟨[], [], [], [], [], []⟩
def cH.H (c : Ctx) (t0 : AV) (t1 : AV) (h : List AObj) (K : AOut → List AObj → Prop) : Prop :=
 boxW eT t1 h fun t3 h =>
 runD (cJ t0) h fun t7 h =>
 runD (aC iD t7 0) h fun t8 h =>
 runD (fitD aL (aD h t8)) h fun t9 h =>
 runD (aC eT t3 1) h fun t10 h =>
 runD (fitD aA (aD h t10)) h fun t11 h =>
 bB false c.noS (.fn (.func 149) [] []) [t9, t11] h (fun t12 h =>
 runD (bM t12 0) h fun t13 h =>
 runD (bM t12 1) h fun t14 h =>
 runD (cJ t0) h fun t15 h =>
 runD (aC iD t15 0) h fun t16 h =>
 runH (aQ aL h t16 t13) h fun _ h =>
 runD (cJ t0) h fun t20 h =>
 runD (aC iD t20 0) h fun t21 h =>
 runD (fitD aL (aD h t21)) h fun t22 h =>
 bB false c (.fn (.func 150) [] []) [t22] h (fun t23 h =>
 runD (bM t23 0) h fun t24 h =>
 runD (bM t23 1) h fun t25 h =>
 runD (cJ t0) h fun t26 h =>
 runD (aC iD t26 0) h fun t27 h =>
 runH (aQ aL h t27 t24) h fun _ h =>
 K (.ret (.tup [])) h)
 (fun v h => K (.pan v) h))
 (fun _ _ => False)
theorem gO.eq (F : List (FuncId × aF)) (S : List (FuncId × Con)) (t0 t1 : AV) (h : List AObj) (K : AOut → List AObj → Prop) : funW (ctx F S gO.loops) Tryz.f74 [t0, t1] h K = gO.H (ctx F S gO.loops) t0 t1 h K := by kernel_rfl
theorem gF.eq (F : List (FuncId × aF)) (S : List (FuncId × Con)) (t0 t1 : AV) (h : List AObj) (K : AOut → List AObj → Prop) : funW (ctx F S gF.loops) Tryz.f96 [t0, t1] h K = gF.H (ctx F S gF.loops) t0 t1 h K := by kernel_rfl
theorem eU.eq (F : List (FuncId × aF)) (S : List (FuncId × Con)) (t0 t1 : AV) (h : List AObj) (K : AOut → List AObj → Prop) : funW (ctx F S eU.loops) Tryz.f113 [t0, t1] h K = eU.H (ctx F S eU.loops) t0 t1 h K := by kernel_rfl
theorem dR.eq (F : List (FuncId × aF)) (S : List (FuncId × Con)) (t0 t1 t2 : AV) (h : List AObj) (K : AOut → List AObj → Prop) : funW (ctx F S dR.loops) Tryz.f114 [t0, t1, t2] h K = dR.H (ctx F S dR.loops) t0 t1 t2 h K := by kernel_rfl
theorem eV.eq (F : List (FuncId × aF)) (S : List (FuncId × Con)) (t0 t1 : AV) (h : List AObj) (K : AOut → List AObj → Prop) : funW (ctx F S eV.loops) Tryz.f123 [t0, t1] h K = eV.H (ctx F S eV.loops) t0 t1 h K := by kernel_rfl
theorem dW.eq (F : List (FuncId × aF)) (S : List (FuncId × Con)) (h : List AObj) (K : AOut → List AObj → Prop) : funW (ctx F S dW.loops) Tryz.f124 [] h K = dW.H (ctx F S dW.loops)  h K := by kernel_rfl
theorem cZ.eq (F : List (FuncId × aF)) (S : List (FuncId × Con)) (t0 t1 : AV) (h : List AObj) (K : AOut → List AObj → Prop) : funW (ctx F S cZ.loops) Tryz.f137 [t0, t1] h K = cZ.H (ctx F S cZ.loops) t0 t1 h K := by kernel_rfl
theorem fX.eq (F : List (FuncId × aF)) (S : List (FuncId × Con)) (t0 t1 : AV) (h : List AObj) (K : AOut → List AObj → Prop) : funW (ctx F S fX.loops) Tryz.f138 [t0, t1] h K = fX.H (ctx F S fX.loops) t0 t1 h K := by kernel_rfl
theorem cP.eq (F : List (FuncId × aF)) (S : List (FuncId × Con)) (t0 t1 : AV) (h : List AObj) (K : AOut → List AObj → Prop) : funW (ctx F S cP.loops) Tryz.f139 [t0, t1] h K = cP.H (ctx F S cP.loops) t0 t1 h K := by kernel_rfl
theorem cH.eq (F : List (FuncId × aF)) (S : List (FuncId × Con)) (t0 t1 : AV) (h : List AObj) (K : AOut → List AObj → Prop) : funW (ctx F S cH.loops) Tryz.f140 [t0, t1] h K = cH.H (ctx F S cH.loops) t0 t1 h K := by kernel_rfl
theorem gO.at : Tryz.prog.funcs[74]? = some Tryz.f74 := by kernel_rfl
theorem gO.nm : (Tryz.f74.name == "runtime.NumGoroutine") = false := by kernel_rfl
theorem gO.bd : Tryz.f74.body.isNone = false := by kernel_rfl
theorem gF.at : Tryz.prog.funcs[96]? = some Tryz.f96 := by kernel_rfl
theorem gF.nm : (Tryz.f96.name == "runtime.NumGoroutine") = false := by kernel_rfl
theorem gF.bd : Tryz.f96.body.isNone = false := by kernel_rfl
theorem eU.at : Tryz.prog.funcs[113]? = some Tryz.f113 := by kernel_rfl
theorem eU.nm : (Tryz.f113.name == "runtime.NumGoroutine") = false := by kernel_rfl
theorem eU.bd : Tryz.f113.body.isNone = false := by kernel_rfl
theorem dR.at : Tryz.prog.funcs[114]? = some Tryz.f114 := by kernel_rfl
theorem dR.nm : (Tryz.f114.name == "runtime.NumGoroutine") = false := by kernel_rfl
theorem dR.bd : Tryz.f114.body.isNone = false := by kernel_rfl
theorem eV.at : Tryz.prog.funcs[123]? = some Tryz.f123 := by kernel_rfl
theorem eV.nm : (Tryz.f123.name == "runtime.NumGoroutine") = false := by kernel_rfl
theorem eV.bd : Tryz.f123.body.isNone = false := by kernel_rfl
theorem dW.at : Tryz.prog.funcs[124]? = some Tryz.f124 := by kernel_rfl
theorem dW.nm : (Tryz.f124.name == "runtime.NumGoroutine") = false := by kernel_rfl
theorem dW.bd : Tryz.f124.body.isNone = false := by kernel_rfl
theorem cZ.at : Tryz.prog.funcs[137]? = some Tryz.f137 := by kernel_rfl
theorem cZ.nm : (Tryz.f137.name == "runtime.NumGoroutine") = false := by kernel_rfl
theorem cZ.bd : Tryz.f137.body.isNone = false := by kernel_rfl
theorem fX.at : Tryz.prog.funcs[138]? = some Tryz.f138 := by kernel_rfl
theorem fX.nm : (Tryz.f138.name == "runtime.NumGoroutine") = false := by kernel_rfl
theorem fX.bd : Tryz.f138.body.isNone = false := by kernel_rfl
theorem cP.at : Tryz.prog.funcs[139]? = some Tryz.f139 := by kernel_rfl
theorem cP.nm : (Tryz.f139.name == "runtime.NumGoroutine") = false := by kernel_rfl
theorem cP.bd : Tryz.f139.body.isNone = false := by kernel_rfl
theorem cH.at : Tryz.prog.funcs[140]? = some Tryz.f140 := by kernel_rfl
theorem cH.nm : (Tryz.f140.name == "runtime.NumGoroutine") = false := by kernel_rfl
theorem cH.bd : Tryz.f140.body.isNone = false := by kernel_rfl
end Lam
namespace Lam
open Go Go.Proofs
def fX.C : aF
  | [.agg [.int .i64 k, .int .i64 a, .int .i64 w], .int .i64 n] => some (false, pD True (.bool (mmay ⟨k, a, w⟩ n)))
  | _ => none
theorem fX.spec : bJ Tryz.prog 138 fX.C := by
  refine bJ.of (bU (F := []) (S := []) (by simp) (by simp) fX.loops) fX.at fX.nm fX.bd ?_
  intro vs b S v news e hS
  unfold fX.C at e
  split at e
  rotate_left
  · cases e
  cases e
  rw [fX.eq]
  unfold fX.H
  simp (maxSteps := 4000000) only [go_sem, reduceEqDiff, Nat.reduceLT, reduceAdd, reduceSub, reduceLeDiff, reduceReplicate, reduceToNat]
  refine ⟨by decide, ?_⟩
  exact aJ rfl rfl
def cZ.K : Con := fun args h K => match args with
  | [a0, a1] => cZ.H (ctx [(138, fX.C)] [] cZ.loops) a0 a1 h K
  | _ => False
theorem cZ.spec : dB Tryz.prog 137 cZ.K := by
  refine dB.of (bU (F := [(138, fX.C)]) (S := []) (by simpa using fX.spec) (by simp) cZ.loops) cZ.at cZ.nm cZ.bd ?_
  intro args h K hC
  unfold cZ.K at hC
  split at hC
  · rw [cZ.eq]; exact hC
  · exact hC.elim
def aN.K : Con := fun args h K => match args with
  | [a0, a1] => aN.H (ctx [] [(137, cZ.K)] aN.loops) a0 a1 h K
  | _ => False
theorem aN.spec : dB Tryz.prog 147 aN.K := by
  refine dB.of (bU (F := []) (S := [(137, cZ.K)]) (by simp) (by simpa using cZ.spec) aN.loops) aN.at aN.nm aN.bd ?_
  intro args h K hC
  unfold aN.K at hC
  split at hC
  · rw [aN.eq]; exact hC
  · exact hC.elim
def aR.K : Con := fun args h K => match args with
  | [a0, a1] => aR.H (ctx [] [(147, aN.K)] aR.loops) a0 a1 h K
  | _ => False
theorem aR.spec : dB Tryz.prog 136 aR.K := by
  refine dB.of (bU (F := []) (S := [(147, aN.K)]) (by simp) (by simpa using aN.spec) aR.loops) aR.at aR.nm aR.bd ?_
  intro args h K hC
  unfold aR.K at hC
  split at hC
  · rw [aR.eq]; exact hC
  · exact hC.elim

theorem aBA (x : Mic) (n : Int) (h : List AObj) (K : AOut → List AObj → Prop) (id : Nat) (hid : h[id]? = some (.box (.int .i64 n)))
    (hK : K (.ret (.bool (!mmay x n))) (h ++ [.box (aEN x)])) : cZ.K [.agg [.int .i64 x.kind, .int .i64 x.at_, .int .i64 x.val], .ptr id []] h K := by
  have hlt : id < h.length := (List.getElem?_eq_some_iff.1 hid).1
  have hid' : ∀ r, (h ++ r)[id]? = some (.box (.int .i64 n)) := fun r => by rw [List.getElem?_append_left hlt]; exact hid
  have hlen : ∀ o r, (h ++ o :: r)[h.length]? = some o := fun o r => by simp
  unfold cZ.K
  simp only
  unfold cZ.H
  simp only [go_sem, reduceEqDiff, Nat.reduceLT, reduceAdd, reduceSub, reduceLeDiff, reduceReplicate, reduceToNat, hid', hlen, fX.C]
  exact hK

theorem aLa (l : List Mic) (n : Int) (K : AOut → List AObj → Prop) (x : Bool) (hr : roomy l.length) (h : List AObj) (hh : h = [.box (.int .i64 n)])
    (hK : ∀ r h', (r = -1 ∧ (∀ y ∈ l, mmay y n = true)) ∨ (0 ≤ r ∧ ∃ y ∈ l, mmay y n = false) → K (.ret (.int .i64 r)) h') :
    aN.K [.sl x (.mics l), .fn (.func 137) [] [.ptr 0 []]] h K := by
  unfold roomy at hr
  unfold aN.K
  simp only
  unfold aN.H
  subst hh
  simp only [go_sem, reduceEqDiff, Nat.reduceLT, reduceAdd, reduceSub, reduceLeDiff, reduceReplicate, reduceToNat, aB]
  unfold aN.L1
  refine ⟨fun m lv h' => ∃ k : Nat, k + m = l.length ∧ lv = [.int .i64 k] ∧ h' = [.box (.int .i64 n)] ∧ ∀ y ∈ l.take k, mmay y n = true, ⟨l.length, 0, by omega, rfl, rfl, by simp⟩, ?_⟩
  rintro m h' t8 ⟨k, hk, hlv, rfl, hall⟩
  simp only [List.cons.injEq, and_true] at hlv
  subst hlv
  simp only [go_sem, reduceEqDiff, Nat.reduceLT, reduceAdd, reduceSub, reduceLeDiff, reduceReplicate, reduceToNat]
  refine ⟨fun hlt => ⟨by omega, ?_⟩, fun hge => ?_⟩
  · have hkl : k < l.length := by omega
    apply aBA _ n _ _ 0 rfl
    simp only [go_sem, reduceEqDiff, Nat.reduceLT, reduceAdd, reduceSub, reduceLeDiff, reduceReplicate, reduceToNat]
    refine ⟨fun h => hK _ _ (.inr ⟨by omega, _, kX l k _ hkl, by simpa using h⟩), fun h => ?_⟩
    refine ⟨m - 1, by omega, k + 1, by omega, by rw [w64 (by omega) (by omega)]; rfl, ?_⟩
    intro y hy
    rw [iC l k ⟨0, 0, 0⟩ hkl] at hy
    rcases List.mem_append.1 hy with hy | hy
    · exact hall y hy
    · rw [List.mem_singleton.1 hy]; simpa using h
  · have : k = l.length := by omega
    subst this
    rw [List.take_length] at hall
    exact hK _ _ (.inl ⟨rfl, hall⟩)

theorem aGM (l : List Mic) (n : Int) (K : AOut → List AObj → Prop) (x : Bool) (hr : roomy l.length) (h : List AObj) (hh : h = [.box (.int .i64 n)])
    (hK : ∀ h', K (.ret (.bool (!l.all (mmay · n)))) h') :
    aR.K [.sl x (.mics l), .fn (.func 137) [] [.ptr 0 []]] h K := by
  unfold aR.K
  simp only
  unfold aR.H
  subst hh
  simp only [go_sem, reduceEqDiff, Nat.reduceLT, reduceAdd, reduceSub, reduceLeDiff, reduceReplicate, reduceToNat]
  apply aLa l n _ x hr _ rfl
  intro r h' hcase
  simp only [go_sem, reduceEqDiff, Nat.reduceLT, reduceAdd, reduceSub, reduceLeDiff, reduceReplicate, reduceToNat]
  have : decide (0 ≤ r) = !l.all (mmay · n) := by
    rcases hcase with ⟨rfl, h⟩ | ⟨h0, y, hy, h⟩
    · have : l.all (mmay · n) = true := List.all_eq_true.2 h
      rw [this]; rfl
    · have : l.all (mmay · n) = false := by
        rw [List.all_eq_false]; exact ⟨y, hy, by simp [h]⟩
      rw [this]; simpa using h0
  rw [this]; exact hK h'

def eV.C : aF
  | [.sl _ (.mics l), .int .i64 n] => some (false, pD (roomy l.length) (.bool (zO n && l.all (mmay · n))))
  | _ => none
theorem eV.spec : bJ Tryz.prog 123 eV.C := by
  refine bJ.of (bU (F := []) (S := [(136, aR.K)]) (by simp) (by simpa using aR.spec) eV.loops) eV.at eV.nm eV.bd ?_
  intro vs b S v news e hS
  unfold eV.C at e
  split at e
  rotate_left
  · cases e
  cases e
  rw [eV.eq]
  unfold eV.H
  simp (maxSteps := 4000000) only [go_sem, reduceEqDiff, Nat.reduceLT, reduceAdd, reduceSub, reduceLeDiff, reduceReplicate, reduceToNat]
  refine ⟨by simp, ?_⟩
  rw [aB]
  simp only [mY]
  refine ⟨fun hs => ?_, fun hs => ?_⟩
  · apply aGM _ _ _ _ hS _ rfl
    intro h'
    simp only [go_sem, reduceEqDiff, Nat.reduceLT, reduceAdd, reduceSub, reduceLeDiff, reduceReplicate, reduceToNat, Bool.not_not]
    exact aJ (by rw [show zO _ = true from hs, Bool.true_and]; rfl) rfl
  · simp only [go_sem, reduceEqDiff, Nat.reduceLT, reduceAdd, reduceSub, reduceLeDiff, reduceReplicate, reduceToNat]
    exact aJ (by rw [show zO _ = false from hs, Bool.false_and]; rfl) rfl


def cP.K : Con := fun args h K => match args with
  | [a0, a1] => cP.H (ctx [(148, gN.C)] [] cP.loops) a0 a1 h K
  | _ => False
theorem cP.spec : dB Tryz.prog 139 cP.K := by
  refine dB.of (bU (F := [(148, gN.C)]) (S := []) (by simpa using gN.spec) (by simp) cP.loops) cP.at cP.nm cP.bd ?_
  intro args h K hC
  unfold cP.K at hC
  split at hC
  · rw [cP.eq]; exact hC
  · exact hC.elim
def cH.K : Con := fun args h K => match args with
  | [a0, a1] => cH.H (ctx [(149, fE.C), (150, fF.C)] [] cH.loops) a0 a1 h K
  | _ => False
theorem cH.spec : dB Tryz.prog 140 cH.K := by
  refine dB.of (bU (F := [(149, fE.C), (150, fF.C)]) (S := []) (by simpa using ⟨fE.spec, fF.spec⟩) (by simp) cH.loops) cH.at cH.nm cH.bd ?_
  intro args h K hC
  unfold cH.K at hC
  split at hC
  · rw [cH.eq]; exact hC
  · exact hC.elim
def dW.K : Con := fun args h K => match args with
  | [] => dW.H (ctx [] [] dW.loops)  h K
  | _ => False
theorem dW.spec : dB Tryz.prog 124 dW.K := by
  refine dB.of (bU (F := []) (S := []) (by simp) (by simp) dW.loops) dW.at dW.nm dW.bd ?_
  intro args h K hC
  unfold dW.K at hC
  split at hC
  · rw [dW.eq]; exact hC
  · exact hC.elim
def dR.C : aF
  | [.agg [.sl false (.ints .i64 vol), .sl false (.ints .i64 per), .sl false (.pends pend)], .sl _ (.mics l), .int .i64 n] => some (false, pD (Mm.ok ⟨vol, per, pend⟩ ∧ (∀ x ∈ l, MayN x vol.length) ∧ pend.length + l.length ≤ 1000000 ∧ 0 ≤ n ∧ n ≤ (l.length : Int)) (runS ⟨vol, per, pend⟩ (l.take n.toNat)).V)
  | _ => none
theorem dR.spec : bJ Tryz.prog 114 dR.C := by
  refine bJ.of (bU (F := []) (S := [(124, dW.K), (139, cP.K), (140, cH.K)]) (by simp) (by simpa using ⟨dW.spec, cP.spec, cH.spec⟩) dR.loops) dR.at dR.nm dR.bd ?_
  intro vs b S v news e hS
  unfold dR.C at e
  split at e
  rotate_left
  · cases e
  cases e
  rw [dR.eq]
  unfold dR.H
  simp (maxSteps := 4000000) only [go_sem, reduceEqDiff, Nat.reduceLT, reduceAdd, reduceSub, reduceLeDiff, reduceReplicate, reduceToNat, dW.K, dW.H]
  rename_i vol per pend _ l n
  obtain ⟨ok, hl, hsz, hn0, hn1⟩ := hS
  rw [aB]
  unfold dR.L1
  refine lD (σ := Nat) (fun k => .int .i64 k) (fun k => [.box (memV vol per pend), .box (memV [] [] []), .box (.agg [(runS ⟨vol, per, pend⟩ (l.take k)).V]), .map (.ifn fun j => if j = 2 then some 140 else if j = 1 then some 139 else none)]) (fun k => n.toNat - k) (fun k => k ≤ n.toNat) 0 rfl rfl (Nat.zero_le _) ?_
  intro I back k hk
  have okk := aHl (l.take k) ok fun x hx => hl x ((List.take_sublist _ _).subset hx)
  have lenk := aFB (l.take k) ⟨vol, per, pend⟩
  have pendk := zQ (l.take k) ⟨vol, per, pend⟩
  rw [List.length_take] at pendk
  simp only [] at lenk pendk
  simp only [go_sem, reduceEqDiff, Nat.reduceLT, reduceAdd, reduceSub, reduceLeDiff, reduceReplicate, reduceToNat]
  refine ⟨fun hlt => ?_, fun hge => ?_⟩
  · have hkl : k < l.length := by omega
    have hnx : runS ⟨vol, per, pend⟩ (l.take (k + 1)) = iP (runS ⟨vol, per, pend⟩ (l.take k)) (l.getD k ⟨0, 0, 0⟩) := by
      rw [iC l k ⟨0, 0, 0⟩ hkl, aGD]; rfl
    have hx := hl _ (kX l k ⟨0, 0, 0⟩ hkl)
    generalize l.getD k ⟨0, 0, 0⟩ = x at *
    generalize runS ⟨vol, per, pend⟩ (l.take k) = m at *
    have hsm : kY m.vol m.per m.pend := OkM.small okk (by omega)
    refine ⟨by omega, ?_⟩
    rcases hx with ⟨hkd, h0, h1⟩ | ⟨hkd, h0, h1, _⟩
    · have hp : lS m.vol m.per m.pend x.at_ = true := aDY.2 ⟨⟨h0, by omega⟩, okk⟩
      have hst : iP m x = store m x.at_ x.val := by unfold iP; rw [if_pos hkd]
      have e : (if x.kind = 2 then some 140 else if x.kind = 1 then some 139 else none : Option Nat) = some 139 := by rw [if_neg (by omega), if_pos hkd]
      simp only [e, cP.K, cP.H, gN.C, aMd hp, go_sem, reduceEqDiff, Nat.reduceLT, reduceAdd, reduceSub, reduceLeDiff, reduceReplicate, reduceToNat]
      refine ⟨by omega, ⟨hsm, by unfold roomy; omega⟩, back (k + 1) (by omega) (by rw [eX (by omega)]) ?_ (by omega)⟩
      rw [hnx, hst]; rfl
    · have hp : lS m.vol m.per m.pend (nO m.vol x.at_) = true := (OkM.first okk h0 (by omega)).2
      have hst : iP m x = tK m x.at_ := by unfold iP; rw [if_neg (by omega)]
      have e : (if x.kind = 2 then some 140 else if x.kind = 1 then some 139 else none : Option Nat) = some 140 := by rw [if_pos hkd]
      have okf := okk.flush x.at_
      simp only [e, cH.K, cH.H, fE.C, aJL hp, aJM, zN.2 okf, fF.C, go_sem, reduceEqDiff, Nat.reduceLT, reduceAdd, reduceSub, reduceLeDiff, reduceReplicate, reduceToNat]
      refine ⟨by omega, hsm, OkM.small okf (by rw [aIn]; omega), back (k + 1) (by omega) (by rw [eX (by omega)]) ?_ (by omega)⟩
      rw [hnx, hst]; rfl
  · have : k = n.toNat := by omega
    subst this
    refine aJ ?_ rfl
    simp only [go_sem, reduceEqDiff, Nat.reduceLT, reduceAdd, reduceSub, reduceLeDiff, reduceReplicate, reduceToNat]

def wQ (m : Mm) (l : List Mic) : Bool := m.okB && aJN l m.vol.length
def eU.C : aF
  | [.agg [.sl false (.ints .i64 vol), .sl false (.ints .i64 per), .sl false (.pends pend)], .sl _ (.mics l)] => some (false, pD (kY vol per pend ∧ roomy l.length) (.bool (wQ ⟨vol, per, pend⟩ l)))
  | _ => none
theorem eU.spec : bJ Tryz.prog 113 eU.C := by
  refine bJ.of (bU (F := [(13, dG.C), (123, eV.C)]) (S := []) (by simpa using ⟨dG.spec, eV.spec⟩) (by simp) eU.loops) eU.at eU.nm eU.bd ?_
  intro vs b S v news e hS
  unfold eU.C at e
  split at e
  rotate_left
  · cases e
  cases e
  rw [eU.eq]
  unfold eU.H
  simp (maxSteps := 4000000) only [go_sem, reduceEqDiff, Nat.reduceLT, reduceAdd, reduceSub, reduceLeDiff, reduceReplicate, reduceToNat, dG.C, eV.C]
  exact ⟨hS.1, fun _ => hS.2, aJ rfl rfl⟩
theorem aKb {m : Mm} {l : List Mic} : wQ m l = true ↔ m.ok ∧ ∀ x ∈ l, MayN x m.vol.length := by
  unfold wQ aJN
  rw [Bool.and_eq_true, Bool.and_eq_true, Mm.ok_iff, List.all_eq_true]
  constructor
  · rintro ⟨h1, _, h2⟩
    exact ⟨h1, fun x hx => (aFA h1.sz).1 (h2 x hx)⟩
  · rintro ⟨h1, h2⟩
    have hmd := h1.md
    have hsz := h1.sz
    refine ⟨h1, ?_, fun x hx => (aFA h1.sz).2 (h2 x hx)⟩
    unfold zO
    simp only [Bool.and_eq_true, decide_eq_true_eq]
    refine ⟨⟨by omega, by omega⟩, ?_⟩
    rw [Int.tmod_eq_emod_of_nonneg (by omega)]; omega
def runV (m : Mm) (l : List Mic) : AV := if wQ m l = true then .tup [(runS m l).V, .int .i64 0] else .tup [m.V, .int .i64 40]
def gF.C : aF
  | [.agg [.sl false (.ints .i64 vol), .sl false (.ints .i64 per), .sl false (.pends pend)], .sl _ (.mics l)] => some (false, pD (kY vol per pend ∧ pend.length + l.length ≤ 1000000) (runV ⟨vol, per, pend⟩ l))
  | _ => none
theorem gF.spec : bJ Tryz.prog 96 gF.C := by
  refine bJ.of (bU (F := [(113, eU.C), (114, dR.C)]) (S := []) (by simpa using ⟨eU.spec, dR.spec⟩) (by simp) gF.loops) gF.at gF.nm gF.bd ?_
  intro vs b S v news e hS
  unfold gF.C at e
  split at e
  rotate_left
  · cases e
  cases e
  rw [gF.eq]
  unfold gF.H
  simp (maxSteps := 4000000) only [go_sem, reduceEqDiff, Nat.reduceLT, reduceAdd, reduceSub, reduceLeDiff, reduceReplicate, reduceToNat, eU.C, dR.C]
  rename_i vol per pend _ l
  obtain ⟨hs, hz⟩ := hS
  refine ⟨⟨hs, by unfold roomy; omega⟩, fun h => ?_, fun h => ?_⟩
  · unfold runV; rw [h]; exact aJ rfl rfl
  · obtain ⟨ok, hl⟩ := aKb.1 h
    refine ⟨⟨ok, hl, hz, by omega, by omega⟩, ?_⟩
    unfold runV; simp only [h, if_true]
    refine aJ ?_ rfl
    simp only [go_sem, reduceEqDiff, Nat.reduceLT, reduceAdd, reduceSub, reduceLeDiff, reduceReplicate, reduceToNat, Int.toNat_natCast, List.take_length]
def gO.C : aF
  | [.agg [.sl false (.ints .i64 vol), .sl false (.ints .i64 per), .sl false (.pends pend)], .agg [.int .i64 a, .int .i64 b, .int .i64 c]] => some (false, pD (kY vol per pend ∧ pend.length + 1 ≤ 1000000) (runV ⟨vol, per, pend⟩ [⟨a, b, c⟩]))
  | _ => none
theorem gO.spec : bJ Tryz.prog 74 gO.C := by
  refine bJ.of (bU (F := [(96, gF.C)]) (S := []) (by simpa using gF.spec) (by simp) gO.loops) gO.at gO.nm gO.bd ?_
  intro vs b S v news e hS
  unfold gO.C at e
  split at e
  rotate_left
  · cases e
  cases e
  rw [gO.eq]
  unfold gO.H
  simp (maxSteps := 4000000) only [go_sem, reduceEqDiff, Nat.reduceLT, reduceAdd, reduceSub, reduceLeDiff, reduceReplicate, reduceToNat, gF.C]
  rename_i vol per pend a b c
  unfold runV
  cases h : wQ ⟨vol, per, pend⟩ [⟨a, b, c⟩]
  · simp only [aB, gq, reduceEq, reduceLT, reduceLE, implies_true, reduceCtorEq, if_true, if_false, go_sem, reduceEqDiff, Nat.reduceLT, reduceAdd, reduceSub, reduceLeDiff, reduceReplicate, reduceToNat]
    exact ⟨⟨hS.1, by omega⟩, aJ rfl rfl⟩
  · simp only [aB, gq, reduceEq, reduceLT, reduceLE, implies_true, reduceCtorEq, if_true, if_false, go_sem, reduceEqDiff, Nat.reduceLT, reduceAdd, reduceSub, reduceLeDiff, reduceReplicate, reduceToNat]
    exact ⟨⟨hS.1, by omega⟩, aJ rfl rfl⟩
end Lam
namespace Lam
open Go Go.Proofs
def eM.loops : Nat → bX
 | 6 => ⟨[47], [false], [5, 45, 46], [], [], []⟩
 | _ => ⟨[], [], [], [], [], []⟩
def eM.L1 (c : Ctx) (J1 : List AObj → Prop) (J4 : AV → List AObj → Prop) (K : AOut → List AObj → Prop) (lv : List AV) (h0 : List AObj) (n0 : Nat) (c5 : AV) (c45 : AV) (c46 : AV) : Prop :=
 ∃ I : Nat → List AV → List AObj → Prop, (∃ n, I n lv h0) ∧ ∀ n h, ∀ t47, I n [t47] h →
 runD (binD aA .lss t47 c46) h fun t48 h =>
 aZ t48
 (runD (aH aP h c45 t47) h fun t49 h =>
 runD (fitD aA (aD h t49)) h fun t50 h =>
 runD (binD aA .neq t50 (.int .i64 0)) h fun t52 h =>
 aZ t52
 (J1 h)
 (runD (binD aA .add t47 (.int .i64 1)) h fun t53 h =>
 (∃ m, m < n ∧ I m (AV.norms n0 h [t53]) (cG n0 h)) ∧ AV.norms n0 h [c5, c45, c46] = [c5, c45, c46]))
 (J4 c5 h)
def eM.H (c : Ctx) (t0 : AV) (h : List AObj) (K : AOut → List AObj → Prop) : Prop :=
 aM (fun (J1 : List AObj → Prop) =>
 cK cR h fun t5 h =>
 runD (lenD aP h t0) h fun t9 h =>
 runD (binD aA .lss t9 (.int .i64 32)) h fun t10 h =>
 aZ t10
 (J1 h)
 (runD (aH aP h t0 (.int .i64 0)) h fun t12 h =>
 runD (fitD aA (aD h t12)) h fun t13 h =>
 runD (aH aP h t0 (.int .i64 1)) h fun t15 h =>
 runD (fitD aA (aD h t15)) h fun t16 h =>
 runD (aH aP h t0 (.int .i64 2)) h fun t18 h =>
 runD (fitD aA (aD h t18)) h fun t19 h =>
 runD (aH aP h t0 (.int .i64 3)) h fun t21 h =>
 runD (fitD aA (aD h t21)) h fun t22 h =>
 runD (gC cR [(0, t13), (1, t16), (2, t19), (3, t22)]) h fun t23 h =>
 runH (aQ cR h t5 t23) h fun _ h =>
 runD (fitD cR (aD h t5)) h fun t24 h =>
 runD (aC cR t5 1) h fun t25 h =>
 runD (fitD aA (aD h t25)) h fun t26 h =>
 runD (aC cR t5 3) h fun t27 h =>
 runD (fitD aA (aD h t27)) h fun t28 h =>
 bB false c.noS (.fn (.func 65) [] []) [t26, t28] h (fun t29 h =>
 runD (binD cR .neq t24 t29) h fun t30 h =>
 aM (fun (J2 : AV → AV → List AObj → Prop) =>
 aX t30 false
 (runD (fitD cR (aD h t5)) h fun t32 h =>
 bB false c.noS (.fn (.func 66) [] []) [t32] h (fun t33 h =>
 runD (unD .not t33) h fun t34 h =>
 J2 (.bool false) t34 h)
 (fun _ _ => False))
 (J2 (.bool true) .und h))
 (fun t31 t34 h => runD (bP t31 (.bool true) t34) h fun t35 h =>
 aM (fun (J3 : AV → AV → List AObj → Prop) =>
 aX t35 false
 (runD (aC cR t5 1) h fun t37 h =>
 runD (fitD aA (aD h t37)) h fun t38 h =>
 runD (lenD aP h t0) h fun t40 h =>
 runD (binD aA .quo t40 (.int .i64 16)) h fun t41 h =>
 runD (binD aA .neq t38 t41) h fun t42 h =>
 J3 (.bool false) t42 h)
 (J3 (.bool true) .und h))
 (fun t36 t42 h => runD (bP t36 (.bool true) t42) h fun t43 h =>
 aZ t43
 (J1 h)
 (runD (dO aP h t0 (some (.int .i64 4)) (some (.int .i64 16)) none) h fun t45 h =>
 runD (lenD aP h t45) h fun t46 h =>
 aM (fun (J4 : AV → List AObj → Prop) =>
 dE [false] [(.int .i64 0)] h fun lv h => eM.L1 c J1 J4 K (AV.norms h.length h lv) (cG h.length h) h.length (AV.norm h.length h t5) (AV.norm h.length h t45) (AV.norm h.length h t46))
 (fun t5 h => runD (aC cR t5 1) h fun t54 h =>
 runD (fitD aA (aD h t54)) h fun t55 h =>
 runD (aC cR t5 3) h fun t56 h =>
 runD (fitD aA (aD h t56)) h fun t57 h =>
 K (.ret (.tup [t55, t57, (.int .i64 0)])) h)))))
 (fun _ _ => False)))
 (fun h => K (.ret (.tup [(.int .i64 0), (.int .i64 0), (.int .i64 80)])) h)
def eW.loops : Nat → bX
 | _ => ⟨[], [], [], [], [], []⟩
def eW.H (c : Ctx) (t0 : AV) (t1 : AV) (h : List AObj) (K : AOut → List AObj → Prop) : Prop :=
 bB false c (.fn (.func 65) [] []) [t0, t1] h (fun t10 h =>
 cK cR h fun t6 h =>
 runH (aQ cR h t6 t10) h fun _ h =>
 runD (fitD cR (aD h t6)) h fun t11 h =>
 bB false c (.fn (.func 66) [] []) [t11] h (fun t12 h =>
 runD (unD .not t12) h fun t13 h =>
 aZ t13
 (K (.ret (.tup [(.sl true (.ints .i64 [])), (.int .i64 1)])) h)
 (runD (jD aP (.int .i64 16) (.int .i64 16) h.length) h fun t14 h =>
 runD (aC cR t6 0) h fun t16 h =>
 runD (fitD aA (aD h t16)) h fun t17 h =>
 runD (aC cR t6 1) h fun t18 h =>
 runD (fitD aA (aD h t18)) h fun t19 h =>
 runD (aC cR t6 2) h fun t20 h =>
 runD (fitD aA (aD h t20)) h fun t21 h =>
 runD (aC cR t6 3) h fun t22 h =>
 runD (fitD aA (aD h t22)) h fun t23 h =>
 runD (fD aP 4 [(0, t17), (1, t19), (2, t21), (3, t23)] h.length) h fun t24 h =>
 runM (lA aP h t14 t24) h fun t25 h =>
 K (.ret (.tup [t14, (.int .i64 0)])) h))
 (fun v h => K (.pan v) h))
 (fun v h => K (.pan v) h)
def gB.loops : Nat → bX
 | _ => ⟨[], [], [], [], [], []⟩
def gB.H (c : Ctx) (t0 : AV) (t1 : AV) (h : List AObj) (K : AOut → List AObj → Prop) : Prop :=
 cK cR h fun t4 h =>
 runD (fD aP 2 [(0, (.int .i64 7015)), (1, t0)] h.length) h fun t7 h =>
 bB false c (.fn (.func 93) [] []) [t7] h (fun t8 h =>
 runD (gC cR [(0, (.int .i64 7015)), (1, t0), (2, t8), (3, t1)]) h fun t10 h =>
 runH (aQ cR h t4 t10) h fun _ h =>
 cL (fitD cR (aD h t4)) fun r0 => K (.ret r0) h)
 (fun v h => K (.pan v) h)
def cW.loops : Nat → bX
 | 1 => ⟨[], [], [], [(4, none), (3, some [6, 9]), (2, none), (3, some [11, 14]), (2, none), (5, some [16, 21])], [], []⟩
 | _ => ⟨[], [], [], [], [], []⟩
def cW.H (c : Ctx) (t0 : AV) (h : List AObj) (K : AOut → List AObj → Prop) : Prop :=
 boxW cR t0 h fun t1 h =>
 runD (aC cR t1 1) h fun t3 h =>
 runD (fitD aA (aD h t3)) h fun t4 h =>
 runD (binD aA .geq t4 (.int .i64 2)) h fun t5 h =>
 aM (fun (J1 : AV → AV → List AObj → Prop) =>
 aX t5 true
 (runD (aC cR t1 1) h fun t7 h =>
 runD (fitD aA (aD h t7)) h fun t8 h =>
 runD (binD aA .leq t8 (.int .i64 256)) h fun t9 h =>
 J1 (.bool true) t9 h)
 (J1 (.bool false) .und h))
 (fun t6 t9 h => runD (bP t6 t9 (.bool false)) h fun t10 h =>
 aM (fun (J2 : AV → AV → List AObj → Prop) =>
 aX t10 true
 (runD (aC cR t1 3) h fun t12 h =>
 runD (fitD aA (aD h t12)) h fun t13 h =>
 runD (binD aA .geq t13 (.int .i64 1)) h fun t14 h =>
 J2 (.bool true) t14 h)
 (J2 (.bool false) .und h))
 (fun t11 t14 h => runD (bP t11 t14 (.bool false)) h fun t15 h =>
 aM (fun (J3 : AV → AV → List AObj → Prop) =>
 aX t15 true
 (runD (aC cR t1 3) h fun t17 h =>
 runD (fitD aA (aD h t17)) h fun t18 h =>
 runD (aC cR t1 1) h fun t19 h =>
 runD (fitD aA (aD h t19)) h fun t20 h =>
 runD (binD aA .lss t18 t20) h fun t21 h =>
 J3 (.bool true) t21 h)
 (J3 (.bool false) .und h))
 (fun t16 t21 h => runD (bP t16 t21 (.bool false)) h fun t22 h =>
 K (.ret t22) h)))
theorem eM.eq (F : List (FuncId × aF)) (S : List (FuncId × Con)) (t0 : AV) (h : List AObj) (K : AOut → List AObj → Prop) : funW (ctx F S eM.loops) Tryz.f38 [t0] h K = eM.H (ctx F S eM.loops) t0 h K := by kernel_rfl
theorem eW.eq (F : List (FuncId × aF)) (S : List (FuncId × Con)) (t0 t1 : AV) (h : List AObj) (K : AOut → List AObj → Prop) : funW (ctx F S eW.loops) Tryz.f56 [t0, t1] h K = eW.H (ctx F S eW.loops) t0 t1 h K := by kernel_rfl
theorem gB.eq (F : List (FuncId × aF)) (S : List (FuncId × Con)) (t0 t1 : AV) (h : List AObj) (K : AOut → List AObj → Prop) : funW (ctx F S gB.loops) Tryz.f65 [t0, t1] h K = gB.H (ctx F S gB.loops) t0 t1 h K := by kernel_rfl
theorem cW.eq (F : List (FuncId × aF)) (S : List (FuncId × Con)) (t0 : AV) (h : List AObj) (K : AOut → List AObj → Prop) : funW (ctx F S cW.loops) Tryz.f66 [t0] h K = cW.H (ctx F S cW.loops) t0 h K := by kernel_rfl
theorem eM.at : Tryz.prog.funcs[38]? = some Tryz.f38 := by kernel_rfl
theorem eM.nm : (Tryz.f38.name == "runtime.NumGoroutine") = false := by kernel_rfl
theorem eM.bd : Tryz.f38.body.isNone = false := by kernel_rfl
theorem eW.at : Tryz.prog.funcs[56]? = some Tryz.f56 := by kernel_rfl
theorem eW.nm : (Tryz.f56.name == "runtime.NumGoroutine") = false := by kernel_rfl
theorem eW.bd : Tryz.f56.body.isNone = false := by kernel_rfl
theorem gB.at : Tryz.prog.funcs[65]? = some Tryz.f65 := by kernel_rfl
theorem gB.nm : (Tryz.f65.name == "runtime.NumGoroutine") = false := by kernel_rfl
theorem gB.bd : Tryz.f65.body.isNone = false := by kernel_rfl
theorem cW.at : Tryz.prog.funcs[66]? = some Tryz.f66 := by kernel_rfl
theorem cW.nm : (Tryz.f66.name == "runtime.NumGoroutine") = false := by kernel_rfl
theorem cW.bd : Tryz.f66.body.isNone = false := by kernel_rfl
end Lam
namespace Lam
open Go Go.Proofs
def aIG (b r : Int) : AV := .agg [.int .i64 7015, .int .i64 b, .int .i64 (aAv [7015, b]), .int .i64 r]
def gB.C : aF
  | [.int .i64 b, .int .i64 r] => some (false, pD True (aIG b r))
  | _ => none
theorem gB.spec : bJ Tryz.prog 65 gB.C := by
  refine bJ.of (bU (F := [(93, gS.C)]) (S := []) (by simpa using gS.spec) (by simp) gB.loops) gB.at gB.nm gB.bd ?_
  intro vs b S v news e hS
  unfold gB.C at e
  split at e
  rotate_left
  · cases e
  cases e
  rw [gB.eq]
  unfold gB.H
  simp (maxSteps := 4000000) only [go_sem, reduceEqDiff, Nat.reduceLT, reduceAdd, reduceSub, reduceLeDiff, reduceReplicate, reduceToNat, gS.C]
  exact ⟨by unfold roomy; decide, aJ rfl rfl⟩
def mayB (b r : Int) : Bool := decide (2 ≤ b) && decide (b ≤ 256) && decide (1 ≤ r) && decide (r < b)
def cW.C : aF
  | [.agg [.int .i64 _, .int .i64 b, .int .i64 _, .int .i64 r]] => some (false, pD True (.bool (mayB b r)))
  | _ => none
theorem cW.spec : bJ Tryz.prog 66 cW.C := by
  refine bJ.of (bU (F := []) (S := []) (by simp) (by simp) cW.loops) cW.at cW.nm cW.bd ?_
  intro vs b S v news e hS
  unfold cW.C at e
  split at e
  rotate_left
  · cases e
  cases e
  rw [cW.eq]
  unfold cW.H
  simp (maxSteps := 4000000) only [go_sem, reduceEqDiff, Nat.reduceLT, reduceAdd, reduceSub, reduceLeDiff, reduceReplicate, reduceToNat]
  exact aJ rfl rfl
def oQ (b r : Int) : List Int := [7015, b, aAv [7015, b], r] ++ List.replicate 12 0
def eW.C : aF
  | [.int .i64 b, .int .i64 r] => some (false, pD True (if mayB b r = true then .tup [.sl false (.ints .i64 (oQ b r)), .int .i64 0] else .tup [.sl false (.ints .i64 []), .int .i64 1]))
  | _ => none
theorem eW.spec : bJ Tryz.prog 56 eW.C := by
  refine bJ.of (bU (F := [(65, gB.C), (66, cW.C)]) (S := []) (by simpa using ⟨gB.spec, cW.spec⟩) (by simp) eW.loops) eW.at eW.nm eW.bd ?_
  intro vs b S v news e hS
  unfold eW.C at e
  split at e
  rotate_left
  · cases e
  cases e
  rw [eW.eq]
  unfold eW.H
  simp (maxSteps := 4000000) only [go_sem, reduceEqDiff, Nat.reduceLT, reduceAdd, reduceSub, reduceLeDiff, reduceReplicate, reduceToNat, gB.C, cW.C, aIG]
  refine ⟨fun h => ?_, fun h => ?_⟩
  · simp only [h, Bool.false_eq_true, if_false]; exact aJ rfl rfl
  · refine ⟨by unfold roomy; decide, ?_⟩
    simp only [h, if_true]; exact aJ rfl rfl

def aIH (l : List Int) : Bool := decide (l.getD 0 0 = 7015) && decide (l.getD 2 0 = aAv [7015, l.getD 1 0]) && mayB (l.getD 1 0) (l.getD 3 0) && decide (l.getD 1 0 = ((l.length / 16 : Nat) : Int))
def lG (l : List Int) : Bool := decide (32 ≤ l.length) && aIH l && ((l.drop 4).take 12).all (fun w => decide (w = 0))
theorem aRy (a b m d : Bool) : (!(a && b) || !m || !d) = !(a && b && m && d) := by cases a <;> cases b <;> cases m <;> cases d <;> rfl
def oR (l : List Int) : AV := if lG l = true then .tup [.int .i64 (l.getD 1 0), .int .i64 (l.getD 3 0), .int .i64 0] else .tup [.int .i64 0, .int .i64 0, .int .i64 80]
@[go_sem] theorem aOx (l : List Int) : (oR l).noSl = true := by unfold oR; split <;> rfl
def eM.C : aF
  | [.sl _ (.ints .i64 l)] => some (false, pD (roomy l.length) (oR l))
  | _ => none
theorem aBB (l : List Int) (hb : lG l = false) (h : List AObj) : Post false (oR l) [] (.ret (.tup [.int .i64 0, .int .i64 0, .int .i64 80])) h := by
  unfold oR; rw [hb]; exact aJ rfl rfl
theorem eM.spec : bJ Tryz.prog 38 eM.C := by
  refine bJ.of (bU (F := [(65, gB.C), (66, cW.C)]) (S := []) (by simpa using ⟨gB.spec, cW.spec⟩) (by simp) eM.loops) eM.at eM.nm eM.bd ?_
  intro vs b S v news e hS
  unfold eM.C at e
  split at e
  rotate_left
  · cases e
  cases e
  rw [eM.eq]
  unfold eM.H
  simp (maxSteps := 4000000) only [go_sem, reduceEqDiff, Nat.reduceLT, reduceAdd, reduceSub, reduceLeDiff, reduceReplicate, reduceToNat, gB.C, cW.C, aIG]
  rename_i l
  unfold roomy at hS
  have hw : IntKind.i64.wrap ((l.length : Int).tdiv 16) = ((l.length / 16 : Nat) : Int) := by rw [aMT]; apply w64 <;> omega
  rw [aB]
  refine ⟨fun h => ?_, fun h => ?_⟩
  · apply aBB
    have : ¬ 32 ≤ l.length := by omega
    simp [lG, this]
  refine ⟨by omega, by omega, by omega, by omega, by simp, ?_⟩
  rw [hw, aRy]
  refine ⟨fun hc => aBB l ?_ _, fun hc => ⟨by omega, ?_⟩⟩
  · have hc : aIH l = false := by rw [Bool.not_eq_true'] at hc; exact hc
    simp [lG, hc]
  · have hc : aIH l = true := by rw [Bool.not_eq_false'] at hc; exact hc
    have h32 : 32 ≤ l.length := by omega
    have hlen : ((l.drop 4).take 12).length = 12 := by simp; omega
    rw [aB]
    unfold eM.L1
    generalize hz : (l.drop 4).take 12 = z at *
    refine ⟨fun m lv h' => ∃ k : Nat, k + m = z.length ∧ lv = [.int .i64 k] ∧ h' = [.box (.agg [.int .i64 (l.getD 0 0), .int .i64 (l.getD 1 0), .int .i64 (l.getD 2 0), .int .i64 (l.getD 3 0)])] ∧ ∀ y ∈ z.take k, y = 0, ⟨z.length, 0, by omega, rfl, rfl, by simp⟩, ?_⟩
    rintro m h' t8 ⟨k, hk, hlv, rfl, hall⟩
    simp only [List.cons.injEq, and_true] at hlv
    subst hlv
    simp only [go_sem, reduceEqDiff, Nat.reduceLT, reduceAdd, reduceSub, reduceLeDiff, reduceReplicate, reduceToNat]
    refine ⟨fun hlt => ⟨by omega, fun h0 => ?_, fun h0 => ?_⟩, fun hge => ?_⟩
    · apply aBB
      have hkz : k < z.length := by omega
      have : z.all (fun w => decide (w = 0)) = false := by
        rw [List.all_eq_false]; exact ⟨_, kX z k 0 hkz, by simpa using h0⟩
      simp [lG, hz, this]
    · have hkz : k < z.length := by omega
      refine ⟨m - 1, by omega, k + 1, by omega, by rw [w64 (by omega) (by omega)]; rfl, ?_⟩
      intro y hy
      rw [iC z k 0 hkz] at hy
      rcases List.mem_append.1 hy with hy | hy
      · exact hall y hy
      · rw [List.mem_singleton.1 hy]; exact h0
    · have : k = z.length := by omega
      subst this
      rw [List.take_length] at hall
      have ha : z.all (fun w => decide (w = 0)) = true := by
        rw [List.all_eq_true]; intro y hy; simpa using hall y hy
      have hb : lG l = true := by simp [lG, hz, ha, hc, h32]
      unfold oR
      rw [if_pos hb]
      exact aJ rfl rfl

end Lam
namespace Lam
open Go Go.Proofs
def fH.C : aF
  | [.int .i64 b] => some (false, pD True (.bool (qA b)))
  | _ => none
theorem fH.spec : bJ Tryz.prog 94 fH.C := by
  refine bJ.of (bU (F := []) (S := []) (by simp) (by simp) fH.loops) fH.at fH.nm fH.bd ?_
  intro vs b S v news e hS
  unfold fH.C at e
  split at e
  rotate_left
  · cases e
  cases e
  rw [fH.eq]
  unfold fH.H
  simp (maxSteps := 4000000) only [go_sem, reduceEqDiff, Nat.reduceLT, reduceAdd, reduceSub, reduceLeDiff, reduceReplicate, reduceToNat]
  exact ⟨fun _ => by decide, aJ rfl rfl⟩
def fJ.C : aF
  | [.int .i64 b, .int .i64 s] => some (false, pD True (.int .i64 (oL b s)))
  | _ => none
theorem fJ.spec : bJ Tryz.prog 68 fJ.C := by
  refine bJ.of (bU (F := [(94, fH.C)]) (S := []) (by simpa using fH.spec) (by simp) fJ.loops) fJ.at fJ.nm fJ.bd ?_
  intro vs b S v news e hS
  unfold fJ.C at e
  split at e
  rotate_left
  · cases e
  cases e
  rw [fJ.eq]
  unfold fJ.H
  simp (maxSteps := 4000000) only [go_sem, reduceEqDiff, Nat.reduceLT, reduceAdd, reduceSub, reduceLeDiff, reduceReplicate, reduceToNat, fH.C]
  rename_i b s
  have e : (!qA b || decide (s < 0) || decide (13 ≤ s)) = !(qA b && decide (0 ≤ s) && decide (s < 13)) := by
    cases qA b
    · rfl
    · rw [Bool.eq_iff_iff]; simp only [Bool.and_eq_true, Bool.or_eq_true, Bool.not_eq_true', Bool.not_eq_false', Bool.not_eq_true, decide_eq_true_eq, decide_eq_false_iff_not, Bool.or_eq_false_iff, Bool.and_eq_false_iff, beq_iff_eq]; simp <;> omega
  rw [e]
  unfold oL
  refine ⟨fun h => ?_, fun h => ?_⟩
  · rw [Bool.not_eq_true'] at h
    rw [h]; exact aJ rfl rfl
  · rw [Bool.not_eq_false'] at h
    rw [h]; exact aJ rfl rfl
def fK.C : aF
  | [.sl _ (.ints .i64 l), .int .i64 b] => some (false, pD (roomy l.length ∧ b ≤ 1099511627776) (.sl false (.ints .i64 (lJ l b))))
  | _ => none
theorem fK.spec : bJ Tryz.prog 80 fK.C := by
  refine bJ.of (bU (F := [(94, fH.C), (102, bI.C), (34, bA.C)]) (S := []) (by simpa using ⟨fH.spec, bI.spec, bA.spec⟩) (by simp) fK.loops) fK.at fK.nm fK.bd ?_
  intro vs b S v news e hS
  unfold fK.C at e
  split at e
  rotate_left
  · cases e
  cases e
  rw [fK.eq]
  unfold fK.H
  simp (maxSteps := 4000000) only [go_sem, reduceEqDiff, Nat.reduceLT, reduceAdd, reduceSub, reduceLeDiff, reduceReplicate, reduceToNat, fH.C, bI.C, bA.C]
  rename_i _ l b
  obtain ⟨hr, hb⟩ := hS
  unfold roomy at hr
  cases hn : qA b with
  | false =>
    refine ⟨fun h => ?_, fun h => by simp at h⟩
    unfold lJ; rw [hn]; exact aJ rfl rfl
  | true =>
    have hbb := (aBy hb).1 hn
    have e1 : IntKind.i64.wrap (b + 16) = b + 16 := w64 (by omega) (by omega)
    have e2 : IntKind.i64.wrap (b + 3) = b + 3 := w64 (by omega) (by omega)
    rw [e1, e2]
    by_cases hlt : (l.length : Int) < b + 16
    · refine ⟨fun h => ?_, fun h => by simp at h; omega⟩
      unfold lJ; rw [hn, decide_eq_false (by omega)]; exact aJ rfl rfl
    · refine ⟨fun h => by simp at h; omega, fun h => ⟨by omega, ?_⟩⟩
      have e3 : (b + 16).toNat - (b + 3).toNat = 13 := by omega
      have e4 : (b + 3).toNat = b.toNat + 3 := by omega
      have hsl : lJ l b = upTo ((l.drop (b.toNat + 3)).take 13) := by
        unfold lJ; rw [hn, decide_eq_true (by omega)]; rfl
      rw [e3, e4, hsl]
      have hlen : ((l.drop (b.toNat + 3)).take 13).length = 13 := by simp; omega
      generalize (l.drop (b.toNat + 3)).take 13 = z at *
      have hu := aKO z
      have hir := aIq lt1 z
      have hul : (upTo z).length ≤ z.length := by rw [← hu]; exact List.length_take_le' _ _
      refine ⟨by unfold roomy; omega, ?_⟩
      rw [aB]
      refine ⟨fun h => ?_, fun h => ?_⟩
      · rw [if_pos h] at hu
        rw [Int.toNat_natCast, List.take_length] at hu
        simp only [bA.C, Int.toNat_natCast, List.take_length, go_sem, reduceEqDiff, Nat.reduceLT, reduceAdd, reduceSub, reduceLeDiff, reduceReplicate, reduceToNat]
        refine ⟨by omega, by unfold roomy; omega, aJ ?_ rfl⟩
        simp only [go_sem, reduceEqDiff, Nat.reduceLT, reduceAdd, reduceSub, reduceLeDiff, reduceReplicate, reduceToNat, List.take_length]
        rw [← hu]
      · rw [if_neg h] at hu
        simp only [bA.C, hu, go_sem, reduceEqDiff, Nat.reduceLT, reduceAdd, reduceSub, reduceLeDiff, reduceReplicate, reduceToNat]
        refine ⟨by omega, by unfold roomy; omega, aJ ?_ rfl⟩
        simp only [go_sem, reduceEqDiff, Nat.reduceLT, reduceAdd, reduceSub, reduceLeDiff, reduceReplicate, reduceToNat, List.take_length]
end Lam
namespace Lam
open Go Go.Proofs
def fL.C : aF
  | [.agg [.int .i64 a, .int .i64 b, .int .i64 c, .int .i64 d, .sl false (.ints .i64 l)]] => some (false, pD True (.bool (ndB ⟨a, b, c, d, l⟩)))
  | _ => none
theorem fL.spec : bJ Tryz.prog 86 fL.C := by
  refine bJ.of (bU (F := [(105, eB.C), (106, bR.C)]) (S := []) (by simpa using ⟨eB.spec, bR.spec⟩) (by simp) fL.loops) fL.at fL.nm fL.bd ?_
  intro vs b S v news e hS
  unfold fL.C at e
  split at e
  rotate_left
  · cases e
  cases e
  rw [fL.eq]
  unfold fL.H
  simp (maxSteps := 4000000) only [go_sem, reduceEqDiff, Nat.reduceLT, reduceAdd, reduceSub, reduceLeDiff, reduceReplicate, reduceToNat, eB.C, bR.C]
  rename_i a b c d l
  have h1 : (a < 0 ∨ 9 < a ∨ b < 0 ∨ 1099511627776 < b ∨ qB c = false ∨ qB d = false ∨ 13 < (l.length : Int)) → ndB ⟨a, b, c, d, l⟩ = false := by
    intro h
    rw [Bool.eq_false_iff]
    intro hh
    obtain ⟨q1, q2, q3, q4, q5, q6, q7, q8⟩ := wG.1 hh
    simp only at q1 q2 q3 q4 q5 q6 q7 q8
    unfold qB at h
    simp only [Bool.and_eq_false_iff, decide_eq_false_iff_not] at h
    omega
  have h2 : ¬ (a < 0 ∨ 9 < a ∨ b < 0 ∨ 1099511627776 < b ∨ qB c = false ∨ qB d = false ∨ 13 < (l.length : Int)) → ndB ⟨a, b, c, d, l⟩ = !l.any tL := by
    intro h
    simp only [not_or, Bool.not_eq_false] at h
    obtain ⟨q1, q2, q3, q4, q5, q6, q7⟩ := h
    unfold ndB
    rw [decide_eq_true (show 0 ≤ a by omega), decide_eq_true (show a ≤ 9 by omega), decide_eq_true (show 0 ≤ b by omega), decide_eq_true (show b ≤ 1099511627776 by omega), q5, q6, decide_eq_true (show l.length ≤ 13 by omega)]
    rfl
  generalize ndB ⟨a, b, c, d, l⟩ = R at *
  simp only [eB.C, bR.C, aB, gq, reduceEq, reduceLT, reduceLE, implies_true, reduceCtorEq, if_true, if_false, go_sem, reduceEqDiff, Nat.reduceLT, reduceAdd, reduceSub, reduceLeDiff, reduceReplicate, reduceToNat]
  repeat' (first | (with_reducible apply And.intro) | (with_reducible intro _))
  all_goals first
    | omega
    | (unfold roomy; omega)
    | (exfalso; simp_all; done)
    | (rw [h1 (by grind)]; exact aJ rfl rfl)
    | (rw [h2 (by grind)]; exact aJ rfl rfl)
    | skip
  all_goals trace_state
def fM.C : aF
  | [.agg [.int .i64 a, .int .i64 b, .int .i64 c, .int .i64 d, .sl false (.ints .i64 l)]] => some (false, pD (0 ≤ a ∧ a ≤ 9 ∧ 0 ≤ b ∧ b ≤ 1099511627776) (.int .i64 (zV ⟨a, b, c, d, l⟩)))
  | _ => none
theorem fM.spec : bJ Tryz.prog 87 fM.C := by
  refine bJ.of (bU (F := []) (S := []) (by simp) (by simp) fM.loops) fM.at fM.nm fM.bd ?_
  intro vs b S v news e hS
  unfold fM.C at e
  split at e
  rotate_left
  · cases e
  cases e
  rw [fM.eq]
  unfold fM.H
  simp (maxSteps := 4000000) only [go_sem, reduceEqDiff, Nat.reduceLT, reduceAdd, reduceSub, reduceLeDiff, reduceReplicate, reduceToNat]
  rename_i a b c d l
  rw [aIv hS.1 (by omega) hS.2.2.1 hS.2.2.2]
  exact ⟨by decide, aJ rfl rfl⟩
def wR (n : Nd) : AV := if ndB n = true then .tup [.sl false (.ints .i64 (fV n)), .int .i64 0] else .tup [.sl false (.ints .i64 []), .int .i64 90]
def eJ.C : aF
  | [.agg [.int .i64 a, .int .i64 b, .int .i64 c, .int .i64 d, .sl false (.ints .i64 l)]] => some (false, pD True (wR ⟨a, b, c, d, l⟩))
  | _ => none
theorem eJ.spec : bJ Tryz.prog 57 eJ.C := by
  refine bJ.of (bU (F := [(86, fL.C), (87, fM.C)]) (S := []) (by simpa using ⟨fL.spec, fM.spec⟩) (by simp) eJ.loops) eJ.at eJ.nm eJ.bd ?_
  intro vs b S v news e hS
  unfold eJ.C at e
  split at e
  rotate_left
  · cases e
  cases e
  rw [eJ.eq]
  unfold eJ.H
  simp (maxSteps := 4000000) only [go_sem, reduceEqDiff, Nat.reduceLT, reduceAdd, reduceSub, reduceLeDiff, reduceReplicate, reduceToNat, fL.C, fM.C]
  rename_i a b c d l
  refine ⟨fun h => ?_, fun h => ?_⟩
  · unfold wR; rw [h]; exact aJ rfl rfl
  · have hok := wG.1 h
    obtain ⟨q1, q2, q3, q4, _, _, q7, _⟩ := hok
    simp only at q1 q2 q3 q4 q7
    have hw : zV ⟨a, b, c, d, l⟩ :: c :: d :: (l.take 13 ++ List.take (16 - (3 + min 13 l.length)) (List.drop (3 + min 13 l.length) [zV ⟨a, b, c, d, l⟩, c, d, 0, 0, 0, 0, 0, 0, 0, 0, 0, 0, 0, 0, 0])) = fV ⟨a, b, c, d, l⟩ := by
      unfold fV
      simp only
      rw [pF l q7, Nat.min_eq_right q7]
      congr 4
      have : ∀ k, k ≤ 13 → List.take (16 - (3 + k)) (List.drop (3 + k) [zV ⟨a, b, c, d, l⟩, c, d, 0, 0, 0, 0, 0, 0, 0, 0, 0, 0, 0, 0, 0]) = List.replicate (13 - k) 0 := by
        intro k hk
        rcases k with _|_|_|_|_|_|_|_|_|_|_|_|_|_|k <;> first | rfl | omega
      exact this _ q7
    rw [hw]
    unfold wR; simp only [h, if_true]
    refine ⟨⟨by decide, by decide, by unfold roomy; omega⟩, ⟨q1, q2, q3, q4⟩, ⟨by decide, by decide⟩, ⟨by decide, by decide⟩, ⟨by decide, by decide⟩, rfl, rfl, rfl, ⟨by decide, by decide⟩, aJ ?_ rfl⟩
    simp only [go_sem, reduceEqDiff, Nat.reduceLT, reduceAdd, reduceSub, reduceLeDiff, reduceReplicate, reduceToNat]
    rw [pF _ (Nat.le_of_eq (zW (wG.1 h)))]
def qL (words : List Int) (at_ : Int) : AV := if (decide (at_ < 0) || decide (((words.length / 16 : Nat) : Int) ≤ at_)) = true then .tup [iT.V, .int .i64 1] else match aCD (kT words at_.toNat) with
  | some n => .tup [n.V, .int .i64 0]
  | none => .tup [iT.V, .int .i64 90]
def cS.C : aF
  | [.sl _ (.ints .i64 l), .int .i64 k] => some (false, pD (roomy l.length) (qL l k))
  | _ => none
theorem cS.spec : bJ Tryz.prog 46 cS.C := by
  refine bJ.of (bU (F := [(80, fK.C), (57, eJ.C), (35, bQ.C)]) (S := []) (by simpa using ⟨fK.spec, eJ.spec, bQ.spec⟩) (by simp) cS.loops) cS.at cS.nm cS.bd ?_
  intro vs b S v news e hS
  unfold cS.C at e
  split at e
  rotate_left
  · cases e
  cases e
  rw [cS.eq]
  unfold cS.H
  simp (maxSteps := 4000000) only [go_sem, reduceEqDiff, Nat.reduceLT, reduceAdd, reduceSub, reduceLeDiff, reduceReplicate, reduceToNat, fK.C, eJ.C, bQ.C]
  rename_i l k
  have hrl := hS
  unfold roomy at hS
  have e0 : IntKind.i64.wrap ((l.length : Int).tdiv 16) = ((l.length / 16 : Nat) : Int) := by
    rw [Int.tdiv_eq_ediv_of_nonneg (by omega)]; exact w64 (by omega) (by omega)
  rw [e0]
  unfold qL
  refine ⟨fun _ => by decide, fun h => ?_, fun h => ?_⟩
  · rw [if_pos h]
    refine aJ ?_ rfl
    simp only [iT, go_sem, reduceEqDiff, Nat.reduceLT, reduceAdd, reduceSub, reduceLeDiff, reduceReplicate, reduceToNat]
  · rw [h]
    simp only [Bool.or_eq_false_iff, decide_eq_false_iff_not] at h
    obtain ⟨k, rfl⟩ := Int.eq_ofNat_of_zero_le (show 0 ≤ k by omega)
    have hk : 16 * k + 16 ≤ l.length := by omega
    have e1 : IntKind.i64.wrap (16 * (k : Int)) = 16 * (k : Int) := w64 (by omega) (by omega)
    have e2 : IntKind.i64.wrap ((k : Int) + 1) = (k : Int) + 1 := w64 (by omega) (by omega)
    have e3 : IntKind.i64.wrap (16 * ((k : Int) + 1)) = 16 * ((k : Int) + 1) := w64 (by omega) (by omega)
    have e4 : (16 * ((k : Int) + 1)).toNat - (16 * (k : Int)).toNat = 16 := by omega
    have e5 : (16 * (k : Int)).toNat = 16 * k := by omega
    have eb : (l.drop (16 * k)).take 16 = kT l k := rfl
    have hbl : (kT l k).length = 16 := by unfold kT; simp; omega
    rw [e2, e1, e3, e4, e5, eb, Int.toNat_natCast]
    generalize kT l k = w at *
    have hdp : (⟨andI .i64 (w.getD 0 0) 15, (wF .i64 (w.getD 0 0) 1152921504606846976).fdiv (2 ^ min 4 64), w.getD 1 0, w.getD 2 0, lJ w 0⟩ : Nd) = decP w := rfl
    have hV : (decP w).V = .agg [.int .i64 (andI .i64 (w.getD 0 0) 15), .int .i64 ((wF .i64 (w.getD 0 0) 1152921504606846976).fdiv (2 ^ min 4 64)), .int .i64 (w.getD 1 0), .int .i64 (w.getD 2 0), .sl false (.ints .i64 (lJ w 0))] := rfl
    rw [hdp, hbl, ← aKR]
    have hsr := aEv w 0
    refine ⟨by omega, by omega, by omega, by decide, by omega, by omega, ⟨by unfold roomy; omega, by decide⟩, ?_⟩
    unfold nQ wR
    cases hd : ndB (decP w) with
    | false =>
      simp only [Bool.false_eq_true, if_false, Bool.false_and, aB, aB, gq, reduceEq, reduceLT, reduceLE, implies_true, reduceCtorEq, if_true, if_false, go_sem, reduceEqDiff, Nat.reduceLT, reduceAdd, reduceSub, reduceLeDiff, reduceReplicate, reduceToNat]
      refine aJ ?_ rfl
      simp only [iT, go_sem, reduceEqDiff, Nat.reduceLT, reduceAdd, reduceSub, reduceLeDiff, reduceReplicate, reduceToNat]
    | true =>
      have hok := wG.1 hd
      have hwl := zW hok
      simp only [if_true, Bool.true_and, bQ.C, hwl, hbl, aB, gq, reduceEq, reduceLT, reduceLE, implies_true, reduceCtorEq, if_true, if_false, go_sem, reduceEqDiff, Nat.reduceLT, reduceAdd, reduceSub, reduceLeDiff, reduceReplicate, reduceToNat]
      refine ⟨by unfold roomy; omega, fun h => ?_, fun h => ?_⟩
      · rw [if_neg h]
        refine aJ ?_ rfl
        simp only [iT, go_sem, reduceEqDiff, Nat.reduceLT, reduceAdd, reduceSub, reduceLeDiff, reduceReplicate, reduceToNat]
      · rw [if_pos h]
        exact aJ rfl rfl
end Lam
namespace Lam
open Go Go.Proofs
def gG.loops : Nat → bX
 | 1 => ⟨[], [], [], [(3, none), (3, some [5, 8])], [], []⟩
 | _ => ⟨[], [], [], [], [], []⟩
def gG.H (c : Ctx) (t0 : AV) (h : List AObj) (K : AOut → List AObj → Prop) : Prop :=
 runD (binD bS .neq t0 (.str [])) h fun t4 h =>
 aM (fun (J1 : AV → AV → List AObj → Prop) =>
 aX t4 true
 (runD (lenD bS h t0) h fun t7 h =>
 runD (binD aA .leq t7 (.int .i64 21)) h fun t8 h =>
 J1 (.bool true) t8 h)
 (J1 (.bool false) .und h))
 (fun t5 t8 h => runD (bP t5 t8 (.bool false)) h fun t9 h =>
 K (.ret t9) h)
def dS.loops : Nat → bX
 | 1 => ⟨[], [], [], [(3, none), (9, some [14, 23])], [], []⟩
 | 5 => ⟨[6, 31], [true, false], [1, 29, 30], [], [], []⟩
 | 7 => ⟨[], [], [], [(3, none), (2, some [37, 39])], [], []⟩
 | 10 => ⟨[6, 41], [true, false], [1, 8, 29, 30, 31], [], [], []⟩
 | 16 => ⟨[59], [false], [1, 6, 57, 58], [], [], []⟩
 | _ => ⟨[], [], [], [], [], []⟩
def dS.L2 (c : Ctx) (J5 : AV → AV → AV → AV → AV → List AObj → Prop) (K : AOut → List AObj → Prop) (lv : List AV) (h0 : List AObj) (n0 : Nat) (c1 : AV) (c8 : AV) (c29 : AV) (c30 : AV) (c31 : AV) : Prop :=
 ∃ I : Nat → List AV → List AObj → Prop, (∃ n, I n lv h0) ∧ ∀ n h, ∀ t6, ∀ t41, I n [t6, t41] h →
 runD (binD aA .lss t41 (.int .i64 7)) h fun t42 h =>
 aZ t42
 (runD (binD aA .sub (.int .i64 6) t41) h fun t47 h =>
 runD (binD aA .mul (.int .i64 8) t47) h fun t48 h =>
 runD (binD aA .shr c8 t48) h fun t49 h =>
 runD (iI h aA kU t49) h fun t50 h =>
 runD (fD hH 1 [(0, t50)] h.length) h fun t51 h =>
 jE (fT hH h t6 t51 h.length) (gJ hH h t6 t51) h fun t52 h =>
 runD (binD aA .add t41 (.int .i64 1)) h fun t53 h =>
 (∃ m, m < n ∧ I m (AV.norms n0 h [t52, t53]) (cG n0 h)) ∧ AV.norms n0 h [c1, c8, c29, c30, c31] = [c1, c8, c29, c30, c31])
 (J5 c1 t6 c29 c30 c31 h)
def dS.L1 (c : Ctx) (J2 : AV → AV → List AObj → Prop) (K : AOut → List AObj → Prop) (lv : List AV) (h0 : List AObj) (n0 : Nat) (c1 : AV) (c29 : AV) (c30 : AV) : Prop :=
 ∃ I : Nat → List AV → List AObj → Prop, (∃ n, I n lv h0) ∧ ∀ n h, ∀ t6, ∀ t31, I n [t6, t31] h →
 runD (binD aA .lss t31 c30) h fun t32 h =>
 aZ t32
 (aM (fun (J3 : AV → AV → AV → AV → AV → List AObj → Prop) =>
 runD (aH aP h c29 t31) h fun t33 h =>
 runD (fitD aA (aD h t33)) h fun t34 h =>
 runD (binD aA .lss t34 (.int .i64 0)) h fun t36 h =>
 aM (fun (J4 : AV → AV → List AObj → Prop) =>
 aX t36 false
 (runD (binD aA .geq t34 (.int .i64 72057594037927936)) h fun t39 h =>
 J4 (.bool false) t39 h)
 (J4 (.bool true) .und h))
 (fun t37 t39 h => runD (bP t37 (.bool true) t39) h fun t40 h =>
 aZ t40
 (K (.ret (.tup [(.str []), (.int .i64 20)])) h)
 (aM (fun (J5 : AV → AV → AV → AV → AV → List AObj → Prop) =>
 dE [true, false] [t6, (.int .i64 0)] h fun lv h => dS.L2 c J5 K (AV.norms h.length h lv) (cG h.length h) h.length (AV.norm h.length h c1) (AV.norm h.length h t34) (AV.norm h.length h c29) (AV.norm h.length h c30) (AV.norm h.length h t31))
 (fun t1 t6 t29 t30 t31 h => J3 t1 t6 t29 t30 t31 h))))
 (fun t1 t6 t29 t30 t31 h => runD (binD aA .add t31 (.int .i64 1)) h fun t54 h =>
 (∃ m, m < n ∧ I m (AV.norms n0 h [t6, t54]) (cG n0 h)) ∧ AV.norms n0 h [t1, t29, t30] = [c1, c29, c30]))
 (J2 c1 t6 h)
def dS.L3 (c : Ctx) (J6 : AV → AV → List AObj → Prop) (K : AOut → List AObj → Prop) (lv : List AV) (h0 : List AObj) (n0 : Nat) (c1 : AV) (c6 : AV) (c57 : AV) (c58 : AV) : Prop :=
 ∃ I : Nat → List AV → List AObj → Prop, (∃ n, I n lv h0) ∧ ∀ n h, ∀ t59, I n [t59] h →
 runD (binD aA .lss t59 c58) h fun t60 h =>
 aZ t60
 (runD (aH hH h c57 t59) h fun t61 h =>
 runD (fitD kU (aD h t61)) h fun t62 h =>
 runD (binD kU .neq t62 (.int .u8 0)) h fun t64 h =>
 aZ t64
 (K (.ret (.tup [(.str []), (.int .i64 20)])) h)
 (runD (binD aA .add t59 (.int .i64 1)) h fun t65 h =>
 (∃ m, m < n ∧ I m (AV.norms n0 h [t65]) (cG n0 h)) ∧ AV.norms n0 h [c1, c6, c57, c58] = [c1, c6, c57, c58]))
 (J6 c1 c6 h)
def dS.H (c : Ctx) (t0 : AV) (t1 : AV) (h : List AObj) (K : AOut → List AObj → Prop) : Prop :=
 runD (binD aA .lss t1 (.int .i64 0)) h fun t13 h =>
 aM (fun (J1 : AV → AV → List AObj → Prop) =>
 aX t13 false
 (runD (lenD aP h t0) h fun t16 h =>
 runD (binD aA .quo t1 (.int .i64 7)) h fun t18 h =>
 runD (binD aA .rem t1 (.int .i64 7)) h fun t20 h =>
 runD (minD (.int .i64 1) t20) h fun t21 h =>
 runD (binD aA .add t18 t21) h fun t22 h =>
 runD (binD aA .neq t16 t22) h fun t23 h =>
 J1 (.bool false) t23 h)
 (J1 (.bool true) .und h))
 (fun t14 t23 h => runD (bP t14 (.bool true) t23) h fun t24 h =>
 aZ t24
 (K (.ret (.tup [(.str []), (.int .i64 20)])) h)
 (runD (lenD aP h t0) h fun t26 h =>
 runD (binD aA .mul (.int .i64 7) t26) h fun t27 h =>
 runD (jD hH (.int .i64 0) t27 h.length) h fun t28 h =>
 runD (lenD aP h t0) h fun t30 h =>
 aM (fun (J2 : AV → AV → List AObj → Prop) =>
 dE [true, false] [t28, (.int .i64 0)] h fun lv h => dS.L1 c J2 K (AV.norms h.length h lv) (cG h.length h) h.length (AV.norm h.length h t1) (AV.norm h.length h t0) (AV.norm h.length h t30))
 (fun t1 t6 h => runD (dO hH h t6 (some t1) none none) h fun t57 h =>
 runD (lenD hH h t57) h fun t58 h =>
 aM (fun (J6 : AV → AV → List AObj → Prop) =>
 dE [false] [(.int .i64 0)] h fun lv h => dS.L3 c J6 K (AV.norms h.length h lv) (cG h.length h) h.length (AV.norm h.length h t1) (AV.norm h.length h t6) (AV.norm h.length h t57) (AV.norm h.length h t58))
 (fun t1 t6 h => runD (dO hH h t6 none (some t1) none) h fun t68 h =>
 runD (iI h hH bS t68) h fun t69 h =>
 K (.ret (.tup [t69, (.int .i64 0)])) h))))
def dX.loops : Nat → bX
 | _ => ⟨[], [], [], [], [], []⟩
def dX.H (c : Ctx) (t0 : AV) (h : List AObj) (K : AOut → List AObj → Prop) : Prop :=
 runD (lenD bS h t0) h fun t4 h =>
 runD (binD aA .leq t4 (.int .i64 21)) h fun t5 h =>
 K (.ret t5) h
def eR.loops : Nat → bX
 | 2 => ⟨[], [], [], [], [2], []⟩
 | 5 => ⟨[4, 11], [false, false], [2, 3, 10], [], [], []⟩
 | _ => ⟨[], [], [], [], [], []⟩
def eR.L1 (c : Ctx) (id : Nat) (r : Loop) (J3 : AV → AV → List AObj → Prop) (K : AOut → List AObj → Prop) (lv : List AV) (h0 : List AObj) (n0 : Nat) (c2 : AV) (c3 : AV) (c10 : AV) : Prop :=
 ∃ I : Nat → List AV → List AObj → Prop, (∃ n, I n lv h0) ∧ ∀ n h, ∀ t4, ∀ t11, I n [t4, t11] h →
 runD (binD aA .lss t11 c10) h fun t12 h =>
 aZ t12
 (runD (rM bS c3 t11) h fun t17 h =>
 runD (iI h kU aA t17) h fun t18 h =>
 runD (binD aA .sub (.int .i64 6) t11) h fun t20 h =>
 runD (binD aA .mul (.int .i64 8) t20) h fun t21 h =>
 runD (binD aA .shl t18 t21) h fun t22 h =>
 runD (binD aA .or t4 t22) h fun t23 h =>
 runD (binD aA .add t11 (.int .i64 1)) h fun t24 h =>
 (∃ m, m < n ∧ I m (AV.norms n0 h [t23, t24]) (cG n0 h)) ∧ AV.norms n0 h [c2, c3, c10] = [c2, c3, c10])
 (J3 c2 t4 h)
def eR.H (c : Ctx) (t0 : AV) (h : List AObj) (K : AOut → List AObj → Prop) : Prop :=
 cK aP h fun t2 h =>
 bB false c (.fn (.func 125) [] []) [t0] h (fun t7 h =>
 aM (fun (J1 : AV → List AObj → Prop) =>
 vQ c.iterS t7 (boxH [t2] h)
 (fun id r args h K => lpIs h id .ready r ∧ aAi args fun t8 =>
 lpIs h id .ready r ∧
 aM (fun (J2 : List AObj → Prop) =>
 runD (lenD bS (List.set h id (.lp .busy none r)) t8) (List.set h id (.lp .busy none r)) fun t10 h =>
 aM (fun (J3 : AV → AV → List AObj → Prop) =>
 dE [false, false] [(.int .i64 0), (.int .i64 0)] h fun lv h => eR.L1 c id r J3 K (AV.norms h.length h lv) (cG h.length h) h.length (AV.norm h.length h t2) (AV.norm h.length h t8) (AV.norm h.length h t10))
 (fun t2 t4 h => runD (fitD aP (aD h t2)) h fun t25 h =>
 runD (fD aP 1 [(0, t4)] h.length) h fun t27 h =>
 jE (fT aP h t25 t27 h.length) (gJ aP h t25 t27) h fun t28 h =>
 runH (aQ aP h t2 t28) h fun _ h =>
 J2 h))
 (fun h => lpIs h id .busy r ∧ K (.ret (.bool true)) (List.set h id (.lp .ready none r))))
 (fun id r ao h => endX id r ao h
 (fun h => J1 t2 h)
 (fun h => cL (fitD aP (aD h t2)) fun r0 => K (.ret r0) h)
 (fun i h => aEx i 0 (J1 t2 h) (False))
 (fun l h => False)
 (fun v h => K (.pan v) h)))
 (fun t2 h => runD (fitD aP (aD h t2)) h fun t29 h =>
 runH (aQ aP h t2 t29) h fun _ h =>
 cL (fitD aP (aD h t2)) fun r0 => K (.ret r0) h))
 (fun v h => K (.pan v) h)
def eY.loops : Nat → bX
 | _ => ⟨[], [], [], [], [], []⟩
def eY.H (c : Ctx) (t0 : AV) (h : List AObj) (K : AOut → List AObj → Prop) : Prop :=
 boxW bS t0 h fun t1 h =>
 K (.ret (.fn (.func 141) [] [t1])) h
def dC.loops : Nat → bX
 | 0 => ⟨[], [], [0, 1], [], [], []⟩
 | _ => ⟨[], [], [], [], [], []⟩
def dC.L1 (c : Ctx) (J1 : List AObj → Prop) (K : AOut → List AObj → Prop) (lv : List AV) (h0 : List AObj) (n0 : Nat) (c0 : AV) (c1 : AV) : Prop :=
 ∃ I : Nat → List AV → List AObj → Prop, (∃ n, I n lv h0) ∧ ∀ n h, I n [] h →
 runD (fitD bS (aD h c1)) h fun t4 h =>
 runD (lenD bS h t4) h fun t5 h =>
 runD (binD aA .gtr t5 (.int .i64 0)) h fun t6 h =>
 aZ t6
 (runD (fitD bS (aD h c1)) h fun t7 h =>
 runD (lenD bS h t7) h fun t8 h =>
 runD (minD (.int .i64 7) t8) h fun t9 h =>
 runD (fitD bS (aD h c1)) h fun t11 h =>
 runD (dO bS h t11 none (some t9) none) h fun t13 h =>
 bB false c c0 [t13] h (fun t14 h =>
 runD (unD .not t14) h fun t15 h =>
 aZ t15
 (K (.ret (.tup [])) h)
 (runD (fitD bS (aD h c1)) h fun t16 h =>
 runD (dO bS h t16 (some t9) none none) h fun t18 h =>
 runH (aQ bS h c1 t18) h fun _ h =>
 (∃ m, m < n ∧ I m (AV.norms n0 h []) (cG n0 h)) ∧ AV.norms n0 h [c0, c1] = [c0, c1]))
 (fun v h => K (.pan v) h))
 (J1 h)
def dC.H (c : Ctx) (t0 : AV) (t1 : AV) (h : List AObj) (K : AOut → List AObj → Prop) : Prop :=
 aM (fun (J1 : List AObj → Prop) =>
 dE [] [] h fun lv h => dC.L1 c J1 K (AV.norms h.length h lv) (cG h.length h) h.length (AV.norm h.length h t0) (AV.norm h.length h t1))
 (fun h => K (.ret (.tup [])) h)
theorem gG.eq (F : List (FuncId × aF)) (S : List (FuncId × Con)) (t0 : AV) (h : List AObj) (K : AOut → List AObj → Prop) : funW (ctx F S gG.loops) Tryz.f53 [t0] h K = gG.H (ctx F S gG.loops) t0 h K := by kernel_rfl
theorem dS.eq (F : List (FuncId × aF)) (S : List (FuncId × Con)) (t0 t1 : AV) (h : List AObj) (K : AOut → List AObj → Prop) : funW (ctx F S dS.loops) Tryz.f115 [t0, t1] h K = dS.H (ctx F S dS.loops) t0 t1 h K := by kernel_rfl
theorem dX.eq (F : List (FuncId × aF)) (S : List (FuncId × Con)) (t0 : AV) (h : List AObj) (K : AOut → List AObj → Prop) : funW (ctx F S dX.loops) Tryz.f116 [t0] h K = dX.H (ctx F S dX.loops) t0 h K := by kernel_rfl
theorem eR.eq (F : List (FuncId × aF)) (S : List (FuncId × Con)) (Is : List (FuncId × (Con → Con))) (t0 : AV) (h : List AObj) (K : AOut → List AObj → Prop) : funW (ctxI F S Is eR.loops) Tryz.f117 [t0] h K = eR.H (ctxI F S Is eR.loops) t0 h K := by kernel_rfl
theorem eY.eq (F : List (FuncId × aF)) (S : List (FuncId × Con)) (t0 : AV) (h : List AObj) (K : AOut → List AObj → Prop) : funW (ctx F S eY.loops) Tryz.f125 [t0] h K = eY.H (ctx F S eY.loops) t0 h K := by kernel_rfl
theorem dC.eq (F : List (FuncId × aF)) (S : List (FuncId × Con)) (l : Nat) (Y : Con) (t0 t1 : AV) (h : List AObj) (K : AOut → List AObj → Prop) : funW ((ctx F S dC.loops).withY l Y) Tryz.f141 [t0, t1] h K = dC.H ((ctx F S dC.loops).withY l Y) t0 t1 h K := by kernel_rfl
theorem gG.at : Tryz.prog.funcs[53]? = some Tryz.f53 := by kernel_rfl
theorem gG.nm : (Tryz.f53.name == "runtime.NumGoroutine") = false := by kernel_rfl
theorem gG.bd : Tryz.f53.body.isNone = false := by kernel_rfl
theorem dS.at : Tryz.prog.funcs[115]? = some Tryz.f115 := by kernel_rfl
theorem dS.nm : (Tryz.f115.name == "runtime.NumGoroutine") = false := by kernel_rfl
theorem dS.bd : Tryz.f115.body.isNone = false := by kernel_rfl
theorem dX.at : Tryz.prog.funcs[116]? = some Tryz.f116 := by kernel_rfl
theorem dX.nm : (Tryz.f116.name == "runtime.NumGoroutine") = false := by kernel_rfl
theorem dX.bd : Tryz.f116.body.isNone = false := by kernel_rfl
theorem eR.at : Tryz.prog.funcs[117]? = some Tryz.f117 := by kernel_rfl
theorem eR.nm : (Tryz.f117.name == "runtime.NumGoroutine") = false := by kernel_rfl
theorem eR.bd : Tryz.f117.body.isNone = false := by kernel_rfl
theorem eY.at : Tryz.prog.funcs[125]? = some Tryz.f125 := by kernel_rfl
theorem eY.nm : (Tryz.f125.name == "runtime.NumGoroutine") = false := by kernel_rfl
theorem eY.bd : Tryz.f125.body.isNone = false := by kernel_rfl
theorem dC.at : Tryz.prog.funcs[141]? = some Tryz.f141 := by kernel_rfl
theorem dC.nm : (Tryz.f141.name == "runtime.NumGoroutine") = false := by kernel_rfl
theorem dC.bd : Tryz.f141.body.isNone = false := by kernel_rfl
end Lam
namespace Lam
open Go Go.Proofs
theorem aFL (c : Ctx) (id : Nat) (r : Loop) (J : AV → AV → List AObj → Prop) (K : AOut → List AObj → Prop) (p : bF) (hp : p.length ≤ 7) (v k : Nat) (s : bF) (xs : List Int)
    (hJ : J (.ptr 0 []) (.int .i64 (pw p : Nat)) [.box (.sref false 2 v 0 k), .box (.str s), .row .own v (.ints .i64 xs), .lp .busy none r]) :
    eR.L1 c id r J K [.int .i64 0, .int .i64 0] [.box (.sref false 2 v 0 k), .box (.str s), .row .own v (.ints .i64 xs), .lp .busy none r] 4 (.ptr 0 []) (.str p) (.int .i64 p.length) := by
  unfold eR.L1
  refine ⟨fun m lv h' => ∃ j : Nat, j + m = p.length ∧ lv = [.int .i64 (pv (p.take j) * 256 ^ (7 - j) : Nat), .int .i64 j] ∧ h' = [.box (.sref false 2 v 0 k), .box (.str s), .row .own v (.ints .i64 xs), .lp .busy none r],
    ⟨p.length, 0, by omega, by simp [pv], rfl⟩, ?_⟩
  rintro m h' t4 t11 ⟨j, hj, hlv, rfl⟩
  simp only [List.cons.injEq, and_true] at hlv
  obtain ⟨rfl, rfl⟩ := hlv
  simp only [go_sem, reduceEqDiff, Nat.reduceLT, reduceAdd, reduceSub, reduceLeDiff, reduceReplicate, reduceToNat]
  refine ⟨fun hlt => ?_, fun hge => ?_⟩
  · have hjp : j < p.length := by omega
    have e1 : IntKind.i64.wrap (6 - (j : Int)) = 6 - j := w64 (by omega) (by omega)
    refine ⟨by omega, by rw [e1, w64 (by omega) (by omega)]; omega, m - 1, by omega, j + 1, by omega, ?_⟩
    rw [aMf p hp hjp, w64 (by omega) (by omega)]
    rfl
  · have : j = p.length := by omega
    subst this
    rw [List.take_length] at *
    exact hJ

def dC.I : Con → Con := fun Y args h K => match args with
  | [.fn (.yield l) [] [], a0] => dC.H ((ctx [] [] dC.loops).withY l Y) (.fn (.yield l) [] []) a0 h K
  | _ => False
theorem dC.spec : rI Tryz.prog 141 dC.I := by
  refine rI.of (bU (F := []) (S := []) (by simp) (by simp) dC.loops).toOkI dC.at dC.nm dC.bd ?_
  intro Yc l cap h K hC
  unfold dC.I at hC
  split at hC
  · rename_i e
    simp only [List.cons.injEq, AV.fn.injEq, Fn.yield.injEq, and_true, true_and] at e
    obtain ⟨rfl, rfl⟩ := e
    rw [dC.eq]; exact hC
  · exact hC.elim
def eY.K : Con := fun args h K => match args with
  | [a0] => eY.H (ctx [] [] eY.loops) a0 h K
  | _ => False
theorem eY.spec : dB Tryz.prog 125 eY.K := by
  refine dB.of (bU (F := []) (S := []) (by simp) (by simp) eY.loops) eY.at eY.nm eY.bd ?_
  intro args h K hC
  unfold eY.K at hC
  split at hC
  · rw [eY.eq]; exact hC
  · exact hC.elim
def eR.C : aF
  | [.str s] => some (false, pD (roomy s.length) (.sl false (.ints .i64 (keyW s))))
  | _ => none
theorem eR.spec : bJ Tryz.prog 117 eR.C := by
  refine bJ.of (aDl (F := []) (S := [(125, eY.K)]) (Is := [(141, dC.I)]) (by simp) (by simpa using eY.spec) (by simpa using dC.spec) eR.loops) eR.at eR.nm eR.bd ?_
  intro vs b S v news e hS
  unfold eR.C at e
  split at e
  rotate_left
  · cases e
  cases e
  rw [eR.eq]
  unfold eR.H
  simp (maxSteps := 4000000) only [go_sem, reduceEqDiff, Nat.reduceLT, reduceAdd, reduceSub, reduceLeDiff, reduceReplicate, reduceToNat, eY.K, eY.H, dC.I, dC.H, aB]
  rename_i s
  unfold roomy at hS
  intro l r
  unfold dC.L1
  refine ⟨fun m lv h' => ∃ k v : Nat, k + m = gR s ∧ h' = [.box (.sref false 2 v 0 k), .box (.str (s.drop (7*k))), .row .own v (.ints .i64 ((keyW s).take k)), .lp .ready none r], ⟨gR s, 0, 0, by omega, by simp⟩, ?_⟩
  rintro m h' ⟨k, v, hk, rfl⟩
  have hwl : (keyW s).length = gR s := by simp [keyW]
  have hnp : gR s = (s.length + 6) / 7 := rfl
  have hacc : ((keyW s).take k).length = k := by simp; omega
  simp only [go_sem, reduceEqDiff, Nat.reduceLT, reduceAdd, reduceSub, reduceLeDiff, reduceReplicate, reduceToNat, List.length_drop]
  refine ⟨fun hlt => ?_, fun hge => ?_⟩
  · have hn : (if ((s.length - 7 * k : Nat) : Int) < 7 then ((s.length - 7 * k : Nat) : Int) else 7) = ((min 7 (s.length - 7 * k) : Nat) : Int) := by split <;> omega
    simp only [hn, Int.toNat_natCast]
    have hpc : (s.drop (7 * k)).take (min 7 (s.length - 7 * k)) = nR s k := by
      unfold nR
      rcases Nat.lt_or_ge (s.length - 7 * k) 7 with h | h
      · rw [Nat.min_eq_right (by omega), List.take_of_length_le (by simp), List.take_of_length_le (by simp; omega)]
      · rw [Nat.min_eq_left (by omega)]
    rw [hpc]
    have hpl : (nR s k).length ≤ 7 := by unfold nR; simp; omega
    refine ⟨by omega, aFL _ _ _ _ _ _ hpl _ _ _ _ ?_⟩
    simp only [go_sem, reduceEqDiff, Nat.reduceLT, reduceAdd, reduceSub, reduceLeDiff, reduceReplicate, reduceToNat, hacc]
    have hkn : k < gR s := by omega
    have hnext : (keyW s).take (k + 1) = (keyW s).take k ++ [(pw (nR s k) : Int)] := by
      rw [iC _ k 0 (by omega), aIz s hkn]
    have hd : (s.drop (7 * k)).drop (min 7 (s.length - 7 * k)) = s.drop (7 * (k + 1)) := by
      rw [List.drop_drop]
      rcases Nat.lt_or_ge (s.length - 7 * k) 7 with h | h
      · rw [List.drop_eq_nil_of_le (by omega), List.drop_eq_nil_of_le (by omega)]
      · congr 1; omega
    have hl1 : ((keyW s).take (k + 1)).length = k + 1 := by simp; omega
    rw [← hnext, hd, hl1]
    refine ⟨by unfold roomy; omega, by simp; omega, m - 1, by omega, k + 1, v + 1, by omega, rfl⟩
  · have : k = gR s := by omega
    subst this
    rw [List.take_of_length_le (by omega)]
    refine aJ ?_ rfl
    have := hacc
    rw [List.take_of_length_le (by omega)] at this
    simp only [go_sem, reduceEqDiff, Nat.reduceLT, reduceAdd, reduceSub, reduceLeDiff, reduceReplicate, reduceToNat, List.take_of_length_le (Nat.le_of_eq hwl)]
def aAy (l : List Int) (n : Int) : AV := .tup [.str (if mO l n = true then uP l n else []), .int .i64 (if mO l n = true then 0 else 20)]
@[go_sem] theorem aRz (l : List Int) (n : Int) : (aAy l n).noSl = true := (rfl)
theorem aBC {l : List Int} {n : Int} (hb : mO l n = false) (h : List AObj) : Post false (aAy l n) [] (.ret (.tup [.str [], .int .i64 20])) h := by
  unfold aAy; rw [hb]; exact aJ rfl rfl
def dS.C : aF
  | [.sl _ (.ints .i64 l), .int .i64 n] => some (false, pD (roomy (7 * l.length) ∧ n < 9223372036854775808) (aAy l n))
  | _ => none
theorem aGN (c : Ctx) (J : AV → AV → AV → AV → AV → List AObj → Prop) (K : AOut → List AObj → Prop) (n w : Int) (l pre : List Int) (v k len : Nat) (hr : pre.length + 7 ≤ 68719476736)
    (hJ : J (.int .i64 n) (.sref false 0 (v + 7) 0 (pre.length + 7)) (.sl false (.ints .i64 l)) (.int .i64 len) (.int .i64 k) [.row .own (v + 7) (.ints .u8 (pre ++ qD w))]) :
    dS.L2 c J K [.sref false 0 v 0 pre.length, .int .i64 0] [.row .own v (.ints .u8 pre)] 1 (.int .i64 n) (.int .i64 w) (.sl false (.ints .i64 l)) (.int .i64 len) (.int .i64 k) := by
  unfold dS.L2
  refine ⟨fun m lv h' => ∃ j : Nat, j + m = 7 ∧ lv = [.sref false 0 (v + j) 0 (pre.length + j), .int .i64 j] ∧ h' = [.row .own (v + j) (.ints .u8 (pre ++ (List.range j).map (qC w)))],
    ⟨7, 0, by omega, by simp, by simp⟩, ?_⟩
  rintro m h' t6 t41 ⟨j, hj, hlv, rfl⟩
  simp only [List.cons.injEq, and_true] at hlv
  obtain ⟨rfl, rfl⟩ := hlv
  have hlen : (pre ++ (List.range j).map (qC w)).length = pre.length + j := by simp
  simp only [go_sem, reduceEqDiff, Nat.reduceLT, reduceAdd, reduceSub, reduceLeDiff, reduceReplicate, reduceToNat, hlen]
  refine ⟨fun hlt => ?_, fun hge => ?_⟩
  · have e1 : IntKind.i64.wrap (6 - (j : Int)) = 6 - j := w64 (by omega) (by omega)
    have e2 : IntKind.i64.wrap (8 * (6 - (j : Int))) = 8 * (6 - j) := w64 (by omega) (by omega)
    have e3 : (8 * (6 - (j : Int))).toNat = 8 * (6 - j) := by omega
    have e4 : min (8 * (6 - j)) 64 = 8 * (6 - j) := by omega
    simp only [e1, e2, e3, e4]
    have hz : (List.range j).map (qC w) ++ [IntKind.u8.wrap (w.fdiv (2 ^ (8 * (6 - j))))] = (List.range (j + 1)).map (qC w) := by rw [List.range_succ]; simp [qC]
    have hl2 : (pre ++ (List.range (j + 1)).map (qC w)).length = pre.length + (j + 1) := by simp
    rw [hz, hl2, w64 (by omega) (by omega)]
    exact ⟨by omega, by unfold roomy; omega, m - 1, by omega, j + 1, by omega, rfl, rfl⟩
  · have : j = 7 := by omega
    subst this
    exact hJ

theorem dS.spec : bJ Tryz.prog 115 dS.C := by
  refine bJ.of (bU (F := []) (S := []) (by simp) (by simp) dS.loops) dS.at dS.nm dS.bd ?_
  intro vs b S v news e hS
  unfold dS.C at e
  split at e
  rotate_left
  · cases e
  cases e
  rw [dS.eq]
  unfold dS.H
  simp (maxSteps := 4000000) only [go_sem, reduceEqDiff, Nat.reduceLT, reduceAdd, reduceSub, reduceLeDiff, reduceReplicate, reduceToNat]
  rename_i l n
  unfold roomy at hS
  obtain ⟨hS, hn63⟩ := hS
  refine ⟨fun _ => by decide, fun hb => aBC ?_ _, fun hb => ?_⟩
  · have hb : (!decide (n < 0) && decide ((l.length : Int) = lenT n)) = false := by
      unfold lenT
      revert hb
      cases decide (n < 0) <;> simp
    unfold mO
    rw [hb]; rfl
  have hb1 : ¬ n < 0 := by intro h; simp [h] at hb
  have hb2 : (l.length : Int) = lenT n := by
    rw [decide_eq_false hb1, Bool.false_or, Bool.not_eq_false', decide_eq_true_eq] at hb
    exact hb
  have e7 : IntKind.i64.wrap (7 * (l.length : Int)) = ((7 * l.length : Nat) : Int) := by rw [w64 (by omega) (by omega)]; omega
  refine ⟨⟨by omega, by rw [e7]; omega, by rw [e7, Int.toNat_natCast]; exact hS⟩, ?_⟩
  rw [aB]
  unfold dS.L1
  refine ⟨fun m lv h' => ∃ k v : Nat, k + m = l.length ∧ lv = [.sref false 0 v 0 (7 * k), .int .i64 k] ∧ h' = [.row .own v (.ints .u8 (iW (l.take k)))] ∧ (l.take k).all wMay = true,
    ⟨l.length, 0, 0, by omega, rfl, rfl, rfl⟩, ?_⟩
  rintro m h' t6 t31 ⟨k, v, hk, hlv, rfl, hall⟩
  simp only [List.cons.injEq, and_true] at hlv
  obtain ⟨rfl, rfl⟩ := hlv
  have hfl : (iW (l.take k)).length = 7 * k := by rw [aJQ, List.length_take, Nat.min_eq_left (by omega)]
  simp only [go_sem, reduceEqDiff, Nat.reduceLT, reduceAdd, reduceSub, reduceLeDiff, reduceReplicate, reduceToNat, hfl]
  refine ⟨fun hlt => ?_, fun hge => ?_⟩
  · have hkl : k < l.length := by omega
    rw [aB]
    refine ⟨by omega, fun hbad => aBC ?_ _, fun hok => ?_⟩
    · have : l.all wMay = false := by
        rw [List.all_eq_false]
        refine ⟨_, kX l k 0 hkl, fun h => ?_⟩
        simp only [wMay, Bool.and_eq_true, decide_eq_true_eq] at h
        simp only [Bool.or_eq_true, decide_eq_true_eq] at hbad
        omega
      simp [mO, this]
    · have hw : wMay (l.getD k 0) = true := by
        simp only [Bool.or_eq_false_iff, decide_eq_false_iff_not] at hok
        simp only [wMay, Bool.and_eq_true, decide_eq_true_eq]; omega
      rw [aB]
      have hL2 := aGN (ctx [] [] dS.loops)
      rw [← hfl]
      refine hL2 _ _ _ _ _ _ _ _ _ (by rw [hfl]; omega) ?_
      have hnx : iW (l.take k) ++ qD (l.getD k 0) = iW (l.take (k + 1)) := by
        rw [iC l k 0 hkl]; simp [iW]
      rw [hnx, hfl]
      simp only [go_sem, reduceEqDiff, Nat.reduceLT, reduceAdd, reduceSub, reduceLeDiff, reduceReplicate, reduceToNat]
      have hmx : ¬ (False) := id
      refine ⟨m - 1, by omega, k + 1, v + 7, by omega, by rw [w64 (by omega) (by omega)]; rfl, rfl, ?_⟩
      rw [iC l k 0 hkl, List.all_append, hall, Bool.true_and, List.all_cons, hw]
      rfl
  · have : k = l.length := by omega
    subst this
    rw [List.take_length] at *
    obtain ⟨N, rfl⟩ : ∃ N : Nat, n = N := ⟨n.toNat, by omega⟩
    have hN : (l.length : Int) = ((N + 6) / 7 : Nat) := by rw [hb2, aFC N (by omega)]
    refine ⟨by omega, ?_⟩
    rw [aB, Int.toNat_natCast]
    unfold dS.L3
    refine ⟨fun m lv h' => ∃ j : Nat, j + m = 7 * l.length - N ∧ lv = [.int .i64 j] ∧ h' = [.row .own v (.ints .u8 (iW l))] ∧ ∀ i, i < j → (iW l).getD (N + i) 0 = 0,
      ⟨_, 0, Nat.zero_add _, rfl, rfl, fun i hi => by omega⟩, ?_⟩
    rintro m h' t59 ⟨j, hj, hlv, rfl, hz⟩
    simp only [List.cons.injEq, and_true] at hlv
    subst hlv
    simp only [go_sem, reduceEqDiff, Nat.reduceLT, reduceAdd, reduceSub, reduceLeDiff, reduceReplicate, reduceToNat, hfl]
    refine ⟨fun hlt => ⟨by omega, by omega, fun h0 => aBC ?_ _, fun h0 => ?_⟩, fun hge => ⟨by omega, ?_⟩⟩
    · have : ((iW l).drop N).all (fun b => decide (b = 0)) = false := by
        rw [List.all_eq_false]
        have hjl : j < ((iW l).drop N).length := by rw [List.length_drop, hfl]; omega
        have e : ((iW l).drop N).getD j 0 = (iW l).getD (N + j) 0 := by rw [List.getD_eq_getElem?_getD, List.getD_eq_getElem?_getD, List.getElem?_drop]
        exact ⟨_, kX _ j 0 hjl, by rw [e]; simpa using h0⟩
      simp [mO, this]
    · refine ⟨m - 1, by omega, j + 1, by omega, by rw [w64 (by omega) (by omega)]; rfl, fun i hi => ?_⟩
      by_cases e : i = j
      · subst e; exact h0
      · exact hz i (by omega)
    · have hj2 : j = 7 * l.length - N := by omega
      have hzero : ((iW l).drop N).all (fun b => decide (b = 0)) = true := by
        rw [List.all_eq_true]
        intro b hb
        obtain ⟨i, hi, rfl⟩ := List.getElem_of_mem hb
        rw [List.length_drop, hfl] at hi
        have := hz i (by omega)
        rw [List.getD_eq_getElem?_getD, List.getElem?_eq_getElem (by rw [hfl]; omega)] at this
        rw [List.getElem_drop]
        simpa using this
      have hB : mO l N = true := by
        unfold mO
        rw [hall, Int.toNat_natCast, hzero, decide_eq_false hb1, decide_eq_true hb2]; rfl
      unfold aAy uP
      simp only [hB, if_true]
      exact aJ rfl rfl
def gG.C : aF
  | [.str s] => some (false, pD True (.bool (decide (s ≠ []) && decide ((s.length : Int) ≤ 21))))
  | _ => none
theorem gG.spec : bJ Tryz.prog 53 gG.C := by
  refine bJ.of (bU (F := []) (S := []) (by simp) (by simp) gG.loops) gG.at gG.nm gG.bd ?_
  intro vs b S v news e hS
  unfold gG.C at e
  split at e
  rotate_left
  · cases e
  cases e
  rw [gG.eq]
  unfold gG.H
  simp (maxSteps := 4000000) only [go_sem, reduceEqDiff, Nat.reduceLT, reduceAdd, reduceSub, reduceLeDiff, reduceReplicate, reduceToNat]
  rename_i s
  have : (decide ¬s = []) = !decide (s = []) := by by_cases h : s = [] <;> simp [h]
  rw [this]
  exact aJ rfl rfl
def dX.C : aF
  | [.str s] => some (false, pD True (.bool (decide ((s.length : Int) ≤ 21))))
  | _ => none
theorem dX.spec : bJ Tryz.prog 116 dX.C := by
  refine bJ.of (bU (F := []) (S := []) (by simp) (by simp) dX.loops) dX.at dX.nm dX.bd ?_
  intro vs b S v news e hS
  unfold dX.C at e
  split at e
  rotate_left
  · cases e
  cases e
  rw [dX.eq]
  unfold dX.H
  simp (maxSteps := 4000000) only [go_sem, reduceEqDiff, Nat.reduceLT, reduceAdd, reduceSub, reduceLeDiff, reduceReplicate, reduceToNat]
  exact aJ rfl rfl
end Lam
namespace Lam
open Go Go.Proofs
def dY.loops : Nat → bX
 | 1 => ⟨[], [], [], [(3, none), (5, some [11, 16])], [], []⟩
 | _ => ⟨[], [], [], [], [], []⟩
def dY.H (c : Ctx) (t0 : AV) (t1 : AV) (h : List AObj) (K : AOut → List AObj → Prop) : Prop :=
 cK aK h fun t4 h =>
 runD (binD aA .lss t1 (.int .i64 0)) h fun t10 h =>
 aM (fun (J1 : AV → AV → List AObj → Prop) =>
 aX t10 false
 (runD (lenD aP h t0) h fun t14 h =>
 runD (binD aA .quo t14 (.int .i64 16)) h fun t15 h =>
 runD (binD aA .geq t1 t15) h fun t16 h =>
 J1 (.bool false) t16 h)
 (J1 (.bool true) .und h))
 (fun t11 t16 h => runD (bP t11 (.bool true) t16) h fun t17 h =>
 aZ t17
 (runD (gC aK []) h fun t18 h =>
 runH (aQ aK h t4 t18) h fun _ h =>
 cL (fitD aK (aD h t4)) fun r0 => K (.ret (.tup [r0, (.int .i64 1)])) h)
 (cK cX h fun t6 h =>
 runD (dO cX h t6 none none none) h fun t19 h =>
 runD (binD aA .mul (.int .i64 16) t1) h fun t22 h =>
 runD (dO aP h t0 (some t22) none none) h fun t23 h =>
 runM (lA aP h t19 t23) h fun t24 h =>
 runD (aH cX h t6 (.int .i64 0)) h fun t25 h =>
 runD (fitD aA (aD h t25)) h fun t26 h =>
 runD (gC aK [(0, t26)]) h fun t27 h =>
 cK aK h fun t7 h =>
 runH (aQ aK h t7 t27) h fun _ h =>
 runD (fitD cX (aD h t6)) h fun t29 h =>
 runD (aH cX h t6 (.int .i64 1)) h fun t30 h =>
 runD (fitD aA (aD h t30)) h fun t31 h =>
 runD (binD aA .quo t31 (.int .i64 32)) h fun t32 h =>
 bB false c (.fn (.func 99) [] []) [t29, (.int .i64 3), t32] h (fun t33 h =>
 runD (bM t33 0) h fun t34 h =>
 runD (bM t33 1) h fun t35 h =>
 runD (aC aK t7 1) h fun t36 h =>
 runH (aQ bS h t36 t34) h fun _ h =>
 runD (unD .not t35) h fun t38 h =>
 aZ t38
 (runD (gC aK []) h fun t39 h =>
 runH (aQ aK h t4 t39) h fun _ h =>
 cL (fitD aK (aD h t4)) fun r0 => K (.ret (.tup [r0, (.int .i64 70)])) h)
 (runD (aC aK t7 0) h fun t40 h =>
 runD (fitD aA (aD h t40)) h fun t41 h =>
 runD (binD aA .eql t41 (.int .i64 1)) h fun t43 h =>
 aM (fun (J2 : AV → List AObj → Prop) =>
 aZ t43
 (runD (fitD cX (aD h t6)) h fun t45 h =>
 runD (aH cX h t6 (.int .i64 1)) h fun t46 h =>
 runD (fitD aA (aD h t46)) h fun t47 h =>
 runD (binD aA .rem t47 (.int .i64 32)) h fun t48 h =>
 bB false c (.fn (.func 99) [] []) [t45, (.int .i64 6), t48] h (fun t49 h =>
 runD (bM t49 0) h fun t50 h =>
 runD (bM t49 1) h fun t51 h =>
 runD (aC aK t7 2) h fun t52 h =>
 runH (aQ bS h t52 t50) h fun _ h =>
 J2 t51 h)
 (fun v h => K (.pan v) h))
 (runD (binD aA .eql t41 (.int .i64 2)) h fun t54 h =>
 aM (fun (J3 : List AObj → Prop) =>
 aZ t54
 (runD (aH cX h t6 (.int .i64 6)) h fun t55 h =>
 runD (fitD aA (aD h t55)) h fun t56 h =>
 runD (aC aK t7 3) h fun t57 h =>
 runH (aQ aA h t57 t56) h fun _ h =>
 J3 h)
 (J3 h))
 (fun h => J2 t35 h)))
 (fun t8 h => runD (unD .not t8) h fun t59 h =>
 aM (fun (J4 : AV → AV → List AObj → Prop) =>
 aX t59 false
 (runD (fitD aK (aD h t7)) h fun t61 h =>
 bB false c.noS (.fn (.func 100) [] []) [t61] h (fun t62 h =>
 runD (unD .not t62) h fun t63 h =>
 J4 (.bool false) t63 h)
 (fun _ _ => False))
 (J4 (.bool true) .und h))
 (fun t60 t63 h => runD (bP t60 (.bool true) t63) h fun t64 h =>
 aM (fun (J5 : AV → AV → List AObj → Prop) =>
 aX t64 false
 (runD (fitD aK (aD h t7)) h fun t66 h =>
 bB false c.noS (.fn (.func 101) [] []) [t66] h (fun t67 h =>
 runD (fitD cX (aD h t6)) h fun t68 h =>
 runD (binD cX .neq t67 t68) h fun t69 h =>
 J5 (.bool false) t69 h)
 (fun _ _ => False))
 (J5 (.bool true) .und h))
 (fun t65 t69 h => runD (bP t65 (.bool true) t69) h fun t70 h =>
 aZ t70
 (runD (gC aK []) h fun t71 h =>
 runH (aQ aK h t4 t71) h fun _ h =>
 cL (fitD aK (aD h t4)) fun r0 => K (.ret (.tup [r0, (.int .i64 70)])) h)
 (runD (fitD aK (aD h t7)) h fun t72 h =>
 runH (aQ aK h t4 t72) h fun _ h =>
 cL (fitD aK (aD h t4)) fun r0 => K (.ret (.tup [r0, (.int .i64 0)])) h))))))
 (fun v h => K (.pan v) h)))
def gP.loops : Nat → bX
 | 1 => ⟨[], [], [], [(3, none), (2, some [12, 14])], [], []⟩
 | _ => ⟨[], [], [], [], [], []⟩
def gP.H (c : Ctx) (t0 : AV) (t1 : AV) (t2 : AV) (h : List AObj) (K : AOut → List AObj → Prop) : Prop :=
 boxW cX t0 h fun t3 h =>
 runD (binD aA .lss t2 (.int .i64 0)) h fun t11 h =>
 aM (fun (J1 : AV → AV → List AObj → Prop) =>
 aX t11 false
 (runD (binD aA .gtr t2 (.int .i64 21)) h fun t14 h =>
 J1 (.bool false) t14 h)
 (J1 (.bool true) .und h))
 (fun t12 t14 h => runD (bP t12 (.bool true) t14) h fun t15 h =>
 aZ t15
 (K (.ret (.tup [(.str []), (.bool false)])) h)
 (runD (binD aA .add t2 (.int .i64 6)) h fun t20 h =>
 runD (binD aA .quo t20 (.int .i64 7)) h fun t21 h =>
 runD (binD aA .add t1 t21) h fun t22 h =>
 runD (dO cX h t3 (some t1) (some t22) none) h fun t23 h =>
 bB false c (.fn (.func 115) [] []) [t23, t2] h (fun t25 h =>
 runD (bM t25 0) h fun t26 h =>
 runD (bM t25 1) h fun t27 h =>
 runD (binD dD .eql t27 (.int .i64 0)) h fun t30 h =>
 K (.ret (.tup [t26, t30])) h)
 (fun v h => K (.pan v) h)))
def eH.loops : Nat → bX
 | 3 => ⟨[], [], [], [(4, none), (3, some [10, 13]), (2, none), (3, some [15, 18])], [], []⟩
 | 5 => ⟨[], [], [], [(4, none), (3, some [25, 28]), (2, none), (3, some [30, 33]), (2, none), (3, some [35, 38]), (2, none), (3, some [40, 43])], [], []⟩
 | _ => ⟨[], [], [], [], [], []⟩
def eH.H (c : Ctx) (t0 : AV) (h : List AObj) (K : AOut → List AObj → Prop) : Prop :=
 boxW aK t0 h fun t1 h =>
 runD (aC aK t1 0) h fun t3 h =>
 runD (fitD aA (aD h t3)) h fun t4 h =>
 runD (binD aA .eql t4 (.int .i64 1)) h fun t6 h =>
 aZ t6
 (runD (aC aK t1 1) h fun t7 h =>
 runD (fitD bS (aD h t7)) h fun t8 h =>
 bB false c (.fn (.func 53) [] []) [t8] h (fun t9 h =>
 aM (fun (J1 : AV → AV → List AObj → Prop) =>
 aX t9 true
 (runD (aC aK t1 2) h fun t11 h =>
 runD (fitD bS (aD h t11)) h fun t12 h =>
 bB false c (.fn (.func 116) [] []) [t12] h (fun t13 h =>
 J1 (.bool true) t13 h)
 (fun v h => K (.pan v) h))
 (J1 (.bool false) .und h))
 (fun t10 t13 h => runD (bP t10 t13 (.bool false)) h fun t14 h =>
 aM (fun (J2 : AV → AV → List AObj → Prop) =>
 aX t14 true
 (runD (aC aK t1 3) h fun t16 h =>
 runD (fitD aA (aD h t16)) h fun t17 h =>
 runD (binD aA .eql t17 (.int .i64 0)) h fun t18 h =>
 J2 (.bool true) t18 h)
 (J2 (.bool false) .und h))
 (fun t15 t18 h => runD (bP t15 t18 (.bool false)) h fun t19 h =>
 K (.ret t19) h)))
 (fun v h => K (.pan v) h))
 (runD (binD aA .eql t4 (.int .i64 2)) h fun t21 h =>
 aZ t21
 (runD (aC aK t1 1) h fun t22 h =>
 runD (fitD bS (aD h t22)) h fun t23 h =>
 runD (binD bS .eql t23 (.str [])) h fun t24 h =>
 aM (fun (J3 : AV → AV → List AObj → Prop) =>
 aX t24 false
 (runD (aC aK t1 1) h fun t26 h =>
 runD (fitD bS (aD h t26)) h fun t27 h =>
 bB false c (.fn (.func 53) [] []) [t27] h (fun t28 h =>
 J3 (.bool false) t28 h)
 (fun v h => K (.pan v) h))
 (J3 (.bool true) .und h))
 (fun t25 t28 h => runD (bP t25 (.bool true) t28) h fun t29 h =>
 aM (fun (J4 : AV → AV → List AObj → Prop) =>
 aX t29 true
 (runD (aC aK t1 2) h fun t31 h =>
 runD (fitD bS (aD h t31)) h fun t32 h =>
 runD (binD bS .eql t32 (.str [])) h fun t33 h =>
 J4 (.bool true) t33 h)
 (J4 (.bool false) .und h))
 (fun t30 t33 h => runD (bP t30 t33 (.bool false)) h fun t34 h =>
 aM (fun (J5 : AV → AV → List AObj → Prop) =>
 aX t34 true
 (runD (aC aK t1 3) h fun t36 h =>
 runD (fitD aA (aD h t36)) h fun t37 h =>
 runD (binD aA .gtr t37 (.int .i64 0)) h fun t38 h =>
 J5 (.bool true) t38 h)
 (J5 (.bool false) .und h))
 (fun t35 t38 h => runD (bP t35 t38 (.bool false)) h fun t39 h =>
 aM (fun (J6 : AV → AV → List AObj → Prop) =>
 aX t39 true
 (runD (aC aK t1 3) h fun t41 h =>
 runD (fitD aA (aD h t41)) h fun t42 h =>
 runD (binD aA .lss t42 (.int .i64 256)) h fun t43 h =>
 J6 (.bool true) t43 h)
 (J6 (.bool false) .und h))
 (fun t40 t43 h => runD (bP t40 t43 (.bool false)) h fun t44 h =>
 K (.ret t44) h)))))
 (K (.ret (.bool false)) h))
def hX.loops : Nat → bX
 | _ => ⟨[], [], [], [], [], []⟩
def hX.H (c : Ctx) (t0 : AV) (h : List AObj) (K : AOut → List AObj → Prop) : Prop :=
 boxW aK t0 h fun t1 h =>
 cK cX h fun t2 h =>
 runD (aC aK t1 0) h fun t4 h =>
 runD (fitD aA (aD h t4)) h fun t5 h =>
 runD (aC aK t1 1) h fun t6 h =>
 runD (fitD bS (aD h t6)) h fun t7 h =>
 runD (lenD bS h t7) h fun t8 h =>
 runD (binD aA .mul (.int .i64 32) t8) h fun t9 h =>
 runD (aC aK t1 2) h fun t10 h =>
 runD (fitD bS (aD h t10)) h fun t11 h =>
 runD (lenD bS h t11) h fun t12 h =>
 runD (binD aA .add t9 t12) h fun t13 h =>
 runD (gC cX [(0, t5), (1, t13)]) h fun t14 h =>
 cK cX h fun t3 h =>
 runH (aQ cX h t3 t14) h fun _ h =>
 runD (dO cX h t3 (some (.int .i64 3)) none none) h fun t15 h =>
 runD (aC aK t1 1) h fun t16 h =>
 runD (fitD bS (aD h t16)) h fun t17 h =>
 bB false c.noS (.fn (.func 117) [] []) [t17] h (fun t18 h =>
 runM (lA aP h t15 t18) h fun t19 h =>
 runD (dO cX h t3 (some (.int .i64 6)) none none) h fun t20 h =>
 runD (aC aK t1 2) h fun t21 h =>
 runD (fitD bS (aD h t21)) h fun t22 h =>
 bB false c.noS (.fn (.func 117) [] []) [t22] h (fun t23 h =>
 runM (lA aP h t20 t23) h fun t24 h =>
 runD (aC aK t1 0) h fun t25 h =>
 runD (fitD aA (aD h t25)) h fun t26 h =>
 runD (binD aA .eql t26 (.int .i64 2)) h fun t27 h =>
 aM (fun (J1 : List AObj → Prop) =>
 aZ t27
 (runD (aC aK t1 3) h fun t28 h =>
 runD (fitD aA (aD h t28)) h fun t29 h =>
 runD (aH cX h t3 (.int .i64 6)) h fun t30 h =>
 runH (aQ aA h t30 t29) h fun _ h =>
 J1 h)
 (J1 h))
 (fun h => runD (fitD cX (aD h t3)) h fun t31 h =>
 bB false c (.fn (.func 118) [] []) [t31] h (fun t32 h =>
 runH (aQ cX h t2 t32) h fun _ h =>
 cL (fitD cX (aD h t2)) fun r0 => K (.ret r0) h)
 (fun v h => K (.pan v) h)))
 (fun _ _ => False))
 (fun _ _ => False)
def fG.loops : Nat → bX
 | _ => ⟨[], [], [], [], [], []⟩
def fG.H (c : Ctx) (t0 : AV) (h : List AObj) (K : AOut → List AObj → Prop) : Prop :=
 boxW cX t0 h fun t1 h =>
 cK cX h fun t2 h =>
 runD (aH cX h t1 (.int .i64 0)) h fun t4 h =>
 runD (fitD aA (aD h t4)) h fun t5 h =>
 runD (aH cX h t1 (.int .i64 1)) h fun t6 h =>
 runD (fitD aA (aD h t6)) h fun t7 h =>
 runD (fD aP 2 [(0, t5), (1, t7)] h.length) h fun t8 h =>
 runD (dO cX h t1 (some (.int .i64 3)) none none) h fun t9 h =>
 jE (fT aP h t8 t9 h.length) (gJ aP h t8 t9) h fun t10 h =>
 bB false c (.fn (.func 93) [] []) [t10] h (fun t12 h =>
 runD (aH cX h t1 (.int .i64 2)) h fun t13 h =>
 runH (aQ aA h t13 t12) h fun _ h =>
 runD (fitD cX (aD h t1)) h fun t14 h =>
 runH (aQ cX h t2 t14) h fun _ h =>
 cL (fitD cX (aD h t2)) fun r0 => K (.ret r0) h)
 (fun v h => K (.pan v) h)
theorem dY.eq (F : List (FuncId × aF)) (S : List (FuncId × Con)) (t0 t1 : AV) (h : List AObj) (K : AOut → List AObj → Prop) : funW (ctx F S dY.loops) Tryz.f79 [t0, t1] h K = dY.H (ctx F S dY.loops) t0 t1 h K := by kernel_rfl
theorem gP.eq (F : List (FuncId × aF)) (S : List (FuncId × Con)) (t0 t1 t2 : AV) (h : List AObj) (K : AOut → List AObj → Prop) : funW (ctx F S gP.loops) Tryz.f99 [t0, t1, t2] h K = gP.H (ctx F S gP.loops) t0 t1 t2 h K := by kernel_rfl
theorem eH.eq (F : List (FuncId × aF)) (S : List (FuncId × Con)) (t0 : AV) (h : List AObj) (K : AOut → List AObj → Prop) : funW (ctx F S eH.loops) Tryz.f100 [t0] h K = eH.H (ctx F S eH.loops) t0 h K := by kernel_rfl
theorem hX.eq (F : List (FuncId × aF)) (S : List (FuncId × Con)) (t0 : AV) (h : List AObj) (K : AOut → List AObj → Prop) : funW (ctx F S hX.loops) Tryz.f101 [t0] h K = hX.H (ctx F S hX.loops) t0 h K := by kernel_rfl
theorem fG.eq (F : List (FuncId × aF)) (S : List (FuncId × Con)) (t0 : AV) (h : List AObj) (K : AOut → List AObj → Prop) : funW (ctx F S fG.loops) Tryz.f118 [t0] h K = fG.H (ctx F S fG.loops) t0 h K := by kernel_rfl
theorem dY.at : Tryz.prog.funcs[79]? = some Tryz.f79 := by kernel_rfl
theorem dY.nm : (Tryz.f79.name == "runtime.NumGoroutine") = false := by kernel_rfl
theorem dY.bd : Tryz.f79.body.isNone = false := by kernel_rfl
theorem gP.at : Tryz.prog.funcs[99]? = some Tryz.f99 := by kernel_rfl
theorem gP.nm : (Tryz.f99.name == "runtime.NumGoroutine") = false := by kernel_rfl
theorem gP.bd : Tryz.f99.body.isNone = false := by kernel_rfl
theorem eH.at : Tryz.prog.funcs[100]? = some Tryz.f100 := by kernel_rfl
theorem eH.nm : (Tryz.f100.name == "runtime.NumGoroutine") = false := by kernel_rfl
theorem eH.bd : Tryz.f100.body.isNone = false := by kernel_rfl
theorem hX.at : Tryz.prog.funcs[101]? = some Tryz.f101 := by kernel_rfl
theorem hX.nm : (Tryz.f101.name == "runtime.NumGoroutine") = false := by kernel_rfl
theorem hX.bd : Tryz.f101.body.isNone = false := by kernel_rfl
theorem fG.at : Tryz.prog.funcs[118]? = some Tryz.f118 := by kernel_rfl
theorem fG.nm : (Tryz.f118.name == "runtime.NumGoroutine") = false := by kernel_rfl
theorem fG.bd : Tryz.f118.body.isNone = false := by kernel_rfl
end Lam
namespace Lam
open Go Go.Proofs
def eH.C : aF
  | [.agg [.int .i64 a, .str k, .str v, .int .i64 c]] => some (false, pD True (.bool (recB ⟨a, k, v, c⟩)))
  | _ => none
theorem eH.spec : bJ Tryz.prog 100 eH.C := by
  refine bJ.of (bU (F := [(53, gG.C), (116, dX.C)]) (S := []) (by simpa using ⟨gG.spec, dX.spec⟩) (by simp) eH.loops) eH.at eH.nm eH.bd ?_
  intro vs b S v news e hS
  unfold eH.C at e
  split at e
  rotate_left
  · cases e
  cases e
  rw [eH.eq]
  unfold eH.H
  simp (maxSteps := 4000000) only [go_sem, reduceEqDiff, Nat.reduceLT, reduceAdd, reduceSub, reduceLeDiff, reduceReplicate, reduceToNat, gG.C, dX.C]
  rename_i a k v c
  have r1 : a = 1 → recB ⟨a, k, v, c⟩ = (decide (¬ k = []) && decide ((List.length k : Int) ≤ 21) && decide ((List.length v : Int) ≤ 21) && decide (c = 0)) := by
    rintro rfl
    unfold recB keyB
    rw [Bool.eq_iff_iff]
    simp [and_assoc]
  have r2 : a = 2 → recB ⟨a, k, v, c⟩ = ((decide (k = []) || decide (¬ k = []) && decide ((List.length k : Int) ≤ 21)) && decide (v = []) && decide (0 < c) && decide (c < 256)) := by
    rintro rfl
    unfold recB keyB
    rw [Bool.eq_iff_iff]
    simp [and_assoc]
  have r3 : ¬ a = 1 → ¬ a = 2 → recB ⟨a, k, v, c⟩ = false := by
    intro h1 h2
    unfold recB
    rw [decide_eq_false h1, decide_eq_false h2]; rfl
  refine ⟨fun h => ?_, fun h => ⟨fun h2 => ?_, fun h2 => ?_⟩⟩
  · rw [r1 h]; exact aJ rfl rfl
  · rw [r2 h2]; exact aJ rfl rfl
  · rw [r3 h h2]; exact aJ rfl rfl
def fG.C : aF
  | [.arr (.ints .i64 l)] => some (false, pD (l.length = 16) (.arr (.ints .i64 (l.set 2 (aAv (l.getD 0 0 :: l.getD 1 0 :: l.drop 3))))))
  | _ => none
theorem fG.spec : bJ Tryz.prog 118 fG.C := by
  refine bJ.of (bU (F := [(93, gS.C)]) (S := []) (by simpa using gS.spec) (by simp) fG.loops) fG.at fG.nm fG.bd ?_
  intro vs b S v news e hS
  unfold fG.C at e
  split at e
  rotate_left
  · cases e
  cases e
  rw [fG.eq]
  unfold fG.H
  simp (maxSteps := 4000000) only [go_sem, reduceEqDiff, Nat.reduceLT, reduceAdd, reduceSub, reduceLeDiff, reduceReplicate, reduceToNat, gS.C]
  rename_i l
  simp only [hS, gS.C, aB, gq, reduceEq, reduceLT, reduceLE, implies_true, reduceCtorEq, if_true, if_false, go_sem, reduceEqDiff, Nat.reduceLT, reduceAdd, reduceSub, reduceLeDiff, reduceReplicate, reduceToNat]
  have htk : (l.drop 3).take 13 = l.drop 3 := pF _ (by simp; omega)
  rw [htk]
  have : roomy ((l.drop 3).length + 1 + 1) := by unfold roomy; simp; omega
  exact ⟨this, this, aJ rfl rfl⟩
def hX.C : aF
  | [.agg [.int .i64 a, .str k, .str v, .int .i64 c]] => some (false, pD (Rc.ok ⟨a, k, v, c⟩) (.arr (.ints .i64 (iA ⟨a, k, v, c⟩))))
  | _ => none
theorem hX.spec : bJ Tryz.prog 101 hX.C := by
  refine bJ.of (bU (F := [(117, eR.C), (118, fG.C)]) (S := []) (by simpa using ⟨eR.spec, fG.spec⟩) (by simp) hX.loops) hX.at hX.nm hX.bd ?_
  intro vs b S v news e hS
  unfold hX.C at e
  split at e
  rotate_left
  · cases e
  cases e
  rw [hX.eq]
  unfold hX.H
  simp (maxSteps := 4000000) only [go_sem, reduceEqDiff, Nat.reduceLT, reduceAdd, reduceSub, reduceLeDiff, reduceReplicate, reduceToNat, eR.C, fG.C]
  rename_i a k v c
  have hok := hS
  have hk := nS hS.key
  have hkl : (keyW k).length = (k.length + 6) / 7 := tX k
  have hvl : (keyW v).length = (v.length + 6) / 7 := tX v
  have q1 := hS.key
  have q2 := hS.val
  simp only at q1 q2 hk
  have e1 : IntKind.i64.wrap (IntKind.i64.wrap (32 * (List.length k : Int)) + (List.length v : Int)) = lZ ⟨a, k, v, c⟩ := by
    rw [w64 (n := 32 * (List.length k : Int)) (by omega) (by omega), w64 (by omega) (by omega)]; rfl
  rw [e1]
  generalize hm : lZ ⟨a, k, v, c⟩ = m at *
  have pad : ∀ (t : List Int), t.length ≤ 3 → t.take 13 ++ List.take (16 - (3 + min 13 t.length)) (List.drop (3 + min 13 t.length) [a, m, 0, 0, 0, 0, 0, 0, 0, 0, 0, 0, 0, 0, 0, 0]) = t ++ List.replicate (13 - t.length) 0 := by
    intro t ht
    rw [pF t (by omega), Nat.min_eq_right (by omega)]
    congr 1
    have : ∀ n, n ≤ 3 → List.take (16 - (3 + n)) (List.drop (3 + n) [a, m, 0, 0, 0, 0, 0, 0, 0, 0, 0, 0, 0, 0, 0, 0]) = List.replicate (13 - n) 0 := by
      intro n hn
      rcases n with _|_|_|_|n <;> first | rfl | omega
    exact this _ ht
  have hkl3 : (keyW k).length ≤ 3 := by omega
  have hvl3 : (keyW v).length ≤ 3 := by omega
  rw [pad _ hkl3]
  have hL : (keyW k ++ List.replicate (13 - (keyW k).length) 0).length = 13 := by simp; omega
  simp only [hL, eR.C, aB, gq, reduceEq, reduceLT, reduceLE, implies_true, reduceCtorEq, if_true, if_false, go_sem, reduceEqDiff, Nat.reduceLT, reduceAdd, reduceSub, reduceLeDiff, reduceReplicate, reduceToNat]
  have hZ : List.take 3 (keyW k ++ List.replicate (13 - (keyW k).length) 0) = jB k := by
    unfold jB
    rw [List.take_append, pF (keyW k) hkl3, List.take_replicate, Nat.min_eq_left (by omega)]
  have hT : List.take 10 (keyW v) ++ List.take (16 - (6 + min 10 (keyW v).length)) (List.drop (6 + min 10 (keyW v).length) (a :: m :: 0 :: (keyW k ++ List.replicate (13 - (keyW k).length) 0))) = keyW v ++ List.replicate (10 - (keyW v).length) 0 := by
    rw [pF (keyW v) (by omega), Nat.min_eq_right (by omega)]
    congr 1
    rw [show 6 + (keyW v).length = (3 + (keyW v).length) + 1 + 1 + 1 from by omega, List.drop_succ_cons, List.drop_succ_cons, List.drop_succ_cons, List.drop_append, List.drop_eq_nil_of_le (by omega), List.nil_append, List.drop_replicate, List.take_replicate]
    congr 1; omega
  rw [hZ, hT]
  have hlen : (jB k ++ (keyW v ++ List.replicate (10 - (keyW v).length) 0)).length = 13 := by simp [hk]; omega
  have hr1 : a ≠ 2 → jB k ++ (keyW v ++ List.replicate (10 - (keyW v).length) 0) = uQ ⟨a, k, v, c⟩ := by
    intro h
    unfold uQ
    simp only [if_neg h]
    congr 1
    unfold jB
    rw [List.append_assoc, List.replicate_append_replicate]
    congr 2; omega
  have hr2 : a = 2 → (jB k ++ (keyW v ++ List.replicate (10 - (keyW v).length) 0)).set 3 c = uQ ⟨a, k, v, c⟩ := by
    intro h
    have hv0 : v = [] := by
      rcases hok with h' | h'
      · have := h'.1; simp only at this; omega
      · exact h'.2.2.1
    subst hv0
    unfold uQ
    simp only [if_pos h]
    rw [List.set_append_right _ _ (by omega), hk]
    rfl
  have hmr : m = lZ ⟨a, k, v, c⟩ := hm.symm
  simp only [hlen, fG.C, aB, gq, reduceEq, reduceLT, reduceLE, implies_true, reduceCtorEq, if_true, if_false, go_sem, reduceEqDiff, Nat.reduceLT, reduceAdd, reduceSub, reduceLeDiff, reduceReplicate, reduceToNat]
  have hd3 : ∀ R : List Int, List.drop 3 (a :: m :: 0 :: R) = R := fun R => rfl
  refine ⟨by unfold roomy; omega, by unfold roomy; omega, fun h2 => ?_, fun h2 => ?_⟩
  · rw [hr2 h2, hd3, hmr]; exact aJ rfl rfl
  · rw [hr1 h2, hd3, hmr]; exact aJ rfl rfl
def gP.C : aF
  | [.arr (.ints .i64 l), .int .i64 a, .int .i64 n] => some (false, pD (l.length = 16 ∧ 0 ≤ a ∧ a ≤ 6) (.tup [.str (txtS l a.toNat n), .bool (txtB l a.toNat n)]))
  | _ => none
theorem gP.spec : bJ Tryz.prog 99 gP.C := by
  refine bJ.of (bU (F := [(115, dS.C)]) (S := []) (by simpa using dS.spec) (by simp) gP.loops) gP.at gP.nm gP.bd ?_
  intro vs b S v news e hS
  unfold gP.C at e
  split at e
  rotate_left
  · cases e
  cases e
  rw [gP.eq]
  unfold gP.H
  simp (maxSteps := 4000000) only [go_sem, reduceEqDiff, Nat.reduceLT, reduceAdd, reduceSub, reduceLeDiff, reduceReplicate, reduceToNat, dS.C]
  rename_i l a n
  obtain ⟨hl, ha0, ha6⟩ := hS
  have eg : (decide (n < 0) || decide (21 < n)) = !(decide (0 ≤ n) && decide (n ≤ 21)) := by
    rw [Bool.eq_iff_iff]; simp only [Bool.or_eq_true, Bool.not_eq_true', Bool.and_eq_false_iff, decide_eq_true_eq, decide_eq_false_iff_not]; omega
  rw [eg]
  refine ⟨hl, fun h => ?_, fun h => ?_⟩
  · have hb : txtB l a.toNat n = false := by
      unfold txtB; rw [Bool.not_eq_true'] at h; rw [h]; rfl
    unfold txtS
    rw [hb]; exact aJ rfl rfl
  · rw [Bool.not_eq_false'] at h
    have h' := h
    simp only [Bool.and_eq_true, decide_eq_true_eq] at h'
    obtain ⟨N, rfl⟩ := Int.eq_ofNat_of_zero_le h'.1
    obtain ⟨A, rfl⟩ := Int.eq_ofNat_of_zero_le ha0
    have hN : N ≤ 21 := by omega
    have q0 : (N + 6) / 7 ≤ 3 := by omega
    have e1 : IntKind.i64.wrap ((N : Int) + 6) = ((N + 6 : Nat) : Int) := by rw [w64 (by omega) (by omega)]; omega
    have e2 : IntKind.i64.wrap (((N + 6 : Nat) : Int).tdiv 7) = (((N + 6) / 7 : Nat) : Int) := by
      rw [Int.tdiv_eq_ediv_of_nonneg (by omega), w64 (by omega) (by omega)]; omega
    have e3 : IntKind.i64.wrap ((A : Int) + (((N + 6) / 7 : Nat) : Int)) = ((A + (N + 6) / 7 : Nat) : Int) := by rw [w64 (by omega) (by omega)]; omega
    have e4 : A + (N + 6) / 7 - A = (N + 6) / 7 := by omega
    rw [e1, e2, e3]
    simp only [hl, Int.toNat_natCast, e4, dS.C, aB, gq, reduceEq, reduceLT, reduceLE, implies_true, reduceCtorEq, if_true, if_false, go_sem, reduceEqDiff, Nat.reduceLT, reduceAdd, reduceSub, reduceLeDiff, reduceReplicate, reduceToNat]
    have hbt : txtB l A (N : Int) = mO ((l.drop A).take ((N + 6) / 7)) N := by
      unfold txtB
      rw [Int.toNat_natCast, h, Bool.true_and]
    have hst : txtS l A (N : Int) = if mO ((l.drop A).take ((N + 6) / 7)) N = true then uP ((l.drop A).take ((N + 6) / 7)) N else [] := by
      unfold txtS
      rw [hbt, Int.toNat_natCast]
    have hw : roomy (7 * (List.take ((N + 6) / 7) (List.drop A l)).length) := by rw [List.length_take]; unfold roomy; omega
    rw [hst, hbt]
    unfold aAy
    refine ⟨by omega, ⟨hw, by omega⟩, ?_⟩
    cases mO ((l.drop A).take ((N + 6) / 7)) N
    · simp only [aB, gq, reduceEq, reduceLT, reduceLE, implies_true, reduceCtorEq, if_true, if_false, go_sem, reduceEqDiff, Nat.reduceLT, reduceAdd, reduceSub, reduceLeDiff, reduceReplicate, reduceToNat]; exact aJ rfl rfl
    · simp only [aB, gq, reduceEq, reduceLT, reduceLE, implies_true, reduceCtorEq, if_true, if_false, go_sem, reduceEqDiff, Nat.reduceLT, reduceAdd, reduceSub, reduceLeDiff, reduceReplicate, reduceToNat]; exact aJ rfl rfl
def oS (words : List Int) (at_ : Int) : AV := if (decide (at_ < 0) || decide (((words.length / 16 : Nat) : Int) ≤ at_)) = true then .tup [jZ.V, .int .i64 1] else match uR (kT words at_.toNat) with
  | some n => .tup [n.V, .int .i64 0]
  | none => .tup [jZ.V, .int .i64 70]
def oC (w : List Int) : Rc := ⟨w.getD 0 0, txtS w 3 (IntKind.i64.wrap ((w.getD 1 0).tdiv 32)), if w.getD 0 0 = 1 then txtS w 6 ((w.getD 1 0).tmod 32) else [], if w.getD 0 0 = 2 then w.getD 6 0 else 0⟩
theorem aFM {x : Rc} (h : x.ok) : IntKind.i64.wrap ((lZ x).tdiv 32) = x.key.length ∧ (lZ x).tmod 32 = x.val.length := by
  have hl := zX h
  rw [Int.tdiv_eq_ediv_of_nonneg hl.2.2.1, Int.tmod_eq_emod_of_nonneg hl.2.2.1, w64 (by omega) (by omega)]
  exact ⟨hl.1, hl.2.1⟩
theorem aII {x : Rc} (h : x.ok) : oC (iA x) = x := by
  have hd := aEe h
  have e1 : (iA x).getD 1 0 = lZ x := rfl
  have hl := zX h
  have hp := aFM h
  unfold decC at hd
  unfold oC
  rw [e1, hl.1, hl.2.1] at hd
  rw [e1, hp.1, hp.2]; exact hd
theorem aDm (w : List Int) : oA oC w = uR w := aKW (fun n h => aII h) (fun n h => aEe h) w
theorem aNa {w : List Int} (h : txtB w 3 (IntKind.i64.wrap ((w.getD 1 0).tdiv 32)) = false) : uR w = none := by
  apply aCG
  rintro x hx rfl
  have e1 : (iA x).getD 1 0 = lZ x := rfl
  rw [e1, (aFM hx).1, (aFE hx).1] at h
  cases h
theorem aNb {w : List Int} (h1 : w.getD 0 0 = 1) (h : txtB w 6 ((w.getD 1 0).tmod 32) = false) : uR w = none := by
  apply aCG
  rintro x hx rfl
  have e1 : (iA x).getD 1 0 = lZ x := rfl
  rw [e1, (aFM hx).2, (aFF hx h1).1] at h
  cases h
def dY.C : aF
  | [.sl _ (.ints .i64 l), .int .i64 k] => some (false, pD (roomy l.length) (oS l k))
  | _ => none
theorem dY.spec : bJ Tryz.prog 79 dY.C := by
  refine bJ.of (bU (F := [(99, gP.C), (100, eH.C), (101, hX.C)]) (S := []) (by simpa using ⟨gP.spec, eH.spec, hX.spec⟩) (by simp) dY.loops) dY.at dY.nm dY.bd ?_
  intro vs b S v news e hS
  unfold dY.C at e
  split at e
  rotate_left
  · cases e
  cases e
  rw [dY.eq]
  unfold dY.H
  simp (maxSteps := 4000000) only [go_sem, reduceEqDiff, Nat.reduceLT, reduceAdd, reduceSub, reduceLeDiff, reduceReplicate, reduceToNat, gP.C, eH.C, hX.C]
  rename_i l k
  have hrl := hS
  unfold roomy at hS
  have e0 : IntKind.i64.wrap ((l.length : Int).tdiv 16) = ((l.length / 16 : Nat) : Int) := by
    rw [Int.tdiv_eq_ediv_of_nonneg (by omega)]; exact w64 (by omega) (by omega)
  rw [e0]
  unfold oS
  refine ⟨fun _ => by decide, fun h => ?_, fun h => ?_⟩
  · rw [if_pos h]
    refine aJ ?_ rfl
    simp only [jZ, go_sem, reduceEqDiff, Nat.reduceLT, reduceAdd, reduceSub, reduceLeDiff, reduceReplicate, reduceToNat]
  · rw [h]
    simp only [Bool.or_eq_false_iff, decide_eq_false_iff_not] at h
    obtain ⟨k, rfl⟩ := Int.eq_ofNat_of_zero_le (show 0 ≤ k by omega)
    have hk : 16 * k + 16 ≤ l.length := by omega
    have e1 : IntKind.i64.wrap (16 * (k : Int)) = 16 * (k : Int) := w64 (by omega) (by omega)
    have e5 : (16 * (k : Int)).toNat = 16 * k := by omega
    have hdl : (l.drop (16 * k)).length = l.length - 16 * k := by simp
    have et : (l.drop (16 * k)).take (l.length - 16 * k) = l.drop (16 * k) := pF _ (by omega)
    have hbl : (kT l k).length = 16 := by unfold kT; simp; omega
    rw [e1, e5, et, hdl, Nat.min_eq_left (by omega)]
    have ew : (l.drop (16 * k)).take 16 ++ List.take (16 - 16) (List.drop 16 [0, 0, 0, 0, 0, 0, 0, 0, 0, 0, 0, 0, 0, 0, 0, 0]) = kT l k := by
      show (l.drop (16 * k)).take 16 ++ [] = _
      rw [List.append_nil]; rfl
    rw [ew, Int.toNat_natCast]
    generalize kT l k = w at *
    have hV : (oC w).V = .agg [.int .i64 (w.getD 0 0), .str (txtS w 3 (IntKind.i64.wrap ((w.getD 1 0).tdiv 32))), .str (if w.getD 0 0 = 1 then txtS w 6 ((w.getD 1 0).tmod 32) else []), .int .i64 (if w.getD 0 0 = 2 then w.getD 6 0 else 0)] := rfl
    simp only [hbl, gP.C, aB, gq, reduceEq, reduceLT, reduceLE, implies_true, reduceCtorEq, if_true, if_false, go_sem, reduceEqDiff, Nat.reduceLT, reduceAdd, reduceSub, reduceLeDiff, reduceReplicate, reduceToNat]
    refine ⟨by omega, fun hT => ?_, fun hT => ⟨fun h1 => ?_, fun h1 => ⟨fun h2 => ?_, fun h2 => ?_⟩⟩⟩
    · rw [aNa hT]
      refine aJ ?_ rfl
      simp only [jZ, go_sem, reduceEqDiff, Nat.reduceLT, reduceAdd, reduceSub, reduceLeDiff, reduceReplicate, reduceToNat]
    · have hd1 : (⟨w.getD 0 0, txtS w 3 (IntKind.i64.wrap ((w.getD 1 0).tdiv 32)), txtS w 6 ((w.getD 1 0).tmod 32), 0⟩ : Rc) = oC w := by
        unfold oC; rw [if_pos h1, if_neg (by omega)]
      cases h6 : txtB w 6 ((w.getD 1 0).tmod 32) with
      | false =>
        simp only [Bool.not_false, xM]
        rw [aNb h1 h6]
        refine aJ ?_ rfl
        simp only [jZ, go_sem, reduceEqDiff, Nat.reduceLT, reduceAdd, reduceSub, reduceLeDiff, reduceReplicate, reduceToNat]
      | true =>
        rw [← aDm]
        unfold oA
        cases hb : recB (oC w) with
        | false =>
          simp only [eH.C, hd1, hb, Bool.false_and, Bool.false_eq_true, if_false, aB, gq, reduceEq, reduceLT, reduceLE, implies_true, reduceCtorEq, if_true, if_false, go_sem, reduceEqDiff, Nat.reduceLT, reduceAdd, reduceSub, reduceLeDiff, reduceReplicate, reduceToNat]
          refine aJ ?_ rfl
          simp only [jZ, go_sem, reduceEqDiff, Nat.reduceLT, reduceAdd, reduceSub, reduceLeDiff, reduceReplicate, reduceToNat]
        | true =>
          have hok := wH.1 hb
          have hfl := aBz hok
          simp only [eH.C, hX.C, hd1, hb, hfl, hbl, Bool.true_and, aB, gq, reduceEq, reduceLT, reduceLE, implies_true, reduceCtorEq, if_true, if_false, go_sem, reduceEqDiff, Nat.reduceLT, reduceAdd, reduceSub, reduceLeDiff, reduceReplicate, reduceToNat]
          refine ⟨hok, fun h => ?_, fun h => ?_⟩
          · rw [if_neg h]
            refine aJ ?_ rfl
            simp only [jZ, go_sem, reduceEqDiff, Nat.reduceLT, reduceAdd, reduceSub, reduceLeDiff, reduceReplicate, reduceToNat]
          · rw [if_pos h, ← hd1]
            exact aJ rfl rfl
    · have hd1 : (⟨w.getD 0 0, txtS w 3 (IntKind.i64.wrap ((w.getD 1 0).tdiv 32)), [], w.getD 6 0⟩ : Rc) = oC w := by
        unfold oC; rw [if_neg (by omega), if_pos h2]
      rw [← aDm]
      unfold oA
      cases hb : recB (oC w) with
      | false =>
        simp only [hT, eH.C, hd1, hb, Bool.false_and, Bool.false_eq_true, if_false, aB, gq, reduceEq, reduceLT, reduceLE, implies_true, reduceCtorEq, if_true, if_false, go_sem, reduceEqDiff, Nat.reduceLT, reduceAdd, reduceSub, reduceLeDiff, reduceReplicate, reduceToNat]
        refine aJ ?_ rfl
        simp only [jZ, go_sem, reduceEqDiff, Nat.reduceLT, reduceAdd, reduceSub, reduceLeDiff, reduceReplicate, reduceToNat]
      | true =>
        have hok := wH.1 hb
        have hfl := aBz hok
        simp only [hT, eH.C, hX.C, hd1, hb, hfl, hbl, Bool.true_and, aB, gq, reduceEq, reduceLT, reduceLE, implies_true, reduceCtorEq, if_true, if_false, go_sem, reduceEqDiff, Nat.reduceLT, reduceAdd, reduceSub, reduceLeDiff, reduceReplicate, reduceToNat]
        refine ⟨hok, fun h => ?_, fun h => ?_⟩
        · rw [if_neg h]
          refine aJ ?_ rfl
          simp only [jZ, go_sem, reduceEqDiff, Nat.reduceLT, reduceAdd, reduceSub, reduceLeDiff, reduceReplicate, reduceToNat]
        · rw [if_pos h, ← hd1]
          exact aJ rfl rfl
    · have hd1 : (⟨w.getD 0 0, txtS w 3 (IntKind.i64.wrap ((w.getD 1 0).tdiv 32)), [], 0⟩ : Rc) = oC w := by
        unfold oC; rw [if_neg (by omega), if_neg h2]
      rw [← aDm]
      unfold oA
      cases hb : recB (oC w) with
      | false =>
        simp only [hT, eH.C, hd1, hb, Bool.false_and, Bool.false_eq_true, if_false, aB, gq, reduceEq, reduceLT, reduceLE, implies_true, reduceCtorEq, if_true, if_false, go_sem, reduceEqDiff, Nat.reduceLT, reduceAdd, reduceSub, reduceLeDiff, reduceReplicate, reduceToNat]
        refine aJ ?_ rfl
        simp only [jZ, go_sem, reduceEqDiff, Nat.reduceLT, reduceAdd, reduceSub, reduceLeDiff, reduceReplicate, reduceToNat]
      | true =>
        have hok := wH.1 hb
        have hfl := aBz hok
        simp only [hT, eH.C, hX.C, hd1, hb, hfl, hbl, Bool.true_and, aB, gq, reduceEq, reduceLT, reduceLE, implies_true, reduceCtorEq, if_true, if_false, go_sem, reduceEqDiff, Nat.reduceLT, reduceAdd, reduceSub, reduceLeDiff, reduceReplicate, reduceToNat]
        refine ⟨hok, fun h => ?_, fun h => ?_⟩
        · rw [if_neg h]
          refine aJ ?_ rfl
          simp only [jZ, go_sem, reduceEqDiff, Nat.reduceLT, reduceAdd, reduceSub, reduceLeDiff, reduceReplicate, reduceToNat]
        · rw [if_pos h, ← hd1]
          exact aJ rfl rfl
end Lam
namespace Lam
open Go Go.Proofs
def aEI : AV := .iface 128 (.agg [])
theorem lU {w : List Int} {b : Int} {n : Nd} (h : eO w b = some n) : qL w b = .tup [n.V, .int .i64 0] := by
  unfold eO at h
  unfold qL
  split at h
  · cases h
  · rename_i hb; rw [if_neg hb, h]
theorem qM {w : List Int} {b : Int} (h : eO w b = none) : ∃ e, e ≠ 0 ∧ qL w b = .tup [iT.V, .int .i64 e] := by
  unfold eO at h
  unfold qL
  split at h
  · rename_i hb; rw [if_pos hb]; exact ⟨1, by decide, rfl⟩
  · rename_i hb; rw [if_neg hb, h]; exact ⟨90, by decide, rfl⟩
theorem aAW {w : List Int} {b : Int} {n : Rc} (h : recO w b = some n) : oS w b = .tup [n.V, .int .i64 0] := by
  unfold recO at h
  unfold oS
  split at h
  · cases h
  · rename_i hb; rw [if_neg hb, h]
theorem aAX {w : List Int} {b : Int} (h : recO w b = none) : ∃ e, e ≠ 0 ∧ oS w b = .tup [jZ.V, .int .i64 e] := by
  unfold recO at h
  unfold oS
  split at h
  · rename_i hb; rw [if_pos hb]; exact ⟨1, by decide, rfl⟩
  · rename_i hb; rw [if_neg hb, h]; exact ⟨70, by decide, rfl⟩
theorem aAb {v pv : AV} {b : Bool} {news : List AObj} {h : List AObj} : aIi true pv b v news (.pan pv) h := rfl
theorem sC {ao : AOut} {pv v : AV} {b : Bool} {news : List AObj} {h : List AObj} (p : Post b v news ao h) : aIi false pv b v news ao h := p
def cO.J : JCon
  | [.bool b] => some (True, !b, aEI, false, .tup [], [])
  | _ => none
abbrev cO.K : Con := Jcon cO.J
set_option maxHeartbeats 1000000 in
theorem cO.jspec : oW Tryz.prog 77 cO.J := by
  refine oW.of (bU (F := []) (S := []) (by simp) (by simp) cO.loops) cO.at cO.nm cO.bd ?_ ?_
  · intro vs S pb pv b v news e
    unfold cO.J at e
    split at e
    rotate_left
    · cases e
    cases e
    rfl
  intro vs S pb pv b v news e hS
  unfold cO.J at e
  split at e
  rotate_left
  · cases e
  cases e
  rw [cO.eq]
  unfold cO.H
  simp (maxSteps := 4000000) only [go_sem, reduceEqDiff, Nat.reduceLT, reduceAdd, reduceSub, reduceLeDiff, reduceReplicate, reduceToNat]
  rename_i b
  rw [aB]
  exact ⟨fun h => by subst h; rfl, fun h => by subst h; exact sC (aJ rfl rfl)⟩
def jO (w : List Int) : Prop := w.length ≤ 65536 ∧ i64s w
theorem jO.roomy {w : List Int} (h : jO w) : roomy w.length := by have := h.1; unfold Lam.roomy; omega
def dF.J : JCon
  | [.sl _ (.ints .i64 w), .int .i64 b] => some (jO w, (eO w b).isNone, aEI, false, ((eO w b).getD iT).V, [])
  | _ => none
abbrev dF.K : Con := Jcon dF.J
set_option maxHeartbeats 1000000 in
theorem dF.jspec : oW Tryz.prog 75 dF.J := by
  refine oW.of (bU (F := [(46, cS.C)]) (S := [(77, cO.K)]) (by simpa using cS.spec) (by simpa using cO.jspec.con) dF.loops) dF.at dF.nm dF.bd ?_ ?_
  · intro vs S pb pv b v news e
    unfold dF.J at e
    split at e
    rotate_left
    · cases e
    cases e
    rfl
  intro vs S pb pv b v news e hS
  unfold dF.J at e
  split at e
  rotate_left
  · cases e
  cases e
  rw [dF.eq]
  unfold dF.H
  simp (maxSteps := 4000000) only [go_sem, reduceEqDiff, Nat.reduceLT, reduceAdd, reduceSub, reduceLeDiff, reduceReplicate, reduceToNat, cS.C, cO.K, cO.J]
  rename_i _ w b
  refine ⟨hS.roomy, ?_⟩
  cases hn : eO w b with
  | none =>
    obtain ⟨e, he, hr⟩ := qM hn
    have hd : decide (e = 0) = false := decide_eq_false he
    simp only [hr, iT, cO.J, hd, aB, gq, reduceEq, reduceLT, reduceLE, implies_true, reduceCtorEq, if_true, if_false, go_sem, reduceEqDiff, Nat.reduceLT, reduceAdd, reduceSub, reduceLeDiff, reduceReplicate, reduceToNat]
    exact aAb
  | some n =>
    simp only [lU hn, cO.J, aB, gq, reduceEq, reduceLT, reduceLE, implies_true, reduceCtorEq, if_true, if_false, go_sem, reduceEqDiff, Nat.reduceLT, reduceAdd, reduceSub, reduceLeDiff, reduceReplicate, reduceToNat]
    exact sC (aJ rfl rfl)
def dM.J : JCon
  | [.sl _ (.ints .i64 w), .int .i64 b] => some (jO w, (recO w b).isNone, aEI, false, .str ((recO w b).getD jZ).key, [])
  | _ => none
abbrev dM.K : Con := Jcon dM.J
set_option maxHeartbeats 1000000 in
theorem dM.jspec : oW Tryz.prog 97 dM.J := by
  refine oW.of (bU (F := [(79, dY.C)]) (S := [(77, cO.K)]) (by simpa using dY.spec) (by simpa using cO.jspec.con) dM.loops) dM.at dM.nm dM.bd ?_ ?_
  · intro vs S pb pv b v news e
    unfold dM.J at e
    split at e
    rotate_left
    · cases e
    cases e
    rfl
  intro vs S pb pv b v news e hS
  unfold dM.J at e
  split at e
  rotate_left
  · cases e
  cases e
  rw [dM.eq]
  unfold dM.H
  simp (maxSteps := 4000000) only [go_sem, reduceEqDiff, Nat.reduceLT, reduceAdd, reduceSub, reduceLeDiff, reduceReplicate, reduceToNat, dY.C, cO.K, cO.J]
  rename_i _ w b
  refine ⟨hS.roomy, ?_⟩
  cases hn : recO w b with
  | none =>
    obtain ⟨e, he, hr⟩ := aAX hn
    have hd : decide (e = 0) = false := decide_eq_false he
    simp only [hr, jZ, cO.J, hd, aB, gq, reduceEq, reduceLT, reduceLE, implies_true, reduceCtorEq, if_true, if_false, go_sem, reduceEqDiff, Nat.reduceLT, reduceAdd, reduceSub, reduceLeDiff, reduceReplicate, reduceToNat]
    exact aAb
  | some n =>
    simp only [aAW hn, cO.J, aB, gq, reduceEq, reduceLT, reduceLE, implies_true, reduceCtorEq, if_true, if_false, go_sem, reduceEqDiff, Nat.reduceLT, reduceAdd, reduceSub, reduceLeDiff, reduceReplicate, reduceToNat]
    exact sC (aJ rfl rfl)
def dL.J : JCon
  | [.sl _ (.ints .i64 w), .agg [.int .i64 a, .int .i64 b, .int .i64 c, .int .i64 d, .sl _ (.ints .i64 l)]] => some (jO w, (lowO w ⟨a, b, c, d, l⟩).isNone, aEI, false, .str ((lowO w ⟨a, b, c, d, l⟩).getD []), [])
  | _ => none
abbrev dL.K : Con := Jcon dL.J
set_option maxHeartbeats 1000000 in
theorem dL.jspec : oW Tryz.prog 76 dL.J := by
  refine oW.of (bU (F := []) (S := [(97, dM.K)]) (by simp) (by simpa using dM.jspec.con) dL.loops) dL.at dL.nm dL.bd ?_ ?_
  · intro vs S pb pv b v news e
    unfold dL.J at e
    split at e
    rotate_left
    · cases e
    cases e
    rfl
  intro vs S pb pv b v news e hS
  unfold dL.J at e
  split at e
  rotate_left
  · cases e
  cases e
  rw [dL.eq]
  unfold dL.H
  simp (maxSteps := 4000000) only [go_sem, reduceEqDiff, Nat.reduceLT, reduceAdd, reduceSub, reduceLeDiff, reduceReplicate, reduceToNat, dM.K, dM.J]
  rename_i _ w a b c d _ l
  refine ⟨fun h => ?_, fun h => ⟨hS, fun hp => ?_, fun hp => ?_⟩⟩
  · have : lowO w ⟨a, b, c, d, l⟩ = some [] := by unfold lowO; rw [if_pos h]
    rw [this]; exact sC (aJ rfl rfl)
  · have : lowO w ⟨a, b, c, d, l⟩ = none := by
      unfold lowO; rw [if_neg h]
      rw [Option.isNone_iff_eq_none] at hp
      simp only [hp]; rfl
    rw [this]; exact aAb
  · obtain ⟨x, hx⟩ : ∃ x, recO w d = some x := by cases hr : recO w d with
      | none => rw [hr] at hp; cases hp
      | some x => exact ⟨x, rfl⟩
    have : lowO w ⟨a, b, c, d, l⟩ = some x.key := by
      unfold lowO; rw [if_neg h]
      simp only [hx]; rfl
    rw [this, hx]; exact sC (aJ rfl rfl)
theorem aHs {α : Type} {x : Option α} (h : x.isNone = false) : ∃ a, x = some a := by
  cases x with
  | none => cases h
  | some a => exact ⟨a, rfl⟩
def lowV (w : List Int) (b : Int) : AV := match (eO w b).bind (lowO w) with
  | some s => .tup [.str s, .int .i64 0]
  | none => .tup [.str [], .int .i64 110]
def fA.C : aF
  | [.sl _ (.ints .i64 w), .int .i64 b] => some (false, pD (jO w) (lowV w b))
  | _ => none
set_option maxHeartbeats 1000000 in
theorem fA.spec : bJ Tryz.prog 47 fA.C := by
  refine bJ.ofD (bU (F := []) (S := [(75, dF.K), (76, dL.K)]) (by simp) (by simpa using ⟨dF.jspec.con, dL.jspec.con⟩) fA.loops) kP.tspec fA.at fA.nm fA.bd ?_
  intro vs b S v news e hS
  unfold fA.C at e
  split at e
  rotate_left
  · cases e
  cases e
  rw [fA.eq]
  unfold fA.H
  simp (maxSteps := 4000000) only [go_sem, reduceEqDiff, Nat.reduceLT, reduceAdd, reduceSub, reduceLeDiff, reduceReplicate, reduceToNat, dF.K, dF.J, dL.K, dL.J]
  rename_i _ w b
  have e0 : ∀ n : Nd, (⟨n.level, n.turn, n.next, n.low, n.slots⟩ : Nd) = n := fun n => rfl
  refine ⟨hS, fun hp => ⟨rfl, ?_⟩, fun hp => ⟨hS, ?_⟩⟩
  · rw [Option.isNone_iff_eq_none] at hp
    have : lowV w b = .tup [.str [], .int .i64 110] := by unfold lowV; rw [hp]; rfl
    rw [this]; exact aJ rfl rfl
  · obtain ⟨n, hn⟩ := aHs hp
    simp only [hn, Option.getD_some, e0]
    refine ⟨fun hq => ⟨rfl, ?_⟩, fun hq => ?_⟩
    · rw [Option.isNone_iff_eq_none] at hq
      have : lowV w b = .tup [.str [], .int .i64 110] := by unfold lowV; rw [hn]; simp only [Option.bind_some, hq]
      rw [this]; exact aJ rfl rfl
    · obtain ⟨s, hs⟩ := aHs hq
      have : lowV w b = .tup [.str s, .int .i64 0] := by unfold lowV; rw [hn]; simp only [Option.bind_some, hs]
      rw [this, hs]; exact aJ rfl rfl
end Lam
namespace Lam
open Go Go.Proofs
def eC.loops : Nat → bX
 | 3 => ⟨[], [], [], [(3, none), (4, some [28, 32])], [], []⟩
 | 6 => ⟨[], [], [], [(5, none), (2, some [49, 51]), (2, none), (4, some [53, 57])], [], []⟩
 | 12 => ⟨[], [], [], [(3, none), (2, some [81, 83]), (2, none), (5, some [85, 90]), (2, none), (3, some [92, 95])], [], []⟩
 | _ => ⟨[], [], [], [], [], []⟩
def eC.H (c : Ctx) (t0 : AV) (t1 : AV) (t2 : AV) (t3 : AV) (h : List AObj) (K : AOut → List AObj → Prop) : Prop :=
 aM (fun (J1 : List AObj → Prop) =>
 bB false c (.fn (.func 46) [] []) [t0, t1] h (fun t22 h =>
 runD (bM t22 0) h fun t23 h =>
 runD (bM t22 1) h fun t24 h =>
 cK bK h fun t10 h =>
 runH (aQ bK h t10 t23) h fun _ h =>
 runD (binD dD .neq t24 (.int .i64 0)) h fun t27 h =>
 aM (fun (J2 : AV → AV → List AObj → Prop) =>
 aX t27 false
 (runD (aC bK t10 0) h fun t29 h =>
 runD (fitD aA (aD h t29)) h fun t30 h =>
 runD (binD aA .lss t30 t3) h fun t32 h =>
 J2 (.bool false) t32 h)
 (J2 (.bool true) .und h))
 (fun t28 t32 h => runD (bP t28 (.bool true) t32) h fun t33 h =>
 aZ t33
 (J1 h)
 (runD (aC bK t10 2) h fun t34 h =>
 runD (fitD aA (aD h t34)) h fun t35 h =>
 runD (binD aA .neq t35 (.int .i64 0)) h fun t36 h =>
 aM (fun (J3 : List AObj → Prop) =>
 aZ t36
 (runD (aC bK t10 2) h fun t39 h =>
 runD (fitD aA (aD h t39)) h fun t40 h =>
 bB false c (.fn (.func 81) [] []) [t0, t40] h (fun t41 h =>
 runD (bM t41 0) h fun t42 h =>
 runD (bM t41 1) h fun t43 h =>
 runD (bM t41 2) h fun t44 h =>
 runD (aC bK t10 2) h fun t45 h =>
 runD (fitD aA (aD h t45)) h fun t46 h =>
 runD (binD aA .eql t46 t1) h fun t48 h =>
 aM (fun (J4 : AV → AV → List AObj → Prop) =>
 aX t48 false
 (runD (unD .not t44) h fun t51 h =>
 J4 (.bool false) t51 h)
 (J4 (.bool true) .und h))
 (fun t49 t51 h => runD (bP t49 (.bool true) t51) h fun t52 h =>
 aM (fun (J5 : AV → AV → List AObj → Prop) =>
 aX t52 false
 (runD (aC bK t10 0) h fun t55 h =>
 runD (fitD aA (aD h t55)) h fun t56 h =>
 runD (binD aA .neq t42 t56) h fun t57 h =>
 J5 (.bool false) t57 h)
 (J5 (.bool true) .und h))
 (fun t53 t57 h => runD (bP t53 (.bool true) t57) h fun t58 h =>
 aZ t58
 (J1 h)
 (runD (binD bS .leq t43 t2) h fun t61 h =>
 aZ t61
 (runD (aC bK t10 2) h fun t62 h =>
 runD (fitD aA (aD h t62)) h fun t63 h =>
 K (.ret (.tup [t63, (.int .i64 0)])) h)
 (J3 h)))))
 (fun v h => K (.pan v) h))
 (J3 h))
 (fun h => runD (aC bK t10 0) h fun t64 h =>
 runD (fitD aA (aD h t64)) h fun t65 h =>
 runD (binD aA .gtr t65 t3) h fun t67 h =>
 aM (fun (J6 : AV → List AObj → Prop) =>
 aZ t67
 (runD (fitD bK (aD h t10)) h fun t69 h =>
 bB false c (.fn (.func 82) [] []) [t0, t69, t2] h (fun t71 h =>
 bB false c (.fn (.func 81) [] []) [t0, t71] h (fun t75 h =>
 runD (bM t75 0) h fun t76 h =>
 runD (bM t75 1) h fun t77 h =>
 runD (bM t75 2) h fun t78 h =>
 runD (binD aA .eql t71 (.int .i64 0)) h fun t80 h =>
 aM (fun (J7 : AV → AV → List AObj → Prop) =>
 aX t80 false
 (runD (unD .not t78) h fun t83 h =>
 J7 (.bool false) t83 h)
 (J7 (.bool true) .und h))
 (fun t81 t83 h => runD (bP t81 (.bool true) t83) h fun t84 h =>
 aM (fun (J8 : AV → AV → List AObj → Prop) =>
 aX t84 false
 (runD (aC bK t10 0) h fun t87 h =>
 runD (fitD aA (aD h t87)) h fun t88 h =>
 runD (binD aA .sub t88 (.int .i64 1)) h fun t89 h =>
 runD (binD aA .neq t76 t89) h fun t90 h =>
 J8 (.bool false) t90 h)
 (J8 (.bool true) .und h))
 (fun t85 t90 h => runD (bP t85 (.bool true) t90) h fun t91 h =>
 aM (fun (J9 : AV → AV → List AObj → Prop) =>
 aX t91 false
 (runD (binD bS .gtr t77 t2) h fun t95 h =>
 J9 (.bool false) t95 h)
 (J9 (.bool true) .und h))
 (fun t92 t95 h => runD (bP t92 (.bool true) t95) h fun t96 h =>
 aZ t96
 (J1 h)
 (J6 t71 h)))))
 (fun v h => K (.pan v) h))
 (fun v h => K (.pan v) h))
 (J6 t1 h))
 (fun t12 h => K (.ret (.tup [t12, (.int .i64 0)])) h)))))
 (fun v h => K (.pan v) h))
 (fun h => K (.ret (.tup [(.int .i64 0), (.int .i64 90)])) h)
def cY.loops : Nat → bX
 | _ => ⟨[], [], [], [], [], []⟩
def cY.H (c : Ctx) (t0 : AV) (t1 : AV) (h : List AObj) (K : AOut → List AObj → Prop) : Prop :=
 bB false c (.fn (.func 46) [] []) [t0, t1] h (fun t12 h =>
 runD (bM t12 0) h fun t13 h =>
 runD (bM t12 1) h fun t14 h =>
 cK bK h fun t7 h =>
 runH (aQ bK h t7 t13) h fun _ h =>
 runD (binD dD .neq t14 (.int .i64 0)) h fun t16 h =>
 aZ t16
 (K (.ret (.tup [(.int .i64 0), (.str []), (.bool false)])) h)
 (bB false c (.fn (.func 47) [] []) [t0, t1] h (fun t20 h =>
 runD (bM t20 0) h fun t21 h =>
 runD (bM t20 1) h fun t22 h =>
 runD (aC bK t7 0) h fun t23 h =>
 runD (fitD aA (aD h t23)) h fun t24 h =>
 runD (binD dD .eql t22 (.int .i64 0)) h fun t26 h =>
 K (.ret (.tup [t24, t21, t26])) h)
 (fun v h => K (.pan v) h)))
 (fun v h => K (.pan v) h)
def dN.loops : Nat → bX
 | 2 => ⟨[6, 14], [false, false], [0, 2, 12, 13], [], [], []⟩
 | 5 => ⟨[], [], [], [(3, none), (3, some [26, 29]), (2, none), (4, some [31, 35])], [], []⟩
 | _ => ⟨[], [], [], [], [], []⟩
def dN.L1 (c : Ctx) (J1 : AV → List AObj → Prop) (K : AOut → List AObj → Prop) (lv : List AV) (h0 : List AObj) (n0 : Nat) (c0 : AV) (c2 : AV) (c12 : AV) (c13 : AV) : Prop :=
 ∃ I : Nat → List AV → List AObj → Prop, (∃ n, I n lv h0) ∧ ∀ n h, ∀ t6, ∀ t14, I n [t6, t14] h →
 runD (binD aA .lss t14 c13) h fun t15 h =>
 aZ t15
 (runD (aH aP h c12 t14) h fun t16 h =>
 runD (fitD aA (aD h t16)) h fun t17 h =>
 bB false c (.fn (.func 79) [] []) [c0, t17] h (fun t21 h =>
 runD (bM t21 0) h fun t22 h =>
 runD (bM t21 1) h fun t23 h =>
 cK aK h fun t9 h =>
 runH (aQ aK h t9 t22) h fun _ h =>
 runD (binD dD .eql t23 (.int .i64 0)) h fun t25 h =>
 aM (fun (J2 : AV → AV → List AObj → Prop) =>
 aX t25 true
 (runD (aC aK t9 0) h fun t27 h =>
 runD (fitD aA (aD h t27)) h fun t28 h =>
 runD (binD aA .eql t28 (.int .i64 2)) h fun t29 h =>
 J2 (.bool true) t29 h)
 (J2 (.bool false) .und h))
 (fun t26 t29 h => runD (bP t26 t29 (.bool false)) h fun t30 h =>
 aM (fun (J3 : AV → AV → List AObj → Prop) =>
 aX t30 true
 (runD (aC aK t9 1) h fun t32 h =>
 runD (fitD bS (aD h t32)) h fun t33 h =>
 runD (binD bS .leq t33 c2) h fun t35 h =>
 J3 (.bool true) t35 h)
 (J3 (.bool false) .und h))
 (fun t31 t35 h => runD (bP t31 t35 (.bool false)) h fun t36 h =>
 aM (fun (J4 : AV → List AObj → Prop) =>
 aZ t36
 (runD (aC aK t9 3) h fun t37 h =>
 runD (fitD aA (aD h t37)) h fun t38 h =>
 J4 t38 h)
 (J4 t6 h))
 (fun t6 h => runD (binD aA .add t14 (.int .i64 1)) h fun t39 h =>
 (∃ m, m < n ∧ I m (AV.norms n0 h [t6, t39]) (cG n0 h)) ∧ AV.norms n0 h [c0, c2, c12, c13] = [c0, c2, c12, c13]))))
 (fun v h => K (.pan v) h))
 (J1 t6 h)
def dN.H (c : Ctx) (t0 : AV) (t1 : AV) (t2 : AV) (h : List AObj) (K : AOut → List AObj → Prop) : Prop :=
 boxW bK t1 h fun t4 h =>
 runD (aC bK t4 4) h fun t11 h =>
 runD (fitD aP (aD h t11)) h fun t12 h =>
 runD (lenD aP h t12) h fun t13 h =>
 aM (fun (J1 : AV → List AObj → Prop) =>
 dE [false, false] [(.int .i64 0), (.int .i64 0)] h fun lv h => dN.L1 c J1 K (AV.norms h.length h lv) (cG h.length h) h.length (AV.norm h.length h t0) (AV.norm h.length h t2) (AV.norm h.length h t12) (AV.norm h.length h t13))
 (fun t6 h => K (.ret t6) h)
theorem eC.eq (F : List (FuncId × aF)) (S : List (FuncId × Con)) (t0 t1 t2 t3 : AV) (h : List AObj) (K : AOut → List AObj → Prop) : funW (ctx F S eC.loops) Tryz.f49 [t0, t1, t2, t3] h K = eC.H (ctx F S eC.loops) t0 t1 t2 t3 h K := by kernel_rfl
theorem cY.eq (F : List (FuncId × aF)) (S : List (FuncId × Con)) (t0 t1 : AV) (h : List AObj) (K : AOut → List AObj → Prop) : funW (ctx F S cY.loops) Tryz.f81 [t0, t1] h K = cY.H (ctx F S cY.loops) t0 t1 h K := by kernel_rfl
theorem dN.eq (F : List (FuncId × aF)) (S : List (FuncId × Con)) (t0 t1 t2 : AV) (h : List AObj) (K : AOut → List AObj → Prop) : funW (ctx F S dN.loops) Tryz.f82 [t0, t1, t2] h K = dN.H (ctx F S dN.loops) t0 t1 t2 h K := by kernel_rfl
theorem eC.at : Tryz.prog.funcs[49]? = some Tryz.f49 := by kernel_rfl
theorem eC.nm : (Tryz.f49.name == "runtime.NumGoroutine") = false := by kernel_rfl
theorem eC.bd : Tryz.f49.body.isNone = false := by kernel_rfl
theorem cY.at : Tryz.prog.funcs[81]? = some Tryz.f81 := by kernel_rfl
theorem cY.nm : (Tryz.f81.name == "runtime.NumGoroutine") = false := by kernel_rfl
theorem cY.bd : Tryz.f81.body.isNone = false := by kernel_rfl
theorem dN.at : Tryz.prog.funcs[82]? = some Tryz.f82 := by kernel_rfl
theorem dN.nm : (Tryz.f82.name == "runtime.NumGoroutine") = false := by kernel_rfl
theorem dN.bd : Tryz.f82.body.isNone = false := by kernel_rfl
end Lam
namespace Lam
open Go Go.Proofs
def aCK (w : List Int) (b : Int) : AV := match eO w b with
  | none => .tup [.int .i64 0, .str [], .bool false]
  | some n => match lowO w n with
    | none => .tup [.int .i64 n.level, .str [], .bool false]
    | some l => .tup [.int .i64 n.level, .str l, .bool true]
def cY.C : aF
  | [.sl _ (.ints .i64 w), .int .i64 b] => some (false, pD (jO w) (aCK w b))
  | _ => none
theorem cY.spec : bJ Tryz.prog 81 cY.C := by
  refine bJ.of (bU (F := [(46, cS.C), (47, fA.C)]) (S := []) (by simpa using ⟨cS.spec, fA.spec⟩) (by simp) cY.loops) cY.at cY.nm cY.bd ?_
  intro vs b S v news e hS
  unfold cY.C at e
  split at e
  rotate_left
  · cases e
  cases e
  rw [cY.eq]
  unfold cY.H
  simp (maxSteps := 4000000) only [go_sem, reduceEqDiff, Nat.reduceLT, reduceAdd, reduceSub, reduceLeDiff, reduceReplicate, reduceToNat, cS.C, fA.C]
  rename_i w b
  have hr := jO.roomy hS
  unfold aCK
  cases hn : eO w b with
  | none =>
    obtain ⟨e, he, h⟩ := qM hn
    simp only [h, iT, he, decide_false, aB, aB, gq, reduceEq, reduceLT, reduceLE, implies_true, reduceCtorEq, if_true, if_false, go_sem, reduceEqDiff, Nat.reduceLT, reduceAdd, reduceSub, reduceLeDiff, reduceReplicate, reduceToNat]
    exact ⟨hr, aJ rfl rfl⟩
  | some n =>
    obtain ⟨n1, n2, n3, n4, n5⟩ := n
    cases hl : lowO w ⟨n1, n2, n3, n4, n5⟩ with
    | none =>
      have hlv : lowV w b = .tup [.str [], .int .i64 110] := by unfold lowV; rw [hn]; simp only [Option.bind_some, hl]
      simp only [lU hn, hlv, hl, decide_false, aB, aB, gq, reduceEq, reduceLT, reduceLE, implies_true, reduceCtorEq, if_true, if_false, go_sem, reduceEqDiff, Nat.reduceLT, reduceAdd, reduceSub, reduceLeDiff, reduceReplicate, reduceToNat]
      exact ⟨hr, hS, aJ rfl rfl⟩
    | some l =>
      have hlv : lowV w b = .tup [.str l, .int .i64 0] := by unfold lowV; rw [hn]; simp only [Option.bind_some, hl]
      simp only [lU hn, hlv, hl, decide_true, aB, aB, gq, reduceEq, reduceLT, reduceLE, implies_true, reduceCtorEq, if_true, if_false, go_sem, reduceEqDiff, Nat.reduceLT, reduceAdd, reduceSub, reduceLeDiff, reduceReplicate, reduceToNat]
      exact ⟨hr, hS, aJ rfl rfl⟩
def dN.C : aF
  | [.sl _ (.ints .i64 w), .agg [.int .i64 a, .int .i64 b, .int .i64 c, .int .i64 d, .sl _ (.ints .i64 l)], .str key] => some (false, pD (roomy w.length ∧ l.length ≤ 1000) (.int .i64 (zZ w key ⟨a, b, c, d, l⟩)))
  | _ => none
theorem dN.spec : bJ Tryz.prog 82 dN.C := by
  refine bJ.of (bU (F := [(79, dY.C)]) (S := []) (by simpa using dY.spec) (by simp) dN.loops) dN.at dN.nm dN.bd ?_
  intro vs b S v news e hS
  unfold dN.C at e
  split at e
  rotate_left
  · cases e
  cases e
  rw [dN.eq]
  unfold dN.H
  simp (maxSteps := 4000000) only [go_sem, reduceEqDiff, Nat.reduceLT, reduceAdd, reduceSub, reduceLeDiff, reduceReplicate, reduceToNat, dY.C]
  rename_i w a b c d _ l key
  obtain ⟨hw, hl⟩ := hS
  rw [aB]
  unfold dN.L1
  refine aAu (σ := Nat) (fun k => .int .i64 ((l.take k).foldl (wL w key) 0)) (fun k => .int .i64 k) (fun k => [.box (.agg [.int .i64 a, .int .i64 b, .int .i64 c, .int .i64 d, .sl false (.ints .i64 l)])]) (fun k => l.length - k) (fun k => k ≤ l.length) 0 rfl rfl (Nat.zero_le _) ?_
  intro I back k hk
  by_cases hlt : k < l.length
  · have hb := @back (l.length - k) [.int .i64 (wL w key ((l.take k).foldl (wL w key) 0) (l.getD k 0)), .int .i64 ((k + 1 : Nat) : Int)] [.box (.agg [.int .i64 a, .int .i64 b, .int .i64 c, .int .i64 d, .sl false (.ints .i64 l)])] (k + 1) (by omega) (by rw [iC l k 0 hlt, List.foldl_append]; rfl) rfl (by omega)
    clear back
    generalize (l.take k).foldl (wL w key) 0 = out at *
    have d1 : decide ((k : Int) < (l.length : Int)) = true := decide_eq_true (by omega)
    unfold wL at hb
    cases hx : recO w (l.getD k 0) with
    | none =>
      obtain ⟨e, he, hr⟩ := aAX hx
      rw [hx] at hb
      simp only [dY.C, hr, jZ, he, d1, decide_false, aB, eX (show k < 4611686018427387904 by omega), aB, gq, reduceEq, reduceLT, reduceLE, implies_true, reduceCtorEq, if_true, if_false, go_sem, reduceEqDiff, Nat.reduceLT, reduceAdd, reduceSub, reduceLeDiff, reduceReplicate, reduceToNat]
      exact ⟨⟨by omega, by omega⟩, hw, hb⟩
    | some y =>
      obtain ⟨y1, y2, y3, y4⟩ := y
      rw [hx] at hb
      simp only at hb
      simp only [dY.C, aAW hx, d1, decide_true, aB, eX (show k < 4611686018427387904 by omega), aB, gq, reduceEq, reduceLT, reduceLE, implies_true, reduceCtorEq, if_true, if_false, go_sem, reduceEqDiff, Nat.reduceLT, reduceAdd, reduceSub, reduceLeDiff, reduceReplicate, reduceToNat]
      refine ⟨⟨by omega, by omega⟩, hw, ?_⟩
      by_cases hy : y1 = 2
      · simp only [hy, decide_true, aB, gq, reduceEq, reduceLT, reduceLE, implies_true, reduceCtorEq, if_true, if_false, go_sem, reduceEqDiff, Nat.reduceLT, reduceAdd, reduceSub, reduceLeDiff, reduceReplicate, reduceToNat]
        refine ⟨fun h => ?_, fun h => ?_⟩
        · rw [if_pos ⟨hy, h⟩] at hb; exact hb
        · rw [if_neg (fun h' => by rw [h] at h'; cases h'.2)] at hb; exact hb
      · rw [if_neg (fun h' => hy h'.1)] at hb
        simp only [hy, decide_false, aB, gq, reduceEq, reduceLT, reduceLE, implies_true, reduceCtorEq, if_true, if_false, go_sem, reduceEqDiff, Nat.reduceLT, reduceAdd, reduceSub, reduceLeDiff, reduceReplicate, reduceToNat]
        exact hb
  · obtain rfl : k = l.length := by omega
    have d1 : decide ((l.length : Int) < (l.length : Int)) = false := decide_eq_false (by omega)
    clear back
    rw [List.take_length]
    simp only [d1, aB, aB, gq, reduceEq, reduceLT, reduceLE, implies_true, reduceCtorEq, if_true, if_false, go_sem, reduceEqDiff, Nat.reduceLT, reduceAdd, reduceSub, reduceLeDiff, reduceReplicate, reduceToNat]
    exact aJ rfl rfl
def oD (w : List Int) (b : Int) (key : bF) (level : Int) : AV := match oB w b key level with
  | none => .tup [.int .i64 0, .int .i64 90]
  | some t => .tup [.int .i64 t, .int .i64 0]
theorem aCL (w : List Int) (b : Int) : (∃ lv lo, aAw w b = none ∧ aCK w b = .tup [.int .i64 lv, .str lo, .bool false]) ∨ ∃ lv lo, aAw w b = some (lv, lo) ∧ aCK w b = .tup [.int .i64 lv, .str lo, .bool true] := by
  unfold aAw aCK
  cases eO w b with
  | none => exact .inl ⟨_, _, rfl, rfl⟩
  | some n =>
    simp only
    cases lowO w n with
    | none => exact .inl ⟨_, _, rfl, rfl⟩
    | some l => exact .inr ⟨_, _, rfl, rfl⟩
def eC.C : aF
  | [.sl _ (.ints .i64 w), .int .i64 b, .str key, .int .i64 level] => some (false, pD (jO w) (oD w b key level))
  | _ => none
theorem eC.spec : bJ Tryz.prog 49 eC.C := by
  refine bJ.of (bU (F := [(46, cS.C), (81, cY.C), (82, dN.C)]) (S := []) (by simpa using ⟨cS.spec, cY.spec, dN.spec⟩) (by simp) eC.loops) eC.at eC.nm eC.bd ?_
  intro vs b S v news e hS
  unfold eC.C at e
  split at e
  rotate_left
  · cases e
  cases e
  rw [eC.eq]
  unfold eC.H
  simp (maxSteps := 4000000) only [go_sem, reduceEqDiff, Nat.reduceLT, reduceAdd, reduceSub, reduceLeDiff, reduceReplicate, reduceToNat, cS.C, cY.C, dN.C]
  rename_i w b key level
  have hr := jO.roomy hS
  have hno : ∀ ao h, oB w b key level = none → ao = .ret (.tup [.int .i64 0, .int .i64 90]) → Post false (oD w b key level) [] ao h := fun ao h e1 e2 => by
    rw [e2]; unfold oD; rw [e1]; exact aJ rfl rfl
  have hyes : ∀ ao h t, oB w b key level = some t → ao = .ret (.tup [.int .i64 t, .int .i64 0]) → Post false (oD w b key level) [] ao h := fun ao h t e1 e2 => by
    rw [e2]; unfold oD; rw [e1]; exact aJ rfl rfl
  rw [aB]
  cases hn : eO w b with
  | none =>
    obtain ⟨e, he, h⟩ := qM hn
    simp only [h, iT, he, decide_false, aB, aB, gq, reduceEq, reduceLT, reduceLE, implies_true, reduceCtorEq, if_true, if_false, go_sem, reduceEqDiff, Nat.reduceLT, reduceAdd, reduceSub, reduceLeDiff, reduceReplicate, reduceToNat]
    exact ⟨hr, hno _ _ (by unfold oB; rw [hn]) rfl⟩
  | some n =>
    have hok := (aCH hn).1
    obtain ⟨n1, n2, n3, n4, n5⟩ := n
    have h13 : n5.length ≤ 13 := hok.2.2.2.2.2.2.1
    have hlv : 0 ≤ n1 ∧ n1 ≤ 9 := ⟨hok.1, hok.2.1⟩
    simp only [lU hn, decide_true, gq, reduceEq, reduceLT, reduceLE, implies_true, reduceCtorEq, if_true, if_false, go_sem, reduceEqDiff, Nat.reduceLT, reduceAdd, reduceSub, reduceLeDiff, reduceReplicate, reduceToNat]
    refine ⟨hr, ?_⟩
    by_cases hlt : n1 < level
    · have hd : oB w b key level = none := by unfold oB; rw [hn]; exact if_pos hlt
      simp only [hlt, decide_true, aB, aB, gq, reduceEq, reduceLT, reduceLE, implies_true, reduceCtorEq, if_true, if_false, go_sem, reduceEqDiff, Nat.reduceLT, reduceAdd, reduceSub, reduceLeDiff, reduceReplicate, reduceToNat]
      exact hno _ _ hd rfl
    have hd : oB w b key level = if n3 = 0 then aAx w b key level ⟨n1, n2, n3, n4, n5⟩ else match aAw w n3 with
      | none => none
      | some (lv, lo) => if n3 = b ∨ lv ≠ n1 then none else if ltB key lo = false then some n3 else aAx w b key level ⟨n1, n2, n3, n4, n5⟩ := by
      unfold oB; rw [hn]; exact if_neg hlt
    rw [aB]
    simp only [hlt, decide_false, gq, reduceEq, reduceLT, reduceLE, implies_true, reduceCtorEq, if_true, if_false, go_sem, reduceEqDiff, Nat.reduceLT, reduceAdd, reduceSub, reduceLeDiff, reduceReplicate, reduceToNat]
    refine mH fun k3 hk3 => ?_
    have rest3 : oB w b key level = aAx w b key level ⟨n1, n2, n3, n4, n5⟩ → k3 [.box (.agg [.int .i64 n1, .int .i64 n2, .int .i64 n3, .int .i64 n4, .sl false (.ints .i64 n5)])] := fun hd2 => by
      unfold aAx at hd2
      rw [hk3]
      simp only [dN.C, gq, reduceEq, reduceLT, reduceLE, implies_true, reduceCtorEq, if_true, if_false, go_sem, reduceEqDiff, Nat.reduceLT, reduceAdd, reduceSub, reduceLeDiff, reduceReplicate, reduceToNat]
      rw [aB]
      refine ⟨fun hl => ⟨⟨hr, by omega⟩, ?_⟩, fun hl => hyes _ _ _ (by rw [hd2, if_neg hl]) rfl⟩
      rw [if_pos hl] at hd2
      unfold aJW at hd2
      have e1 : IntKind.i64.wrap (n1 - 1) = n1 - 1 := w64 (by omega) (by omega)
      obtain ⟨ch, hch⟩ : ∃ ch, zZ w key ⟨n1, n2, n3, n4, n5⟩ = ch := ⟨_, rfl⟩
      rw [hch] at hd2
      rcases aCL w ch with ⟨lv, lo, hf, hv⟩ | ⟨lv, lo, hf, hv⟩
      · rw [hf] at hd2
        by_cases h0 : ch = 0
        · simp only [hch, cY.C, hv, h0, decide_true, aB, aB, gq, reduceEq, reduceLT, reduceLE, implies_true, reduceCtorEq, if_true, if_false, go_sem, reduceEqDiff, Nat.reduceLT, reduceAdd, reduceSub, reduceLeDiff, reduceReplicate, reduceToNat]
          rw [h0] at hv
          simp only [hv, aB, aB, gq, reduceEq, reduceLT, reduceLE, implies_true, reduceCtorEq, if_true, if_false, go_sem, reduceEqDiff, Nat.reduceLT, reduceAdd, reduceSub, reduceLeDiff, reduceReplicate, reduceToNat]
          exact ⟨hS, hno _ _ hd2 rfl⟩
        · simp only [hch, cY.C, hv, h0, decide_false, aB, aB, gq, reduceEq, reduceLT, reduceLE, implies_true, reduceCtorEq, if_true, if_false, go_sem, reduceEqDiff, Nat.reduceLT, reduceAdd, reduceSub, reduceLeDiff, reduceReplicate, reduceToNat]
          exact ⟨hS, hno _ _ hd2 rfl⟩
      · rw [hf] at hd2
        simp only at hd2
        by_cases h0 : ch = 0
        · rw [if_pos (.inl h0)] at hd2
          rw [h0] at hv
          simp only [hch, cY.C, h0, decide_true, aB, aB, gq, reduceEq, reduceLT, reduceLE, implies_true, reduceCtorEq, if_true, if_false, go_sem, reduceEqDiff, Nat.reduceLT, reduceAdd, reduceSub, reduceLeDiff, reduceReplicate, reduceToNat]
          simp only [hv, aB, aB, gq, reduceEq, reduceLT, reduceLE, implies_true, reduceCtorEq, if_true, if_false, go_sem, reduceEqDiff, Nat.reduceLT, reduceAdd, reduceSub, reduceLeDiff, reduceReplicate, reduceToNat]
          exact ⟨hS, hno _ _ hd2 rfl⟩
        · by_cases h1 : lv = n1 - 1
          · cases h2 : ltB key lo with
            | true =>
              rw [if_pos (.inr (.inr h2))] at hd2
              simp only [hch, cY.C, hv, h0, e1, h1, h2, decide_false, decide_true, aB, aB, gq, reduceEq, reduceLT, reduceLE, implies_true, reduceCtorEq, if_true, if_false, go_sem, reduceEqDiff, Nat.reduceLT, reduceAdd, reduceSub, reduceLeDiff, reduceReplicate, reduceToNat]
              exact ⟨hS, hno _ _ hd2 rfl⟩
            | false =>
              rw [if_neg (by
                rintro (h | h | h)
                · exact h0 h
                · exact h h1
                · rw [h2] at h; cases h)] at hd2
              simp only [hch, cY.C, hv, h0, e1, h1, h2, decide_false, decide_true, aB, aB, gq, reduceEq, reduceLT, reduceLE, implies_true, reduceCtorEq, if_true, if_false, go_sem, reduceEqDiff, Nat.reduceLT, reduceAdd, reduceSub, reduceLeDiff, reduceReplicate, reduceToNat]
              exact ⟨hS, hyes _ _ _ hd2 rfl⟩
          · rw [if_pos (.inr (.inl h1))] at hd2
            simp only [hch, cY.C, hv, h0, e1, h1, decide_false, decide_true, aB, aB, gq, reduceEq, reduceLT, reduceLE, implies_true, reduceCtorEq, if_true, if_false, go_sem, reduceEqDiff, Nat.reduceLT, reduceAdd, reduceSub, reduceLeDiff, reduceReplicate, reduceToNat]
            exact ⟨hS, hno _ _ hd2 rfl⟩
    clear hk3
    rw [aB]
    refine ⟨fun hn3 => ?_, fun hn3 => rest3 (by rw [hd, if_pos hn3])⟩
    rw [if_neg hn3] at hd
    rcases aCL w n3 with ⟨lv, lo, hf, hv⟩ | ⟨lv, lo, hf, hv⟩
    · rw [hf] at hd
      by_cases h0 : n3 = b
      · simp only [cY.C, hv, h0, decide_true, aB, aB, gq, reduceEq, reduceLT, reduceLE, implies_true, reduceCtorEq, if_true, if_false, go_sem, reduceEqDiff, Nat.reduceLT, reduceAdd, reduceSub, reduceLeDiff, reduceReplicate, reduceToNat]
        rw [h0] at hv
        simp only [hv, aB, aB, gq, reduceEq, reduceLT, reduceLE, implies_true, reduceCtorEq, if_true, if_false, go_sem, reduceEqDiff, Nat.reduceLT, reduceAdd, reduceSub, reduceLeDiff, reduceReplicate, reduceToNat]
        exact ⟨hS, hno _ _ hd rfl⟩
      · simp only [cY.C, hv, h0, decide_false, aB, aB, gq, reduceEq, reduceLT, reduceLE, implies_true, reduceCtorEq, if_true, if_false, go_sem, reduceEqDiff, Nat.reduceLT, reduceAdd, reduceSub, reduceLeDiff, reduceReplicate, reduceToNat]
        exact ⟨hS, hno _ _ hd rfl⟩
    · rw [hf] at hd
      simp only at hd
      by_cases h0 : n3 = b
      · rw [if_pos (.inl h0)] at hd
        rw [h0] at hv
        simp only [cY.C, h0, decide_true, aB, aB, gq, reduceEq, reduceLT, reduceLE, implies_true, reduceCtorEq, if_true, if_false, go_sem, reduceEqDiff, Nat.reduceLT, reduceAdd, reduceSub, reduceLeDiff, reduceReplicate, reduceToNat]
        simp only [hv, aB, aB, gq, reduceEq, reduceLT, reduceLE, implies_true, reduceCtorEq, if_true, if_false, go_sem, reduceEqDiff, Nat.reduceLT, reduceAdd, reduceSub, reduceLeDiff, reduceReplicate, reduceToNat]
        exact ⟨hS, hno _ _ hd rfl⟩
      · by_cases h1 : lv = n1
        · rw [if_neg (by
            rintro (h | h)
            · exact h0 h
            · exact h h1)] at hd
          cases h2 : ltB key lo with
          | true =>
            rw [h2] at hd
            simp only [cY.C, hv, h0, h1, h2, decide_false, decide_true, aB, aB, gq, reduceEq, reduceLT, reduceLE, implies_true, reduceCtorEq, if_true, if_false, go_sem, reduceEqDiff, Nat.reduceLT, reduceAdd, reduceSub, reduceLeDiff, reduceReplicate, reduceToNat]
            exact ⟨hS, rest3 (by rw [hd]; rfl)⟩
          | false =>
            rw [if_pos h2] at hd
            simp only [cY.C, hv, h0, h1, h2, decide_false, decide_true, aB, aB, gq, reduceEq, reduceLT, reduceLE, implies_true, reduceCtorEq, if_true, if_false, go_sem, reduceEqDiff, Nat.reduceLT, reduceAdd, reduceSub, reduceLeDiff, reduceReplicate, reduceToNat]
            exact ⟨hS, hyes _ _ _ hd rfl⟩
        · rw [if_pos (.inr h1)] at hd
          simp only [cY.C, hv, h0, h1, decide_false, decide_true, aB, aB, gq, reduceEq, reduceLT, reduceLE, implies_true, reduceCtorEq, if_true, if_false, go_sem, reduceEqDiff, Nat.reduceLT, reduceAdd, reduceSub, reduceLeDiff, reduceReplicate, reduceToNat]
          exact ⟨hS, hno _ _ hd rfl⟩
end Lam
namespace Lam
open Go
def oX (a lo hi : Nat) (l : List RecT) : Prop := ∀ i c, lo ≤ i → (c = 2 * i + 1 ∨ c = 2 * i + 2) → c < hi → leB (kyL l (a + c)) (kyL l (a + i))
def sZ (a lo r hi : Nat) (l : List RecT) : Prop :=
  (∀ i c, lo ≤ i → i ≠ r → (c = 2 * i + 1 ∨ c = 2 * i + 2) → c < hi → leB (kyL l (a + c)) (kyL l (a + i))) ∧
  ∀ i c, lo ≤ i → (r = 2 * i + 1 ∨ r = 2 * i + 2) → (c = 2 * r + 1 ∨ c = 2 * r + 2) → c < hi → leB (kyL l (a + c)) (kyL l (a + i))
theorem sZ.begin {a lo hi : Nat} {l : List RecT} (h : oX a (lo + 1) hi l) : sZ a lo lo hi l :=
  ⟨fun i c h1 h2 h3 h4 => h i c (by omega) h3 h4, fun i c h1 h2 h3 h4 => by omega⟩
theorem sZ.done {a lo r hi : Nat} {l : List RecT} (h : sZ a lo r hi l) (hc : ∀ c, (c = 2 * r + 1 ∨ c = 2 * r + 2) → c < hi → leB (kyL l (a + c)) (kyL l (a + r))) : oX a lo hi l := fun i c h1 h2 h3 => by
  by_cases e : i = r
  · subst e; exact hc c h2 h3
  · exact h.1 i c h1 e h2 h3
theorem sZ.step {a lo r hi c : Nat} {l : List RecT} (h : sZ a lo r hi l) (hr : lo ≤ r) (hc : c = 2 * r + 1 ∨ c = 2 * r + 2) (hch : c < hi) (hl : a + hi ≤ l.length) (hlt : leB (kyL l (a + r)) (kyL l (a + c))) (ho : ∀ d, (d = 2 * r + 1 ∨ d = 2 * r + 2) → d < hi → leB (kyL l (a + d)) (kyL l (a + c))) : sZ a lo c hi (fY l (a + r) (a + c)) := by
  obtain ⟨h1, h2⟩ := h
  have hrl : a + r < l.length := by omega
  have hcl : a + c < l.length := by omega
  have e : ∀ k, kyL (fY l (a + r) (a + c)) (a + k) = if k = c then kyL l (a + r) else if k = r then kyL l (a + c) else kyL l (a + k) := fun k => by
    rw [iN hrl hcl]
    by_cases e1 : k = c
    · rw [if_pos (by omega), if_pos e1]
    · rw [if_neg (by omega), if_neg e1]
      by_cases e2 : k = r
      · rw [if_pos (by omega), if_pos e2]
      · rw [if_neg (by omega), if_neg e2]
  refine ⟨fun i d q1 q2 q3 q4 => ?_, fun i d q1 q2 q3 q4 => ?_⟩
  · rw [e, e, if_neg q2]
    by_cases hir : i = r
    · subst hir
      rw [if_pos rfl]
      by_cases hd : d = c
      · rw [if_pos hd]; exact hlt
      · rw [if_neg hd, if_neg (by omega)]; exact ho d q3 q4
    · rw [if_neg hir]
      by_cases hd : d = r
      · subst hd
        rw [if_neg (by omega), if_pos rfl]; exact h2 i c q1 q3 hc hch
      · rw [if_neg (show ¬ d = c by omega), if_neg hd]; exact h1 i d q1 hir q3 q4
  · obtain rfl : i = r := by omega
    rw [e, e, if_neg (show ¬ d = c by omega), if_neg (show ¬ d = i by omega), if_neg (show ¬ i = c by omega), if_pos rfl]
    exact h1 c d (by omega) (by omega) q3 q4
theorem oX.top {a hi : Nat} {l : List RecT} (h : oX a 0 hi l) (k : Nat) : k < hi → leB (kyL l (a + k)) (kyL l a) := by
  induction k using Nat.strongRecOn with
  | _ k ih =>
    intro hk
    cases k with
    | zero => exact xS _
    | succ k => exact rX (h (k / 2) (k + 1) (Nat.zero_le _) (by omega) hk) (ih (k / 2) (by omega) (by omega))
def oY (a n b : Nat) (l : List RecT) : Prop := oX a 0 n l ∧ SegS (a + n) b l ∧ ∀ p q, p < n → a + n ≤ q → q < b → leB (kyL l (a + p)) (kyL l q)
theorem oY.begin {a b : Nat} {l : List RecT} (hab : a ≤ b) (h : oX a 0 (b - a) l) : oY a (b - a) b l :=
  ⟨h, SegS.one (by omega), fun p q h1 h2 h3 => by omega⟩
theorem oY.heap {a n b : Nat} {l : List RecT} (h : oY a (n + 1) b l) (hb : a + n < b) (hl : b ≤ l.length) : oX a 1 n (fY l a (a + n)) := fun i c h1 h2 h3 => by
  rw [iN (by omega) (by omega), iN (by omega) (by omega), if_neg (by omega), if_neg (by omega), if_neg (by omega), if_neg (by omega)]
  exact h.1 i c (Nat.zero_le _) h2 (by omega)
theorem oY.next {a n b : Nat} {l l2 : List RecT} (h : oY a (n + 1) b l) (hb : a + n < b) (hl : b ≤ l.length) (hs : SegP a (a + n) (fY l a (a + n)) l2) (hh : oX a 0 n l2) : oY a n b l2 := by
  obtain ⟨h1, h2, h3⟩ := h
  have hal : a < l.length := by omega
  have hnl : a + n < l.length := by omega
  have e1 : kyL l2 (a + n) = kyL l a := by rw [hs.same (by omega), iN hal hnl, if_pos rfl]
  have e2 : ∀ q, a + n < q → kyL l2 q = kyL l q := fun q hq => by rw [hs.same (by omega), iN hal hnl, if_neg (by omega), if_neg (by omega)]
  have e3 : ∀ p, p < n → ∃ p', p' < n + 1 ∧ kyL l2 (a + p) = kyL l (a + p') := fun p hp => by
    obtain ⟨k', q1, q2, e⟩ := hs.from (k := a + p) (by omega) (by omega)
    rw [e, iN hal hnl, if_neg (by omega)]
    by_cases hk : k' = a
    · rw [if_pos hk]; exact ⟨n, by omega, rfl⟩
    · rw [if_neg hk]; exact ⟨k' - a, by omega, by rw [show a + (k' - a) = k' by omega]⟩
  have htop : ∀ p', p' < n + 1 → leB (kyL l (a + p')) (kyL l a) := fun p' hp => h1.top p' hp
  refine ⟨hh, fun p q p1 p2 p3 => ?_, fun p q p1 p2 p3 => ?_⟩
  · rw [e2 q (by omega)]
    by_cases hp : p = a + n
    · subst hp; rw [e1]; exact h3 0 q (by omega) (by omega) p3
    · rw [e2 p (by omega)]; exact h2 p q (by omega) p2 p3
  · obtain ⟨p', g1, g2⟩ := e3 p p1
    rw [g2]
    by_cases hq : q = a + n
    · subst hq; rw [e1]; exact htop p' g1
    · rw [e2 q (by omega)]; exact h3 p' q g1 (by omega) p3
theorem oY.fin {a b : Nat} {l : List RecT} (h : oY a 0 b l) : SegS a b l := h.2.1
theorem SegP.le {a b : Nat} {l l' : List RecT} (h : SegP a b l l') {x : bF} (hx : ∀ k, a ≤ k → k < b → leB x (kyL l k)) : ∀ k, a ≤ k → k < b → leB x (kyL l' k) := fun k h1 h2 => by
  obtain ⟨k', q1, q2, e⟩ := h.from h1 h2
  rw [e]; exact hx k' q1 q2
end Lam
namespace Lam
open Go Go.Proofs
def aY.loops : Nat → bX
 | _ => ⟨[], [], [], [], [], []⟩
def aY.H (c : Ctx) (t0 : AV) (t1 : AV) (h : List AObj) (K : AOut → List AObj → Prop) : Prop :=
 runD (lenD aS h t0) h fun t6 h =>
 runD (iI h aA qI t6) h fun t10 h =>
 bB false c (.fn (.func 120) [] []) [t10] h (fun t11 h =>
 bB false c (.fn (.func 119) [] []) [t0, (.int .i64 0), t6, t11, t1] h (fun t13 h =>
 K (.ret (.tup [])) h)
 (fun v h => K (.pan v) h))
 (fun v h => K (.pan v) h)
def bO.loops : Nat → bX
 | 2 => ⟨[1, 2, 3, 10, 11], [false, false, false, false, false], [0, 4], [], [], []⟩
 | 15 => ⟨[], [], [], [(2, none), (1, some [69, 70]), (2, none), (2, some [72, 74])], [], []⟩
 | _ => ⟨[], [], [], [], [], []⟩
def bO.L1 (c : Ctx) (K : AOut → List AObj → Prop) (lv : List AV) (h0 : List AObj) (n0 : Nat) (c0 : AV) (c4 : AV) : Prop :=
 ∃ I : Nat → List AV → List AObj → Prop, (∃ n, I n lv h0) ∧ ∀ n h, ∀ t1, ∀ t2, ∀ t3, ∀ t10, ∀ t11, I n [t1, t2, t3, t10, t11] h →
 aM (fun (J2 : AV → AV → AV → AV → AV → List AObj → Prop) =>
 runD (binD aA .sub t2 t1) h fun t23 h =>
 runD (binD aA .leq t23 (.int .i64 12)) h fun t25 h =>
 aZ t25
 (bB false c (.fn (.func 126) [] []) [c0, t1, t2, c4] h (fun t30 h =>
 K (.ret (.tup [])) h)
 (fun v h => K (.pan v) h))
 (runD (binD aA .eql t3 (.int .i64 0)) h fun t32 h =>
 aZ t32
 (bB false c (.fn (.func 127) [] []) [c0, t1, t2, c4] h (fun t37 h =>
 K (.ret (.tup [])) h)
 (fun v h => K (.pan v) h))
 (runD (unD .not t10) h fun t39 h =>
 aM (fun (J3 : AV → List AObj → Prop) =>
 aZ t39
 (bB false c (.fn (.func 128) [] []) [c0, t1, t2, c4] h (fun t44 h =>
 runD (binD aA .sub t3 (.int .i64 1)) h fun t46 h =>
 J3 t46 h)
 (fun v h => K (.pan v) h))
 (J3 t3 h))
 (fun t3 h => bB false c (.fn (.func 129) [] []) [c0, t1, t2, c4] h (fun t52 h =>
 runD (bM t52 0) h fun t53 h =>
 runD (bM t52 1) h fun t54 h =>
 runD (binD lF .eql t54 (.int .i64 2)) h fun t56 h =>
 aM (fun (J4 : AV → AV → List AObj → Prop) =>
 aZ t56
 (bB false c (.fn (.func 130) [] []) [c0, t1, t2, c4] h (fun t61 h =>
 runD (binD aA .sub t2 (.int .i64 1)) h fun t63 h =>
 runD (binD aA .sub t53 t1) h fun t66 h =>
 runD (binD aA .sub t63 t66) h fun t67 h =>
 J4 t67 (.int .i64 1) h)
 (fun v h => K (.pan v) h))
 (J4 t53 t54 h))
 (fun t13 t14 h => aM (fun (J5 : AV → AV → List AObj → Prop) =>
 aX t10 true
 (J5 (.bool true) t11 h)
 (J5 (.bool false) .und h))
 (fun t69 t70 h => runD (bP t69 t70 (.bool false)) h fun t71 h =>
 aM (fun (J6 : AV → AV → List AObj → Prop) =>
 aX t71 true
 (runD (binD lF .eql t14 (.int .i64 1)) h fun t74 h =>
 J6 (.bool true) t74 h)
 (J6 (.bool false) .und h))
 (fun t72 t74 h => runD (bP t72 t74 (.bool false)) h fun t75 h =>
 aM (fun (J7 : List AObj → Prop) =>
 aZ t75
 (bB false c (.fn (.func 131) [] []) [c0, t1, t2, c4] h (fun t80 h =>
 aZ t80
 (K (.ret (.tup [])) h)
 (J7 h))
 (fun v h => K (.pan v) h))
 (J7 h))
 (fun h => runD (binD aA .gtr t1 (.int .i64 0)) h fun t82 h =>
 aM (fun (J8 : AV → AV → List AObj → Prop) =>
 aX t82 true
 (runD (binD aA .sub t1 (.int .i64 1)) h fun t87 h =>
 runD (aH aS h c0 t87) h fun t88 h =>
 runD (fitD aK (aD h t88)) h fun t89 h =>
 runD (aH aS h c0 t13) h fun t92 h =>
 runD (fitD aK (aD h t92)) h fun t93 h =>
 bB false c.noS c4 [t89, t93] h (fun t94 h =>
 runD (binD aA .lss t94 (.int .i64 0)) h fun t95 h =>
 runD (unD .not t95) h fun t96 h =>
 J8 (.bool true) t96 h)
 (fun _ _ => False))
 (J8 (.bool false) .und h))
 (fun t83 t96 h => runD (bP t83 t96 (.bool false)) h fun t97 h =>
 aZ t97
 (bB false c (.fn (.func 132) [] []) [c0, t1, t2, t13, c4] h (fun t103 h =>
 J2 t103 t2 t3 t10 t11 h)
 (fun v h => K (.pan v) h))
 (bB false c (.fn (.func 133) [] []) [c0, t1, t2, t13, c4] h (fun t111 h =>
 runD (bM t111 0) h fun t112 h =>
 runD (bM t111 1) h fun t113 h =>
 runD (binD aA .sub t112 t1) h fun t117 h =>
 runD (binD aA .sub t2 t112) h fun t120 h =>
 runD (binD aA .quo t23 (.int .i64 8)) h fun t122 h =>
 runD (binD aA .lss t117 t120) h fun t125 h =>
 aM (fun (J9 : AV → AV → AV → List AObj → Prop) =>
 aZ t125
 (runD (binD aA .geq t117 t122) h fun t128 h =>
 bB false c (.fn (.func 119) [] []) [c0, t1, t112, t3, c4] h (fun t134 h =>
 runD (binD aA .add t112 (.int .i64 1)) h fun t136 h =>
 J9 t136 t2 t128 h)
 (fun v h => K (.pan v) h))
 (runD (binD aA .geq t120 t122) h fun t139 h =>
 runD (binD aA .add t112 (.int .i64 1)) h fun t142 h =>
 bB false c (.fn (.func 119) [] []) [c0, t142, t2, t3, c4] h (fun t146 h =>
 J9 t1 t112 t139 h)
 (fun v h => K (.pan v) h)))
 (fun t1 t2 t10 h => J2 t1 t2 t3 t10 t113 h))
 (fun v h => K (.pan v) h))))))))
 (fun v h => K (.pan v) h)))))
 (fun t1 t2 t3 t10 t11 h => (∃ m, m < n ∧ I m (AV.norms n0 h [t1, t2, t3, t10, t11]) (cG n0 h)) ∧ AV.norms n0 h [c0, c4] = [c0, c4])
def bO.H (c : Ctx) (t0 : AV) (t1 : AV) (t2 : AV) (t3 : AV) (t4 : AV) (h : List AObj) (K : AOut → List AObj → Prop) : Prop :=
 aM (fun (J1 : List AObj → Prop) =>
 dE [false, false, false, false, false] [t1, t2, t3, (.bool true), (.bool true)] h fun lv h => bO.L1 c K (AV.norms h.length h lv) (cG h.length h) h.length (AV.norm h.length h t0) (AV.norm h.length h t4))
 (fun h => K (.ret (.tup [])) h)
def bG.loops : Nat → bX
 | _ => ⟨[], [], [], [], [], []⟩
def bG.H (c : Ctx) (t0 : AV) (t1 : AV) (t2 : AV) (t3 : AV) (h : List AObj) (K : AOut → List AObj → Prop) : Prop :=
 runD (binD aA .sub t2 t1) h fun t17 h =>
 cK aA h fun t11 h =>
 runD (binD aA .quo t17 (.int .i64 4)) h fun t20 h =>
 runD (binD aA .mul t20 (.int .i64 1)) h fun t21 h =>
 runD (binD aA .add t1 t21) h fun t22 h =>
 runD (binD aA .quo t17 (.int .i64 4)) h fun t25 h =>
 runD (binD aA .mul t25 (.int .i64 2)) h fun t26 h =>
 runD (binD aA .add t1 t26) h fun t27 h =>
 runD (binD aA .quo t17 (.int .i64 4)) h fun t30 h =>
 runD (binD aA .mul t30 (.int .i64 3)) h fun t31 h =>
 runD (binD aA .add t1 t31) h fun t32 h =>
 runD (binD aA .geq t17 (.int .i64 8)) h fun t34 h =>
 aM (fun (J1 : AV → List AObj → Prop) =>
 aZ t34
 (runD (binD aA .geq t17 (.int .i64 50)) h fun t36 h =>
 aM (fun (J2 : AV → AV → AV → List AObj → Prop) =>
 aZ t36
 (bB false c (.fn (.func 145) [] []) [t0, t22, t11, t3] h (fun t40 h =>
 bB false c (.fn (.func 145) [] []) [t0, t27, t11, t3] h (fun t44 h =>
 bB false c (.fn (.func 145) [] []) [t0, t32, t11, t3] h (fun t48 h =>
 J2 t40 t44 t48 h)
 (fun v h => K (.pan v) h))
 (fun v h => K (.pan v) h))
 (fun v h => K (.pan v) h))
 (J2 t22 t27 t32 h))
 (fun t12 t13 t14 h => bB false c (.fn (.func 146) [] []) [t0, t12, t13, t14, t11, t3] h (fun t54 h =>
 J1 t54 h)
 (fun v h => K (.pan v) h)))
 (J1 t27 h))
 (fun t13 h => runD (fitD aA (aD h t11)) h fun t55 h =>
 runD (binD aA .eql t55 (.int .i64 0)) h fun t58 h =>
 aZ t58
 (K (.ret (.tup [t13, (.int .i64 1)])) h)
 (runD (binD aA .eql t55 (.int .i64 12)) h fun t61 h =>
 aZ t61
 (K (.ret (.tup [t13, (.int .i64 2)])) h)
 (K (.ret (.tup [t13, (.int .i64 0)])) h)))
def aE.loops : Nat → bX
 | 3 => ⟨[9, 10], [false, false], [0, 1, 2, 3], [], [], []⟩
 | 5 => ⟨[9], [false], [0, 1, 2, 3, 10], [], [], []⟩
 | 14 => ⟨[11], [false], [0, 1, 2, 3, 9, 10], [], [], []⟩
 | 20 => ⟨[12], [false], [0, 1, 2, 3, 9, 10], [], [], []⟩
 | _ => ⟨[], [], [], [], [], []⟩
def aE.L2 (c : Ctx) (J3 : AV → AV → AV → AV → AV → AV → List AObj → Prop) (K : AOut → List AObj → Prop) (lv : List AV) (h0 : List AObj) (n0 : Nat) (c0 : AV) (c1 : AV) (c2 : AV) (c3 : AV) (c10 : AV) : Prop :=
 ∃ I : Nat → List AV → List AObj → Prop, (∃ n, I n lv h0) ∧ ∀ n h, ∀ t9, I n [t9] h →
 runD (binD aA .lss t9 c2) h fun t21 h =>
 aM (fun (J4 : AV → AV → List AObj → Prop) =>
 aX t21 true
 (runD (aH aS h c0 t9) h fun t26 h =>
 runD (fitD aK (aD h t26)) h fun t27 h =>
 runD (binD aA .sub t9 (.int .i64 1)) h fun t30 h =>
 runD (aH aS h c0 t30) h fun t31 h =>
 runD (fitD aK (aD h t31)) h fun t32 h =>
 bB false c.noS c3 [t27, t32] h (fun t33 h =>
 runD (binD aA .lss t33 (.int .i64 0)) h fun t34 h =>
 runD (unD .not t34) h fun t35 h =>
 J4 (.bool true) t35 h)
 (fun _ _ => False))
 (J4 (.bool false) .und h))
 (fun t22 t35 h => runD (bP t22 t35 (.bool false)) h fun t36 h =>
 aZ t36
 (runD (binD aA .add t9 (.int .i64 1)) h fun t38 h =>
 (∃ m, m < n ∧ I m (AV.norms n0 h [t38]) (cG n0 h)) ∧ AV.norms n0 h [c0, c1, c2, c3, c10] = [c0, c1, c2, c3, c10])
 (J3 c0 c1 c2 c3 t9 c10 h))
def aE.L3 (c : Ctx) (J6 : AV → AV → AV → AV → AV → AV → List AObj → Prop) (K : AOut → List AObj → Prop) (lv : List AV) (h0 : List AObj) (n0 : Nat) (c0 : AV) (c1 : AV) (c2 : AV) (c3 : AV) (c9 : AV) (c10 : AV) : Prop :=
 ∃ I : Nat → List AV → List AObj → Prop, (∃ n, I n lv h0) ∧ ∀ n h, ∀ t11, I n [t11] h →
 runD (binD aA .geq t11 (.int .i64 1)) h fun t69 h =>
 aZ t69
 (runD (aH aS h c0 t11) h fun t75 h =>
 runD (fitD aK (aD h t75)) h fun t76 h =>
 runD (binD aA .sub t11 (.int .i64 1)) h fun t79 h =>
 runD (aH aS h c0 t79) h fun t80 h =>
 runD (fitD aK (aD h t80)) h fun t81 h =>
 bB false c.noS c3 [t76, t81] h (fun t82 h =>
 runD (binD aA .lss t82 (.int .i64 0)) h fun t83 h =>
 runD (unD .not t83) h fun t84 h =>
 aZ t84
 (J6 c0 c1 c2 c3 c9 c10 h)
 (runD (binD aA .sub t11 (.int .i64 1)) h fun t89 h =>
 runD (binD aA .sub t11 (.int .i64 1)) h fun t92 h =>
 runD (aH aS h c0 t92) h fun t93 h =>
 runD (fitD aK (aD h t93)) h fun t94 h =>
 runD (aH aS h c0 t11) h fun t97 h =>
 runD (fitD aK (aD h t97)) h fun t98 h =>
 runD (aH aS h c0 t11) h fun t99 h =>
 runH (aQ aK h t99 t94) h fun _ h =>
 runD (aH aS h c0 t89) h fun t100 h =>
 runH (aQ aK h t100 t98) h fun _ h =>
 runD (binD aA .sub t11 (.int .i64 1)) h fun t71 h =>
 (∃ m, m < n ∧ I m (AV.norms n0 h [t71]) (cG n0 h)) ∧ AV.norms n0 h [c0, c1, c2, c3, c9, c10] = [c0, c1, c2, c3, c9, c10]))
 (fun _ _ => False))
 (J6 c0 c1 c2 c3 c9 c10 h)
def aE.L4 (c : Ctx) (J8 : AV → AV → AV → AV → AV → AV → List AObj → Prop) (K : AOut → List AObj → Prop) (lv : List AV) (h0 : List AObj) (n0 : Nat) (c0 : AV) (c1 : AV) (c2 : AV) (c3 : AV) (c9 : AV) (c10 : AV) : Prop :=
 ∃ I : Nat → List AV → List AObj → Prop, (∃ n, I n lv h0) ∧ ∀ n h, ∀ t12, I n [t12] h →
 runD (binD aA .lss t12 c2) h fun t109 h =>
 aZ t109
 (runD (aH aS h c0 t12) h fun t115 h =>
 runD (fitD aK (aD h t115)) h fun t116 h =>
 runD (binD aA .sub t12 (.int .i64 1)) h fun t119 h =>
 runD (aH aS h c0 t119) h fun t120 h =>
 runD (fitD aK (aD h t120)) h fun t121 h =>
 bB false c.noS c3 [t116, t121] h (fun t122 h =>
 runD (binD aA .lss t122 (.int .i64 0)) h fun t123 h =>
 runD (unD .not t123) h fun t124 h =>
 aZ t124
 (J8 c0 c1 c2 c3 c9 c10 h)
 (runD (binD aA .sub t12 (.int .i64 1)) h fun t129 h =>
 runD (binD aA .sub t12 (.int .i64 1)) h fun t132 h =>
 runD (aH aS h c0 t132) h fun t133 h =>
 runD (fitD aK (aD h t133)) h fun t134 h =>
 runD (aH aS h c0 t12) h fun t137 h =>
 runD (fitD aK (aD h t137)) h fun t138 h =>
 runD (aH aS h c0 t12) h fun t139 h =>
 runH (aQ aK h t139 t134) h fun _ h =>
 runD (aH aS h c0 t129) h fun t140 h =>
 runH (aQ aK h t140 t138) h fun _ h =>
 runD (binD aA .add t12 (.int .i64 1)) h fun t111 h =>
 (∃ m, m < n ∧ I m (AV.norms n0 h [t111]) (cG n0 h)) ∧ AV.norms n0 h [c0, c1, c2, c3, c9, c10] = [c0, c1, c2, c3, c9, c10]))
 (fun _ _ => False))
 (J8 c0 c1 c2 c3 c9 c10 h)
def aE.L1 (c : Ctx) (J1 : List AObj → Prop) (K : AOut → List AObj → Prop) (lv : List AV) (h0 : List AObj) (n0 : Nat) (c0 : AV) (c1 : AV) (c2 : AV) (c3 : AV) : Prop :=
 ∃ I : Nat → List AV → List AObj → Prop, (∃ n, I n lv h0) ∧ ∀ n h, ∀ t9, ∀ t10, I n [t9, t10] h →
 runD (binD aA .lss t10 (.int .i64 5)) h fun t16 h =>
 aZ t16
 (aM (fun (J2 : AV → AV → AV → AV → AV → AV → List AObj → Prop) =>
 aM (fun (J3 : AV → AV → AV → AV → AV → AV → List AObj → Prop) =>
 dE [false] [t9] h fun lv h => aE.L2 c J3 K (AV.norms h.length h lv) (cG h.length h) h.length (AV.norm h.length h c0) (AV.norm h.length h c1) (AV.norm h.length h c2) (AV.norm h.length h c3) (AV.norm h.length h t10))
 (fun t0 t1 t2 t3 t9 t10 h => runD (binD aA .eql t9 t2) h fun t41 h =>
 aZ t41
 (K (.ret (.bool true)) h)
 (runD (binD aA .sub t2 t1) h fun t44 h =>
 runD (binD aA .lss t44 (.int .i64 50)) h fun t45 h =>
 aZ t45
 (K (.ret (.bool false)) h)
 (runD (binD aA .sub t9 (.int .i64 1)) h fun t50 h =>
 runD (binD aA .sub t9 (.int .i64 1)) h fun t53 h =>
 runD (aH aS h t0 t53) h fun t54 h =>
 runD (fitD aK (aD h t54)) h fun t55 h =>
 runD (aH aS h t0 t9) h fun t58 h =>
 runD (fitD aK (aD h t58)) h fun t59 h =>
 runD (aH aS h t0 t9) h fun t60 h =>
 runH (aQ aK h t60 t55) h fun _ h =>
 runD (aH aS h t0 t50) h fun t61 h =>
 runH (aQ aK h t61 t59) h fun _ h =>
 runD (binD aA .sub t9 t1) h fun t64 h =>
 runD (binD aA .geq t64 (.int .i64 2)) h fun t65 h =>
 aM (fun (J5 : AV → AV → AV → AV → AV → AV → List AObj → Prop) =>
 aZ t65
 (runD (binD aA .sub t9 (.int .i64 1)) h fun t67 h =>
 aM (fun (J6 : AV → AV → AV → AV → AV → AV → List AObj → Prop) =>
 dE [false] [t67] h fun lv h => aE.L3 c J6 K (AV.norms h.length h lv) (cG h.length h) h.length (AV.norm h.length h t0) (AV.norm h.length h t1) (AV.norm h.length h t2) (AV.norm h.length h t3) (AV.norm h.length h t9) (AV.norm h.length h t10))
 (fun t0 t1 t2 t3 t9 t10 h => J5 t0 t1 t2 t3 t9 t10 h))
 (J5 t0 t1 t2 t3 t9 t10 h))
 (fun t0 t1 t2 t3 t9 t10 h => runD (binD aA .sub t2 t9) h fun t103 h =>
 runD (binD aA .geq t103 (.int .i64 2)) h fun t104 h =>
 aM (fun (J7 : AV → AV → AV → AV → AV → AV → List AObj → Prop) =>
 aZ t104
 (runD (binD aA .add t9 (.int .i64 1)) h fun t106 h =>
 aM (fun (J8 : AV → AV → AV → AV → AV → AV → List AObj → Prop) =>
 dE [false] [t106] h fun lv h => aE.L4 c J8 K (AV.norms h.length h lv) (cG h.length h) h.length (AV.norm h.length h t0) (AV.norm h.length h t1) (AV.norm h.length h t2) (AV.norm h.length h t3) (AV.norm h.length h t9) (AV.norm h.length h t10))
 (fun t0 t1 t2 t3 t9 t10 h => J7 t0 t1 t2 t3 t9 t10 h))
 (J7 t0 t1 t2 t3 t9 t10 h))
 (fun t0 t1 t2 t3 t9 t10 h => J2 t0 t1 t2 t3 t9 t10 h))))))
 (fun t0 t1 t2 t3 t9 t10 h => runD (binD aA .add t10 (.int .i64 1)) h fun t18 h =>
 (∃ m, m < n ∧ I m (AV.norms n0 h [t9, t18]) (cG n0 h)) ∧ AV.norms n0 h [t0, t1, t2, t3] = [c0, c1, c2, c3]))
 (J1 h)
def aE.H (c : Ctx) (t0 : AV) (t1 : AV) (t2 : AV) (t3 : AV) (h : List AObj) (K : AOut → List AObj → Prop) : Prop :=
 runD (binD aA .add t1 (.int .i64 1)) h fun t14 h =>
 aM (fun (J1 : List AObj → Prop) =>
 dE [false, false] [t14, (.int .i64 0)] h fun lv h => aE.L1 c J1 K (AV.norms h.length h lv) (cG h.length h) h.length (AV.norm h.length h t0) (AV.norm h.length h t1) (AV.norm h.length h t2) (AV.norm h.length h t3))
 (fun h => K (.ret (.bool false)) h)
def aI.loops : Nat → bX
 | 3 => ⟨[12], [false], [0, 1, 4, 13], [], [], []⟩
 | 5 => ⟨[13], [false], [0, 1, 4, 12], [], [], []⟩
 | 13 => ⟨[12], [false], [0, 1, 4, 13], [], [], []⟩
 | 15 => ⟨[13], [false], [0, 1, 4, 12], [], [], []⟩
 | 1013 => ⟨[12, 13], [false, false], [0, 1, 4], [], [], []⟩
 | _ => ⟨[], [], [], [], [], []⟩
def aI.L1 (c : Ctx) (J1 : AV → AV → AV → AV → AV → List AObj → Prop) (K : AOut → List AObj → Prop) (lv : List AV) (h0 : List AObj) (n0 : Nat) (c0 : AV) (c1 : AV) (c4 : AV) (c13 : AV) : Prop :=
 ∃ I : Nat → List AV → List AObj → Prop, (∃ n, I n lv h0) ∧ ∀ n h, ∀ t12, I n [t12] h →
 runD (binD aA .leq t12 c13) h fun t34 h =>
 aM (fun (J2 : AV → AV → List AObj → Prop) =>
 aX t34 true
 (runD (aH aS h c0 t12) h fun t39 h =>
 runD (fitD aK (aD h t39)) h fun t40 h =>
 runD (aH aS h c0 c1) h fun t43 h =>
 runD (fitD aK (aD h t43)) h fun t44 h =>
 bB false c.noS c4 [t40, t44] h (fun t45 h =>
 runD (binD aA .lss t45 (.int .i64 0)) h fun t46 h =>
 J2 (.bool true) t46 h)
 (fun _ _ => False))
 (J2 (.bool false) .und h))
 (fun t35 t46 h => runD (bP t35 t46 (.bool false)) h fun t47 h =>
 aZ t47
 (runD (binD aA .add t12 (.int .i64 1)) h fun t49 h =>
 (∃ m, m < n ∧ I m (AV.norms n0 h [t49]) (cG n0 h)) ∧ AV.norms n0 h [c0, c1, c4, c13] = [c0, c1, c4, c13])
 (J1 c0 c1 c4 t12 c13 h))
def aI.L2 (c : Ctx) (J3 : AV → AV → AV → AV → AV → List AObj → Prop) (K : AOut → List AObj → Prop) (lv : List AV) (h0 : List AObj) (n0 : Nat) (c0 : AV) (c1 : AV) (c4 : AV) (c12 : AV) : Prop :=
 ∃ I : Nat → List AV → List AObj → Prop, (∃ n, I n lv h0) ∧ ∀ n h, ∀ t13, I n [t13] h →
 runD (binD aA .leq c12 t13) h fun t52 h =>
 aM (fun (J4 : AV → AV → List AObj → Prop) =>
 aX t52 true
 (runD (aH aS h c0 t13) h fun t57 h =>
 runD (fitD aK (aD h t57)) h fun t58 h =>
 runD (aH aS h c0 c1) h fun t61 h =>
 runD (fitD aK (aD h t61)) h fun t62 h =>
 bB false c.noS c4 [t58, t62] h (fun t63 h =>
 runD (binD aA .lss t63 (.int .i64 0)) h fun t64 h =>
 runD (unD .not t64) h fun t65 h =>
 J4 (.bool true) t65 h)
 (fun _ _ => False))
 (J4 (.bool false) .und h))
 (fun t53 t65 h => runD (bP t53 t65 (.bool false)) h fun t66 h =>
 aZ t66
 (runD (binD aA .sub t13 (.int .i64 1)) h fun t68 h =>
 (∃ m, m < n ∧ I m (AV.norms n0 h [t68]) (cG n0 h)) ∧ AV.norms n0 h [c0, c1, c4, c12] = [c0, c1, c4, c12])
 (J3 c0 c1 c4 c12 t13 h))
def aI.L4 (c : Ctx) (J7 : AV → AV → AV → AV → AV → List AObj → Prop) (K : AOut → List AObj → Prop) (lv : List AV) (h0 : List AObj) (n0 : Nat) (c0 : AV) (c1 : AV) (c4 : AV) (c13 : AV) : Prop :=
 ∃ I : Nat → List AV → List AObj → Prop, (∃ n, I n lv h0) ∧ ∀ n h, ∀ t12, I n [t12] h →
 runD (binD aA .leq t12 c13) h fun t107 h =>
 aM (fun (J8 : AV → AV → List AObj → Prop) =>
 aX t107 true
 (runD (aH aS h c0 t12) h fun t112 h =>
 runD (fitD aK (aD h t112)) h fun t113 h =>
 runD (aH aS h c0 c1) h fun t116 h =>
 runD (fitD aK (aD h t116)) h fun t117 h =>
 bB false c.noS c4 [t113, t117] h (fun t118 h =>
 runD (binD aA .lss t118 (.int .i64 0)) h fun t119 h =>
 J8 (.bool true) t119 h)
 (fun _ _ => False))
 (J8 (.bool false) .und h))
 (fun t108 t119 h => runD (bP t108 t119 (.bool false)) h fun t120 h =>
 aZ t120
 (runD (binD aA .add t12 (.int .i64 1)) h fun t122 h =>
 (∃ m, m < n ∧ I m (AV.norms n0 h [t122]) (cG n0 h)) ∧ AV.norms n0 h [c0, c1, c4, c13] = [c0, c1, c4, c13])
 (J7 c0 c1 c4 t12 c13 h))
def aI.L5 (c : Ctx) (J9 : AV → AV → AV → AV → AV → List AObj → Prop) (K : AOut → List AObj → Prop) (lv : List AV) (h0 : List AObj) (n0 : Nat) (c0 : AV) (c1 : AV) (c4 : AV) (c12 : AV) : Prop :=
 ∃ I : Nat → List AV → List AObj → Prop, (∃ n, I n lv h0) ∧ ∀ n h, ∀ t13, I n [t13] h →
 runD (binD aA .leq c12 t13) h fun t125 h =>
 aM (fun (J10 : AV → AV → List AObj → Prop) =>
 aX t125 true
 (runD (aH aS h c0 t13) h fun t130 h =>
 runD (fitD aK (aD h t130)) h fun t131 h =>
 runD (aH aS h c0 c1) h fun t134 h =>
 runD (fitD aK (aD h t134)) h fun t135 h =>
 bB false c.noS c4 [t131, t135] h (fun t136 h =>
 runD (binD aA .lss t136 (.int .i64 0)) h fun t137 h =>
 runD (unD .not t137) h fun t138 h =>
 J10 (.bool true) t138 h)
 (fun _ _ => False))
 (J10 (.bool false) .und h))
 (fun t126 t138 h => runD (bP t126 t138 (.bool false)) h fun t139 h =>
 aZ t139
 (runD (binD aA .sub t13 (.int .i64 1)) h fun t141 h =>
 (∃ m, m < n ∧ I m (AV.norms n0 h [t141]) (cG n0 h)) ∧ AV.norms n0 h [c0, c1, c4, c12] = [c0, c1, c4, c12])
 (J9 c0 c1 c4 c12 t13 h))
def aI.L3 (c : Ctx) (J5 : AV → AV → AV → List AObj → Prop) (K : AOut → List AObj → Prop) (lv : List AV) (h0 : List AObj) (n0 : Nat) (c0 : AV) (c1 : AV) (c4 : AV) : Prop :=
 ∃ I : Nat → List AV → List AObj → Prop, (∃ n, I n lv h0) ∧ ∀ n h, ∀ t12, ∀ t13, I n [t12, t13] h →
 aM (fun (J6 : AV → AV → AV → AV → AV → List AObj → Prop) =>
 aM (fun (J7 : AV → AV → AV → AV → AV → List AObj → Prop) =>
 dE [false] [t12] h fun lv h => aI.L4 c J7 K (AV.norms h.length h lv) (cG h.length h) h.length (AV.norm h.length h c0) (AV.norm h.length h c1) (AV.norm h.length h c4) (AV.norm h.length h t13))
 (fun t0 t1 t4 t12 t13 h => aM (fun (J9 : AV → AV → AV → AV → AV → List AObj → Prop) =>
 dE [false] [t13] h fun lv h => aI.L5 c J9 K (AV.norms h.length h lv) (cG h.length h) h.length (AV.norm h.length h t0) (AV.norm h.length h t1) (AV.norm h.length h t4) (AV.norm h.length h t12))
 (fun t0 t1 t4 t12 t13 h => runD (binD aA .gtr t12 t13) h fun t144 h =>
 aZ t144
 (J5 t0 t1 t13 h)
 (runD (aH aS h t0 t13) h fun t151 h =>
 runD (fitD aK (aD h t151)) h fun t152 h =>
 runD (aH aS h t0 t12) h fun t155 h =>
 runD (fitD aK (aD h t155)) h fun t156 h =>
 runD (aH aS h t0 t12) h fun t157 h =>
 runH (aQ aK h t157 t152) h fun _ h =>
 runD (aH aS h t0 t13) h fun t158 h =>
 runH (aQ aK h t158 t156) h fun _ h =>
 runD (binD aA .add t12 (.int .i64 1)) h fun t160 h =>
 runD (binD aA .sub t13 (.int .i64 1)) h fun t162 h =>
 J6 t0 t1 t4 t160 t162 h))))
 (fun t0 t1 t4 t12 t13 h => (∃ m, m < n ∧ I m (AV.norms n0 h [t12, t13]) (cG n0 h)) ∧ AV.norms n0 h [t0, t1, t4] = [c0, c1, c4])
def aI.H (c : Ctx) (t0 : AV) (t1 : AV) (t2 : AV) (t3 : AV) (t4 : AV) (h : List AObj) (K : AOut → List AObj → Prop) : Prop :=
 runD (aH aS h t0 t3) h fun t20 h =>
 runD (fitD aK (aD h t20)) h fun t21 h =>
 runD (aH aS h t0 t1) h fun t24 h =>
 runD (fitD aK (aD h t24)) h fun t25 h =>
 runD (aH aS h t0 t1) h fun t26 h =>
 runH (aQ aK h t26 t21) h fun _ h =>
 runD (aH aS h t0 t3) h fun t27 h =>
 runH (aQ aK h t27 t25) h fun _ h =>
 runD (binD aA .add t1 (.int .i64 1)) h fun t29 h =>
 runD (binD aA .sub t2 (.int .i64 1)) h fun t31 h =>
 aM (fun (J1 : AV → AV → AV → AV → AV → List AObj → Prop) =>
 dE [false] [t29] h fun lv h => aI.L1 c J1 K (AV.norms h.length h lv) (cG h.length h) h.length (AV.norm h.length h t0) (AV.norm h.length h t1) (AV.norm h.length h t4) (AV.norm h.length h t31))
 (fun t0 t1 t4 t12 t13 h => aM (fun (J3 : AV → AV → AV → AV → AV → List AObj → Prop) =>
 dE [false] [t13] h fun lv h => aI.L2 c J3 K (AV.norms h.length h lv) (cG h.length h) h.length (AV.norm h.length h t0) (AV.norm h.length h t1) (AV.norm h.length h t4) (AV.norm h.length h t12))
 (fun t0 t1 t4 t12 t13 h => runD (binD aA .gtr t12 t13) h fun t71 h =>
 aZ t71
 (runD (aH aS h t0 t1) h fun t78 h =>
 runD (fitD aK (aD h t78)) h fun t79 h =>
 runD (aH aS h t0 t13) h fun t82 h =>
 runD (fitD aK (aD h t82)) h fun t83 h =>
 runD (aH aS h t0 t13) h fun t84 h =>
 runH (aQ aK h t84 t79) h fun _ h =>
 runD (aH aS h t0 t1) h fun t85 h =>
 runH (aQ aK h t85 t83) h fun _ h =>
 K (.ret (.tup [t13, (.bool true)])) h)
 (runD (aH aS h t0 t13) h fun t93 h =>
 runD (fitD aK (aD h t93)) h fun t94 h =>
 runD (aH aS h t0 t12) h fun t97 h =>
 runD (fitD aK (aD h t97)) h fun t98 h =>
 runD (aH aS h t0 t12) h fun t99 h =>
 runH (aQ aK h t99 t94) h fun _ h =>
 runD (aH aS h t0 t13) h fun t100 h =>
 runH (aQ aK h t100 t98) h fun _ h =>
 runD (binD aA .add t12 (.int .i64 1)) h fun t102 h =>
 runD (binD aA .sub t13 (.int .i64 1)) h fun t104 h =>
 aM (fun (J5 : AV → AV → AV → List AObj → Prop) =>
 dE [false, false] [t102, t104] h fun lv h => aI.L3 c J5 K (AV.norms h.length h lv) (cG h.length h) h.length (AV.norm h.length h t0) (AV.norm h.length h t1) (AV.norm h.length h t4))
 (fun t0 t1 t13 h => runD (aH aS h t0 t1) h fun t169 h =>
 runD (fitD aK (aD h t169)) h fun t170 h =>
 runD (aH aS h t0 t13) h fun t173 h =>
 runD (fitD aK (aD h t173)) h fun t174 h =>
 runD (aH aS h t0 t13) h fun t175 h =>
 runH (aQ aK h t175 t170) h fun _ h =>
 runD (aH aS h t0 t1) h fun t176 h =>
 runH (aQ aK h t176 t174) h fun _ h =>
 K (.ret (.tup [t13, (.bool false)])) h))))
def bH.loops : Nat → bX
 | _ => ⟨[], [], [], [], [], []⟩
def bH.H (c : Ctx) (t0 : AV) (t1 : AV) (t2 : AV) (t3 : AV) (t4 : AV) (t5 : AV) (h : List AObj) (K : AOut → List AObj → Prop) : Prop :=
 bB false c (.fn (.func 151) [] []) [t0, t1, t2, t4, t5] h (fun t19 h =>
 runD (bM t19 0) h fun t20 h =>
 runD (bM t19 1) h fun t21 h =>
 bB false c (.fn (.func 151) [] []) [t0, t21, t3, t4, t5] h (fun t28 h =>
 runD (bM t28 0) h fun t29 h =>
 runD (bM t28 1) h fun t30 h =>
 bB false c (.fn (.func 151) [] []) [t0, t20, t29, t4, t5] h (fun t37 h =>
 runD (bM t37 0) h fun t38 h =>
 runD (bM t37 1) h fun t39 h =>
 K (.ret t39) h)
 (fun v h => K (.pan v) h))
 (fun v h => K (.pan v) h))
 (fun v h => K (.pan v) h)
def bN.loops : Nat → bX
 | _ => ⟨[], [], [], [], [], []⟩
def bN.H (c : Ctx) (t0 : AV) (t1 : AV) (t2 : AV) (t3 : AV) (t4 : AV) (h : List AObj) (K : AOut → List AObj → Prop) : Prop :=
 runD (aH aS h t0 t2) h fun t15 h =>
 runD (fitD aK (aD h t15)) h fun t16 h =>
 runD (aH aS h t0 t1) h fun t19 h =>
 runD (fitD aK (aD h t19)) h fun t20 h =>
 bB false c.noS t4 [t16, t20] h (fun t21 h =>
 runD (binD aA .lss t21 (.int .i64 0)) h fun t22 h =>
 aZ t22
 (runD (cJ t3) h fun t24 h =>
 runD (fitD aA (aD h t24)) h fun t25 h =>
 runD (binD aA .add t25 (.int .i64 1)) h fun t26 h =>
 runD (cJ t3) h fun t27 h =>
 runH (aQ aA h t27 t26) h fun _ h =>
 K (.ret (.tup [t2, t1])) h)
 (K (.ret (.tup [t1, t2])) h))
 (fun _ _ => False)
theorem aY.eq (F : List (FuncId × aF)) (S : List (FuncId × Con)) (t0 t1 : AV) (h : List AObj) (K : AOut → List AObj → Prop) : funW (ctx F S aY.loops) Tryz.f108 [t0, t1] h K = aY.H (ctx F S aY.loops) t0 t1 h K := by kernel_rfl
theorem bO.eq (F : List (FuncId × aF)) (S : List (FuncId × Con)) (t0 t1 t2 t3 t4 : AV) (h : List AObj) (K : AOut → List AObj → Prop) : funW (ctx F S bO.loops) Tryz.f119 [t0, t1, t2, t3, t4] h K = bO.H (ctx F S bO.loops) t0 t1 t2 t3 t4 h K := by kernel_rfl
theorem bG.eq (F : List (FuncId × aF)) (S : List (FuncId × Con)) (t0 t1 t2 t3 : AV) (h : List AObj) (K : AOut → List AObj → Prop) : funW (ctx F S bG.loops) Tryz.f129 [t0, t1, t2, t3] h K = bG.H (ctx F S bG.loops) t0 t1 t2 t3 h K := by kernel_rfl
theorem aE.eq (F : List (FuncId × aF)) (S : List (FuncId × Con)) (t0 t1 t2 t3 : AV) (h : List AObj) (K : AOut → List AObj → Prop) : funW (ctx F S aE.loops) Tryz.f131 [t0, t1, t2, t3] h K = aE.H (ctx F S aE.loops) t0 t1 t2 t3 h K := by kernel_rfl
theorem aI.eq (F : List (FuncId × aF)) (S : List (FuncId × Con)) (t0 t1 t2 t3 t4 : AV) (h : List AObj) (K : AOut → List AObj → Prop) : funW (ctx F S aI.loops) Tryz.f133 [t0, t1, t2, t3, t4] h K = aI.H (ctx F S aI.loops) t0 t1 t2 t3 t4 h K := by kernel_rfl
theorem bH.eq (F : List (FuncId × aF)) (S : List (FuncId × Con)) (t0 t1 t2 t3 t4 t5 : AV) (h : List AObj) (K : AOut → List AObj → Prop) : funW (ctx F S bH.loops) Tryz.f146 [t0, t1, t2, t3, t4, t5] h K = bH.H (ctx F S bH.loops) t0 t1 t2 t3 t4 t5 h K := by kernel_rfl
theorem bN.eq (F : List (FuncId × aF)) (S : List (FuncId × Con)) (t0 t1 t2 t3 t4 : AV) (h : List AObj) (K : AOut → List AObj → Prop) : funW (ctx F S bN.loops) Tryz.f151 [t0, t1, t2, t3, t4] h K = bN.H (ctx F S bN.loops) t0 t1 t2 t3 t4 h K := by kernel_rfl
theorem aY.at : Tryz.prog.funcs[108]? = some Tryz.f108 := by kernel_rfl
theorem aY.nm : (Tryz.f108.name == "runtime.NumGoroutine") = false := by kernel_rfl
theorem aY.bd : Tryz.f108.body.isNone = false := by kernel_rfl
theorem bO.at : Tryz.prog.funcs[119]? = some Tryz.f119 := by kernel_rfl
theorem bO.nm : (Tryz.f119.name == "runtime.NumGoroutine") = false := by kernel_rfl
theorem bO.bd : Tryz.f119.body.isNone = false := by kernel_rfl
theorem bG.at : Tryz.prog.funcs[129]? = some Tryz.f129 := by kernel_rfl
theorem bG.nm : (Tryz.f129.name == "runtime.NumGoroutine") = false := by kernel_rfl
theorem bG.bd : Tryz.f129.body.isNone = false := by kernel_rfl
theorem aE.at : Tryz.prog.funcs[131]? = some Tryz.f131 := by kernel_rfl
theorem aE.nm : (Tryz.f131.name == "runtime.NumGoroutine") = false := by kernel_rfl
theorem aE.bd : Tryz.f131.body.isNone = false := by kernel_rfl
theorem aI.at : Tryz.prog.funcs[133]? = some Tryz.f133 := by kernel_rfl
theorem aI.nm : (Tryz.f133.name == "runtime.NumGoroutine") = false := by kernel_rfl
theorem aI.bd : Tryz.f133.body.isNone = false := by kernel_rfl
theorem bH.at : Tryz.prog.funcs[146]? = some Tryz.f146 := by kernel_rfl
theorem bH.nm : (Tryz.f146.name == "runtime.NumGoroutine") = false := by kernel_rfl
theorem bH.bd : Tryz.f146.body.isNone = false := by kernel_rfl
theorem bN.at : Tryz.prog.funcs[151]? = some Tryz.f151 := by kernel_rfl
theorem bN.nm : (Tryz.f151.name == "runtime.NumGoroutine") = false := by kernel_rfl
theorem bN.bd : Tryz.f151.body.isNone = false := by kernel_rfl
end Lam
namespace Lam
open Go Go.Proofs
def aO.loops : Nat → bX
 | 1 => ⟨[8], [false], [0, 1, 2, 3], [], [], []⟩
 | 4 => ⟨[9], [false], [0, 1, 2, 3, 8], [], [], []⟩
 | _ => ⟨[], [], [], [], [], []⟩
def aO.L2 (c : Ctx) (J3 : AV → AV → AV → AV → AV → List AObj → Prop) (K : AOut → List AObj → Prop) (lv : List AV) (h0 : List AObj) (n0 : Nat) (c0 : AV) (c1 : AV) (c2 : AV) (c3 : AV) (c8 : AV) : Prop :=
 ∃ I : Nat → List AV → List AObj → Prop, (∃ n, I n lv h0) ∧ ∀ n h, ∀ t9, I n [t9] h →
 runD (binD aA .gtr t9 c1) h fun t20 h =>
 aM (fun (J4 : AV → AV → List AObj → Prop) =>
 aX t20 true
 (runD (aH aS h c0 t9) h fun t25 h =>
 runD (fitD aK (aD h t25)) h fun t26 h =>
 runD (binD aA .sub t9 (.int .i64 1)) h fun t29 h =>
 runD (aH aS h c0 t29) h fun t30 h =>
 runD (fitD aK (aD h t30)) h fun t31 h =>
 bB false c.noS c3 [t26, t31] h (fun t32 h =>
 runD (binD aA .lss t32 (.int .i64 0)) h fun t33 h =>
 J4 (.bool true) t33 h)
 (fun _ _ => False))
 (J4 (.bool false) .und h))
 (fun t21 t33 h => runD (bP t21 t33 (.bool false)) h fun t34 h =>
 aZ t34
 (runD (binD aA .sub t9 (.int .i64 1)) h fun t41 h =>
 runD (binD aA .sub t9 (.int .i64 1)) h fun t44 h =>
 runD (aH aS h c0 t44) h fun t45 h =>
 runD (fitD aK (aD h t45)) h fun t46 h =>
 runD (aH aS h c0 t9) h fun t49 h =>
 runD (fitD aK (aD h t49)) h fun t50 h =>
 runD (aH aS h c0 t9) h fun t51 h =>
 runH (aQ aK h t51 t46) h fun _ h =>
 runD (aH aS h c0 t41) h fun t52 h =>
 runH (aQ aK h t52 t50) h fun _ h =>
 runD (binD aA .sub t9 (.int .i64 1)) h fun t36 h =>
 (∃ m, m < n ∧ I m (AV.norms n0 h [t36]) (cG n0 h)) ∧ AV.norms n0 h [c0, c1, c2, c3, c8] = [c0, c1, c2, c3, c8])
 (J3 c0 c1 c2 c3 c8 h))
def aO.L1 (c : Ctx) (J1 : List AObj → Prop) (K : AOut → List AObj → Prop) (lv : List AV) (h0 : List AObj) (n0 : Nat) (c0 : AV) (c1 : AV) (c2 : AV) (c3 : AV) : Prop :=
 ∃ I : Nat → List AV → List AObj → Prop, (∃ n, I n lv h0) ∧ ∀ n h, ∀ t8, I n [t8] h →
 runD (binD aA .lss t8 c2) h fun t14 h =>
 aZ t14
 (aM (fun (J2 : AV → AV → AV → AV → AV → List AObj → Prop) =>
 aM (fun (J3 : AV → AV → AV → AV → AV → List AObj → Prop) =>
 dE [false] [t8] h fun lv h => aO.L2 c J3 K (AV.norms h.length h lv) (cG h.length h) h.length (AV.norm h.length h c0) (AV.norm h.length h c1) (AV.norm h.length h c2) (AV.norm h.length h c3) (AV.norm h.length h t8))
 (fun t0 t1 t2 t3 t8 h => J2 t0 t1 t2 t3 t8 h))
 (fun t0 t1 t2 t3 t8 h => runD (binD aA .add t8 (.int .i64 1)) h fun t16 h =>
 (∃ m, m < n ∧ I m (AV.norms n0 h [t16]) (cG n0 h)) ∧ AV.norms n0 h [t0, t1, t2, t3] = [c0, c1, c2, c3]))
 (J1 h)
def aO.H (c : Ctx) (t0 : AV) (t1 : AV) (t2 : AV) (t3 : AV) (h : List AObj) (K : AOut → List AObj → Prop) : Prop :=
 runD (binD aA .add t1 (.int .i64 1)) h fun t11 h =>
 aM (fun (J1 : List AObj → Prop) =>
 dE [false] [t11] h fun lv h => aO.L1 c J1 K (AV.norms h.length h lv) (cG h.length h) h.length (AV.norm h.length h t0) (AV.norm h.length h t1) (AV.norm h.length h t2) (AV.norm h.length h t3))
 (fun h => K (.ret (.tup [])) h)
theorem aO.eq (F : List (FuncId × aF)) (S : List (FuncId × Con)) (t0 t1 t2 t3 : AV) (h : List AObj) (K : AOut → List AObj → Prop) : funW (ctx F S aO.loops) Tryz.f126 [t0, t1, t2, t3] h K = aO.H (ctx F S aO.loops) t0 t1 t2 t3 h K := by kernel_rfl
theorem aO.at : Tryz.prog.funcs[126]? = some Tryz.f126 := by kernel_rfl
theorem aO.nm : (Tryz.f126.name == "runtime.NumGoroutine") = false := by kernel_rfl
theorem aO.bd : Tryz.f126.body.isNone = false := by kernel_rfl
end Lam
