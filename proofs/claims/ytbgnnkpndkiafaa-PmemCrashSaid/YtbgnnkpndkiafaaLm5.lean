/- What functions of the program come to, each proved from its code. -/
import Derived.Test.YtbgnnkpndkiafaaLm4
namespace Lam
open Go Go.Proofs
set_option linter.unusedVariables false
set_option linter.unnecessarySimpa false
set_option linter.unusedSimpArgs false
def lamplighterref04_Few.C : Contract
  | [.agg [.sl false (.ints .i64 vol), .sl false (.ints .i64 per), .sl false (.pends pend)]] => some (false, pD True (.bool (fewB vol per pend)))
  | _ => none
set_option maxRecDepth 20000 in
theorem lamplighterref04_Few.spec : FSpec Try.prog 10 lamplighterref04_Few.C := by
  refine FSpec.of (ctx_ok (F := []) (S := []) (by simp) (by simp) lamplighterref04_Few.loops) lamplighterref04_Few.at lamplighterref04_Few.nm lamplighterref04_Few.bd ?_
  intro vs b S v news e hS
  unfold lamplighterref04_Few.C at e
  split at e
  rotate_left
  · cases e
  cases e
  rw [lamplighterref04_Few.eq]
  unfold lamplighterref04_Few.H
  simp (maxSteps := 4000000) only [go_sem, Nat.reduceEqDiff, Nat.reduceLT, Nat.reduceAdd, Nat.reduceSub, Nat.reduceLeDiff, List.reduceReplicate, Int.reduceToNat]
  rename_i vol per pend
  have e1 : decide ((vol.length : Int) ≤ 300) = decide (vol.length ≤ 300) := decide_eq_decide.2 (by omega)
  have e2 : decide ((per.length : Int) ≤ 300) = decide (per.length ≤ 300) := decide_eq_decide.2 (by omega)
  have e3 : decide ((pend.length : Int) ≤ 100) = decide (pend.length ≤ 100) := decide_eq_decide.2 (by omega)
  rw [e1, e2, e3]
  exact post_val rfl rfl
def sameB (vol per : List Int) (pend : List Pend) (vol' per' : List Int) (pend' : List Pend) : Bool := decide (vol = vol') && decide (per = per') && decide (pend = pend')
theorem sameB_self (v p : List Int) (q : List Pend) : sameB v p q v p q = true := by simp [sameB]
def lamplighterref04_Same.C : Contract
  | [.agg [.sl false (.ints .i64 vol), .sl false (.ints .i64 per), .sl false (.pends pend)], .agg [.sl false (.ints .i64 vol'), .sl false (.ints .i64 per'), .sl false (.pends pend')]] => some (false, pD (smallM vol per pend) (.bool (sameB vol per pend vol' per' pend')))
  | _ => none
set_option maxRecDepth 20000 in
theorem lamplighterref04_Same.spec : FSpec Try.prog 17 lamplighterref04_Same.C := by
  refine FSpec.of (ctx_ok (F := [(16, lamplighterref02_Numbers.C)]) (S := []) (by simpa using lamplighterref02_Numbers.spec) (by simp) lamplighterref04_Same.loops) lamplighterref04_Same.at lamplighterref04_Same.nm lamplighterref04_Same.bd ?_
  intro vs b S v news e hS
  unfold lamplighterref04_Same.C at e
  split at e
  rotate_left
  · cases e
  cases e
  rw [lamplighterref04_Same.eq]
  unfold lamplighterref04_Same.H
  simp (maxSteps := 4000000) only [go_sem, Nat.reduceEqDiff, Nat.reduceLT, Nat.reduceAdd, Nat.reduceSub, Nat.reduceLeDiff, List.reduceReplicate, Int.reduceToNat, lamplighterref02_Numbers.C]
  rename_i vol per pend vol' per' pend'
  obtain ⟨s1, s2, s3⟩ := hS
  unfold roomy at s1 s2 s3
  refine ⟨s1, s2, fun hne => ?_, fun heq => ?_⟩
  · have : sameB vol per pend vol' per' pend' = false := by
      simp only [Bool.or_eq_true, Bool.not_eq_true', decide_eq_false_iff_not] at hne
      unfold sameB
      rcases hne with (h | h) | h
      · simp [h]
      · simp [h]
      · have : pend ≠ pend' := by rintro rfl; exact h rfl
        simp [this]
    rw [this]; exact post_val rfl rfl
  simp only [Bool.or_eq_false_iff, Bool.not_eq_false', decide_eq_true_eq] at heq
  obtain ⟨⟨h1, h2⟩, h3⟩ := heq
  have hlen : pend.length = pend'.length := by omega
  rw [joinW_eq]
  unfold lamplighterref04_Same.L1
  refine loop1 (fun k : Nat => .int .i64 k) (fun _ => [.box (memV vol per pend), .box (memV vol' per' pend')]) (fun k => pend.length - k) (fun k => k ≤ pend.length ∧ ∀ i, i < k → pend.getD i ⟨0, 0, false⟩ = pend'.getD i ⟨0, 0, false⟩) 0 rfl rfl ⟨Nat.zero_le _, fun i hi => absurd hi (Nat.not_lt_zero i)⟩ ?_
  rintro I back k ⟨hk, hall⟩
  simp only [go_sem, Nat.reduceEqDiff, Nat.reduceLT, Nat.reduceAdd, Nat.reduceSub, Nat.reduceLeDiff, List.reduceReplicate, Int.reduceToNat]
  have hd : ∀ a b : Pend, (decide (a.at_ = b.at_) && (decide (a.val = b.val) && a.fl == b.fl)) = decide (a = b) := fun a b => by
    cases a; cases b; rw [Bool.eq_iff_iff]; simp only [Bool.and_eq_true, Bool.or_eq_true, Bool.not_eq_true', Bool.not_eq_false', Bool.not_eq_true, decide_eq_true_eq, decide_eq_false_iff_not, Bool.or_eq_false_iff, Bool.and_eq_false_iff, beq_iff_eq]; simp
  rw [hd]
  refine ⟨fun hlt => ⟨by omega, by omega, fun h0 => ?_, fun h0 => ?_⟩, fun hge => ?_⟩
  · rw [decide_eq_false_iff_not] at h0
    have : pend ≠ pend' := by rintro rfl; exact h0 rfl
    have : sameB vol per pend vol' per' pend' = false := by unfold sameB; simp [this]
    rw [this]; exact post_val rfl rfl
  · rw [decide_eq_true_eq] at h0
    refine back (k + 1) (by omega) (by rw [wnext (by omega)]) rfl ⟨by omega, fun i hi => ?_⟩
    by_cases e : i = k
    · subst e; exact h0
    · exact hall i (by omega)
  · have h4 : pend = pend' := ext_d _ hlen fun i hi => hall i (by omega)
    have : sameB vol per pend vol' per' pend' = true := by unfold sameB; simp [h1, h2, h4]
    rw [this]; exact post_val rfl rfl
def lamplighterref04_set.C : Contract
  | [.sl _ (.ints .i64 l), .int .i64 at_, .int .i64 val] => some (false, pD (0 ≤ at_ ∧ at_ < (l.length : Int) ∧ roomy l.length) (.sl false (.ints .i64 (l.set at_.toNat val))))
  | _ => none
set_option maxRecDepth 20000 in
theorem lamplighterref04_set.spec : FSpec Try.prog 41 lamplighterref04_set.C := by
  refine FSpec.of (ctx_ok (F := []) (S := []) (by simp) (by simp) lamplighterref04_set.loops) lamplighterref04_set.at lamplighterref04_set.nm lamplighterref04_set.bd ?_
  intro vs b S v news e hS
  unfold lamplighterref04_set.C at e
  split at e
  rotate_left
  · cases e
  cases e
  rw [lamplighterref04_set.eq]
  unfold lamplighterref04_set.H
  simp (maxSteps := 4000000) only [go_sem, Nat.reduceEqDiff, Nat.reduceLT, Nat.reduceAdd, Nat.reduceSub, Nat.reduceLeDiff, List.reduceReplicate, Int.reduceToNat]
  rename_i l at_ val
  obtain ⟨h0, h1, hr⟩ := hS
  refine ⟨hr, ⟨h0, h1⟩, by omega, post_val ?_ rfl⟩
  simp only [go_sem, Nat.reduceEqDiff, Nat.reduceLT, Nat.reduceAdd, Nat.reduceSub, Nat.reduceLeDiff, List.reduceReplicate, Int.reduceToNat, take_len _ (Nat.le_of_eq List.length_set)]
def lamplighterref04_line.C : Contract
  | [.agg [.sl false (.ints .i64 vol), .sl false (.ints .i64 per), .sl false (.pends pend)], .int .i64 n] => some (false, pD (roomy vol.length) (.bool (decide (0 ≤ n) && decide (n < ((vol.length / 8 : Nat) : Int)))))
  | _ => none
set_option maxRecDepth 20000 in
theorem lamplighterref04_line.spec : FSpec Try.prog 42 lamplighterref04_line.C := by
  refine FSpec.of (ctx_ok (F := []) (S := []) (by simp) (by simp) lamplighterref04_line.loops) lamplighterref04_line.at lamplighterref04_line.nm lamplighterref04_line.bd ?_
  intro vs b S v news e hS
  unfold lamplighterref04_line.C at e
  split at e
  rotate_left
  · cases e
  cases e
  rw [lamplighterref04_line.eq]
  unfold lamplighterref04_line.H
  simp (maxSteps := 4000000) only [go_sem, Nat.reduceEqDiff, Nat.reduceLT, Nat.reduceAdd, Nat.reduceSub, Nat.reduceLeDiff, List.reduceReplicate, Int.reduceToNat]
  rename_i vol per pend n
  unfold roomy at hS
  rw [wdiv8 (by omega)]
  exact ⟨fun _ => by decide, post_val rfl rfl⟩
def lamplighterref04_New.C : Contract
  | [.sl _ (.ints .i64 l)] => some (false, pD (roomy l.length) (newM l))
  | _ => none
set_option maxRecDepth 20000 in
theorem lamplighterref04_New.spec : FSpec Try.prog 27 lamplighterref04_New.C := by
  refine FSpec.of (ctx_ok (F := []) (S := []) (by simp) (by simp) lamplighterref04_New.loops) lamplighterref04_New.at lamplighterref04_New.nm lamplighterref04_New.bd ?_
  intro vs b S v news e hS
  unfold lamplighterref04_New.C at e
  split at e
  rotate_left
  · cases e
  cases e
  rw [lamplighterref04_New.eq]
  unfold lamplighterref04_New.H
  simp (maxSteps := 4000000) only [go_sem, Nat.reduceEqDiff, Nat.reduceLT, Nat.reduceAdd, Nat.reduceSub, Nat.reduceLeDiff, List.reduceReplicate, Int.reduceToNat]
  rename_i l
  have e : (decide (4096 < (l.length : Int)) || !decide ((l.length : Int).tmod 8 = 0)) = !szB l.length := by
    unfold szB
    rw [Bool.eq_iff_iff]; simp only [Bool.and_eq_true, Bool.or_eq_true, Bool.not_eq_true', Bool.not_eq_false', Bool.not_eq_true, decide_eq_true_eq, decide_eq_false_iff_not, Bool.or_eq_false_iff, Bool.and_eq_false_iff, beq_iff_eq]; omega
  rw [e]
  refine ⟨fun _ => by decide, fun h => ?_, fun h => ?_⟩
  · rw [Bool.not_eq_true'] at h
    unfold newM; rw [h]; exact post_val rfl rfl
  · rw [Bool.not_eq_false'] at h
    unfold newM; simp only [h, if_true]; exact post_val rfl rfl
def lamplighterref04_Check.C : Contract
  | [.agg [.sl false (.ints .i64 vol), .sl false (.ints .i64 per), .sl false (.pends pend)]] => some (false, pD (smallM vol per pend) (.bool (checkB vol per pend)))
  | _ => none
set_option maxRecDepth 20000 in
theorem lamplighterref04_Check.spec : FSpec Try.prog 28 lamplighterref04_Check.C := by
  refine FSpec.of (ctx_ok (F := [(16, lamplighterref02_Numbers.C)]) (S := []) (by simpa using lamplighterref02_Numbers.spec) (by simp) lamplighterref04_Check.loops) lamplighterref04_Check.at lamplighterref04_Check.nm lamplighterref04_Check.bd ?_
  intro vs b S v news e hS
  unfold lamplighterref04_Check.C at e
  split at e
  rotate_left
  · cases e
  cases e
  rw [lamplighterref04_Check.eq]
  unfold lamplighterref04_Check.H
  simp (maxSteps := 4000000) only [go_sem, Nat.reduceEqDiff, Nat.reduceLT, Nat.reduceAdd, Nat.reduceSub, Nat.reduceLeDiff, List.reduceReplicate, Int.reduceToNat, lamplighterref02_Numbers.C]
  rename_i vol per pend
  obtain ⟨s1, s2, s3⟩ := hS
  unfold roomy at s1 s2 s3
  refine ⟨fun _ => by decide, fun h => ?_, fun h => ⟨s2, ?_⟩⟩
  · have : checkB vol per pend = false := by
      cases e : checkB vol per pend with
      | false => rfl
      | true =>
        have := check_iff.1 e
        have h1 := this.len
        have h2 := this.sz
        have h3 := this.md
        simp only [Bool.or_eq_true, Bool.not_eq_true', decide_eq_true_eq, decide_eq_false_iff_not] at h
        rw [Int.tmod_eq_emod_of_nonneg (by omega)] at h
        omega
    rw [this]; exact post_val rfl rfl
  simp only [Bool.or_eq_false_iff, Bool.not_eq_false', decide_eq_true_eq, decide_eq_false_iff_not] at h
  have hlen : vol.length = per.length := by omega
  have hmd : vol.length % 8 = 0 := by
    have := h.2
    rw [Int.tmod_eq_emod_of_nonneg (by omega)] at this
    omega
  rw [joinW_eq]
  unfold lamplighterref04_Check.L1
  refine loop1 (σ := Nat) (fun k => .int .i64 k) (fun k => [.box (memV vol per pend), .row .own 0 (.ints .i64 []), .row .own 0 (.ints .i64 (app (pend.take k) per))]) (fun k => pend.length - k)
    (fun k => k ≤ pend.length ∧ (∀ p ∈ pend.take k, 0 ≤ p.at_ ∧ p.at_ < (vol.length : Int)) ∧ LineWise (fun p => p.fl) (pend.take k)) 0 rfl rfl ⟨Nat.zero_le _, by simp, by simp [LineWise]⟩ ?_
  rintro I back k ⟨hk, hrg, hlw⟩
  simp only [go_sem, Nat.reduceEqDiff, Nat.reduceLT, Nat.reduceAdd, Nat.reduceSub, Nat.reduceLeDiff, List.reduceReplicate, Int.reduceToNat, app_len]
  refine ⟨fun hlt => ⟨by omega, ?_⟩, fun hge => ?_⟩
  · have hkl : k < pend.length := by omega
    have hmem := getD_mem pend k ⟨0, 0, false⟩ hkl
    have htk := take_next pend k ⟨0, 0, false⟩ hkl
    generalize pend.getD k ⟨0, 0, false⟩ = p at *
    refine ⟨fun hb => ?_, fun hb => ?_⟩
    · have : checkB vol per pend = false := by
        cases e : checkB vol per pend with
        | false => rfl
        | true =>
          have := (check_iff.1 e).rng p hmem
          simp only [Bool.or_eq_true, decide_eq_true_eq] at hb
          omega
      rw [this]; exact post_val rfl rfl
    rw [Bool.or_eq_false_iff, decide_eq_false_iff_not, decide_eq_false_iff_not] at hb
    rw [joinW_eq]
    unfold lamplighterref04_Check.L2
    refine loop1 (σ := Nat) (fun j => .int .i64 j) (fun _ => [.box (memV vol per pend), .row .own 0 (.ints .i64 []), .row .own 0 (.ints .i64 (app (pend.take k) per)), .box (.agg [.int .i64 p.at_, .int .i64 p.val, .bool p.fl])]) (fun j => k - j)
      (fun j => j ≤ k ∧ ∀ q ∈ pend.take j, lineOf q.at_ = lineOf p.at_ → p.fl = true → q.fl = true) 0 rfl rfl ⟨Nat.zero_le _, by simp⟩ ?_
    rintro I2 back2 j ⟨hj, hall⟩
    simp only [go_sem, Nat.reduceEqDiff, Nat.reduceLT, Nat.reduceAdd, Nat.reduceSub, Nat.reduceLeDiff, List.reduceReplicate, Int.reduceToNat, app_len]
    refine ⟨fun hc => ?_, fun hc => ?_⟩
    · rw [Bool.and_eq_true, decide_eq_true_eq] at hc
      obtain ⟨hjk, hfl⟩ := hc
      have hjp : j < pend.length := by omega
      have hjm : pend.getD j ⟨0, 0, false⟩ ∈ pend.take k := by
        have : j < (pend.take k).length := by rw [List.length_take]; omega
        have e : (pend.take k).getD j ⟨0, 0, false⟩ = pend.getD j ⟨0, 0, false⟩ := by
          rw [List.getD_eq_getElem?_getD, List.getElem?_take, if_pos (by omega), List.getD_eq_getElem?_getD]
        rw [← e]; exact getD_mem _ _ _ this
      have htj := take_next pend j ⟨0, 0, false⟩ hjp
      generalize pend.getD j ⟨0, 0, false⟩ = q at *
      refine ⟨by omega, by decide, by decide, fun _ => by omega, fun hx => ?_, fun hx => ?_⟩
      · rw [Bool.and_eq_true, decide_eq_true_eq, Bool.not_eq_true'] at hx
        have : checkB vol per pend = false := by
          cases e : checkB vol per pend with
          | false => rfl
          | true =>
            have h2 := (check_iff.1 e).ord.sublist (List.take_sublist (k + 1) pend)
            rw [htk, List.pairwise_append] at h2
            have h3 : q.fl = true := h2.2.2 q hjm p (by simp) hx.1 hfl
            rw [hx.2] at h3; cases h3
        rw [this]; exact post_val rfl rfl
      · refine back2 (j + 1) (by omega) (by rw [wnext (by omega)]) rfl ⟨by omega, fun r hr hl hf => ?_⟩
        rw [htj, List.mem_append, List.mem_singleton] at hr
        rcases hr with hr | rfl
        · exact hall r hr hl hf
        · rw [Bool.and_eq_false_iff, decide_eq_false_iff_not, Bool.not_eq_false'] at hx
          rcases hx with hx | hx
          · exact absurd hl hx
          · exact hx
    · refine ⟨⟨by omega, by omega⟩, by omega, back (k + 1) (by omega) (by rw [wnext (by omega)]) ?_ ⟨by omega, fun q hq => ?_, ?_⟩⟩
      · rw [htk, app_append]; rfl
      · rw [htk, List.mem_append, List.mem_singleton] at hq
        rcases hq with hq | rfl
        · exact hrg q hq
        · omega
      · unfold LineWise
        rw [htk, List.pairwise_append]
        refine ⟨hlw, List.pairwise_singleton _ _, fun q hq r hr hl hf => ?_⟩
        rw [List.mem_singleton] at hr; subst hr
        rw [Bool.and_eq_false_iff, decide_eq_false_iff_not] at hc
        rcases hc with hc | hc
        · exact hall q (by rw [show j = k by omega]; exact hq) hl hf
        · have hf : r.fl = true := hf
          rw [hc] at hf; cases hf
  · obtain rfl : k = pend.length := by omega
    rw [List.take_length] at *
    have e : (app pend per).take per.length = app pend per := take_len _ (by rw [app_len]; exact Nat.le_refl _)
    rw [e]
    simp only [lamplighterref02_Numbers.C, go_sem, Nat.reduceEqDiff, Nat.reduceLT, Nat.reduceAdd, Nat.reduceSub, Nat.reduceLeDiff, List.reduceReplicate, Int.reduceToNat, app_len]
    refine ⟨s2, ?_⟩
    have : checkB vol per pend = decide (app pend per = vol) := by
      by_cases e : app pend per = vol
      · rw [decide_eq_true e, check_iff]
        exact ⟨hlen, by omega, hmd, fun p hp => by have := hrg p hp; omega, hlw, e⟩
      · rw [decide_eq_false e]
        cases c : checkB vol per pend with
        | false => rfl
        | true => exact absurd (check_iff.1 c).eq e
    rw [this]; exact post_val rfl rfl
def lamplighterref04_Put.C : Contract
  | [.agg [.sl false (.ints .i64 vol), .sl false (.ints .i64 per), .sl false (.pends pend)], .int .i64 at_, .int .i64 val] => some (false, pD (smallM vol per pend ∧ roomy (pend.length + 1)) (putM vol per pend at_ val))
  | _ => none
set_option maxRecDepth 20000 in
theorem lamplighterref04_Put.spec : FSpec Try.prog 19 lamplighterref04_Put.C := by
  refine FSpec.of (ctx_ok (F := [(28, lamplighterref04_Check.C), (41, lamplighterref04_set.C)]) (S := []) (by simpa using ⟨lamplighterref04_Check.spec, lamplighterref04_set.spec⟩) (by simp) lamplighterref04_Put.loops) lamplighterref04_Put.at lamplighterref04_Put.nm lamplighterref04_Put.bd ?_
  intro vs b S v news e hS
  unfold lamplighterref04_Put.C at e
  split at e
  rotate_left
  · cases e
  cases e
  rw [lamplighterref04_Put.eq]
  unfold lamplighterref04_Put.H
  simp (maxSteps := 4000000) only [go_sem, Nat.reduceEqDiff, Nat.reduceLT, Nat.reduceAdd, Nat.reduceSub, Nat.reduceLeDiff, List.reduceReplicate, Int.reduceToNat, lamplighterref04_Check.C, lamplighterref04_set.C]
  rename_i vol per pend at_ val
  obtain ⟨hS, hr⟩ := hS
  have e : (!checkB vol per pend || decide (at_ < 0) || decide ((vol.length : Int) ≤ at_)) = !placeB vol per pend at_ := by
    unfold placeB
    cases checkB vol per pend
    · simp
    · rw [Bool.eq_iff_iff]; simp only [Bool.and_eq_true, Bool.or_eq_true, Bool.not_eq_true', Bool.not_eq_false', Bool.not_eq_true, decide_eq_true_eq, decide_eq_false_iff_not, Bool.or_eq_false_iff, Bool.and_eq_false_iff, beq_iff_eq]; simp <;> omega
  rw [e]
  refine ⟨hS, fun h => ?_, fun h => ?_⟩
  · rw [Bool.not_eq_true'] at h
    unfold putM; rw [h]; exact post_val rfl rfl
  · rw [Bool.not_eq_false'] at h
    have hp : 0 ≤ at_ ∧ at_ < (vol.length : Int) := by
      simp only [placeB, Bool.and_eq_true, decide_eq_true_eq] at h
      exact h.1
    have hl : (pend ++ [(⟨at_, val, false⟩ : Pend)]).length = pend.length + 1 := by simp
    refine ⟨⟨hp.1, hp.2, hS.1⟩, hS.2.2, by rw [hl]; exact hr, rfl, rfl, ?_⟩
    unfold putM; simp only [h, if_true]
    refine post_val ?_ rfl
    simp only [go_sem, Nat.reduceEqDiff, Nat.reduceLT, Nat.reduceAdd, Nat.reduceSub, Nat.reduceLeDiff, List.reduceReplicate, Int.reduceToNat, List.take_length]
def lamplighterref04_Flush.C : Contract
  | [.agg [.sl false (.ints .i64 vol), .sl false (.ints .i64 per), .sl false (.pends pend)], .int .i64 line] => some (false, pD (smallM vol per pend) (flushM vol per pend line))
  | _ => none
set_option maxRecDepth 20000 in
theorem lamplighterref04_Flush.spec : FSpec Try.prog 20 lamplighterref04_Flush.C := by
  refine FSpec.of (ctx_ok (F := [(28, lamplighterref04_Check.C), (42, lamplighterref04_line.C)]) (S := []) (by simpa using ⟨lamplighterref04_Check.spec, lamplighterref04_line.spec⟩) (by simp) lamplighterref04_Flush.loops) lamplighterref04_Flush.at lamplighterref04_Flush.nm lamplighterref04_Flush.bd ?_
  intro vs b S v news e hS
  unfold lamplighterref04_Flush.C at e
  split at e
  rotate_left
  · cases e
  cases e
  rw [lamplighterref04_Flush.eq]
  unfold lamplighterref04_Flush.H
  simp (maxSteps := 4000000) only [go_sem, Nat.reduceEqDiff, Nat.reduceLT, Nat.reduceAdd, Nat.reduceSub, Nat.reduceLeDiff, List.reduceReplicate, Int.reduceToNat, lamplighterref04_Check.C, lamplighterref04_line.C]
  rename_i vol per pend line
  rw [place_first (vol := vol) hS]
  obtain ⟨s1, s2, s3⟩ := hS
  refine ⟨⟨s1, s2, s3⟩, fun _ => s1, fun h => ?_, fun h => ?_⟩
  · rw [Bool.not_eq_true'] at h
    unfold flushM; rw [h]; exact post_val rfl rfl
  rw [Bool.not_eq_false'] at h
  unfold roomy at s1 s2 s3
  rw [joinW_eq]
  unfold lamplighterref04_Flush.L1
  refine loop1 (σ := Nat × Nat) (fun s => .int .i64 s.1) (fun s => [.box (memV vol per pend), .box (memV [] [] []), .box (.agg [.sl false (.ints .i64 vol), .sl false (.ints .i64 per), .sref false 3 s.2 0 s.1]), .row .own s.2 (.pends (flushP line (pend.take s.1)))]) (fun s => pend.length - s.1) (fun s => s.1 ≤ pend.length) (0, 0) rfl rfl (Nat.zero_le _) ?_
  rintro I back ⟨k, v⟩ hk
  simp only [] at hk ⊢
  have hfl : (flushP line (pend.take k)).length = k := by unfold flushP; simp; omega
  have hsn : ∀ p : Pend, flushP line [p] = [⟨p.at_, p.val, p.fl || decide (lineOf p.at_ = line)⟩] := fun p => by
    unfold flushP
    by_cases e : lineOf p.at_ = line <;> simp [e]
  have happ : ∀ a b : List Pend, flushP line (a ++ b) = flushP line a ++ flushP line b := fun a b => by unfold flushP; simp
  simp only [go_sem, Nat.reduceEqDiff, Nat.reduceLT, Nat.reduceAdd, Nat.reduceSub, Nat.reduceLeDiff, List.reduceReplicate, Int.reduceToNat, hfl]
  refine ⟨fun hlt => ⟨by omega, fun _ => by decide, ?_⟩, fun hge => ?_⟩
  · have hkl : k < pend.length := by omega
    have hnx : flushP line (pend.take (k + 1)) = flushP line (pend.take k) ++ [⟨(pend.getD k ⟨0, 0, false⟩).at_, (pend.getD k ⟨0, 0, false⟩).val, (pend.getD k ⟨0, 0, false⟩).fl || decide (lineOf (pend.getD k ⟨0, 0, false⟩).at_ = line)⟩] := by
      rw [take_next pend k ⟨0, 0, false⟩ hkl, happ, hsn]
    have hl1 : (flushP line (pend.take (k + 1))).length = k + 1 := by unfold flushP; simp; omega
    unfold lineOf at hnx
    rw [← hnx, hl1]
    exact ⟨by unfold roomy; omega, back (k + 1, v + 1) (by show _ - (k + 1) < _ - k; omega) (by rw [wnext (by omega)]) rfl (by omega)⟩
  · obtain rfl : k = pend.length := by omega
    rw [List.take_length] at hfl ⊢
    unfold flushM
    simp only [h, if_true]
    refine post_val ?_ rfl
    simp only [go_sem, Nat.reduceEqDiff, Nat.reduceLT, Nat.reduceAdd, Nat.reduceSub, Nat.reduceLeDiff, List.reduceReplicate, Int.reduceToNat, take_len _ (Nat.le_of_eq hfl)]
def keptB : List Bool → List Pend → List Pend
  | true :: bs, p :: ps => p :: keptB bs ps
  | false :: bs, p :: ps => keptB bs ps
  | _, _ => []
def restB : List Bool → List Pend → List Pend
  | true :: bs, p :: ps => restB bs ps
  | false :: bs, p :: ps => p :: restB bs ps
  | _, _ => []
theorem keptB_map (f : Pend → Bool) : ∀ l : List Pend, keptB (l.map f) l = l.filter f
  | [] => rfl
  | p :: r => by
    have ih := keptB_map f r
    cases h : f p <;> simp [h, keptB, ih]
theorem restB_map (f : Pend → Bool) : ∀ l : List Pend, restB (l.map f) l = keepP f l
  | [] => rfl
  | p :: r => by
    have ih := restB_map f r
    unfold keepP at ih ⊢
    cases h : f p <;> simp [h, restB, ih]
theorem kept_snoc (b : Bool) (p : Pend) : ∀ (bs : List Bool) (l : List Pend), bs.length = l.length → keptB (bs ++ [b]) (l ++ [p]) = (match b with | true => keptB bs l ++ [p] | false => keptB bs l) ∧ restB (bs ++ [b]) (l ++ [p]) = (match b with | true => restB bs l | false => restB bs l ++ [p])
  | [], [], _ => by cases b <;> exact ⟨rfl, rfl⟩
  | [], _ :: _, h => by cases h
  | _ :: _, [], h => by cases h
  | c :: bs, q :: l, h => by
    have ih := kept_snoc b p bs l (by simpa using h)
    cases c <;> cases b <;> simp [keptB, restB, ih.1, ih.2]
theorem restB_len : ∀ (bs : List Bool) (l : List Pend), (restB bs l).length ≤ l.length
  | [], l => by simp [restB]
  | b :: bs, [] => by simp [restB]
  | b :: bs, p :: l => by
    have := restB_len bs l
    cases b <;> simp [restB] <;> omega
def lamplighterref04_keep.C : Contract
  | [.agg [.sl false (.ints .i64 vol), .sl false (.ints .i64 per), .sl false (.pends pend)], .sl _ (.bools those)] => some (false, pD (smallM vol per pend ∧ those.length = pend.length ∧ ∀ p ∈ pend, 0 ≤ p.at_ ∧ p.at_ < (per.length : Int)) (memV vol (app (keptB those pend) per) (restB those pend)))
  | _ => none
set_option maxRecDepth 20000 in
theorem lamplighterref04_keep.spec : FSpec Try.prog 43 lamplighterref04_keep.C := by
  refine FSpec.of (ctx_ok (F := [(41, lamplighterref04_set.C)]) (S := []) (by simpa using lamplighterref04_set.spec) (by simp) lamplighterref04_keep.loops) lamplighterref04_keep.at lamplighterref04_keep.nm lamplighterref04_keep.bd ?_
  intro vs b S v news e hS
  unfold lamplighterref04_keep.C at e
  split at e
  rotate_left
  · cases e
  cases e
  rw [lamplighterref04_keep.eq]
  unfold lamplighterref04_keep.H
  simp (maxSteps := 4000000) only [go_sem, Nat.reduceEqDiff, Nat.reduceLT, Nat.reduceAdd, Nat.reduceSub, Nat.reduceLeDiff, List.reduceReplicate, Int.reduceToNat, lamplighterref04_set.C]
  rename_i vol per pend _ those
  obtain ⟨⟨s1, s2, s3⟩, hl, hrange⟩ := hS
  unfold roomy at s1 s2 s3
  rw [joinW_eq]
  unfold lamplighterref04_keep.L1
  refine loop1 (σ := Nat × Nat) (fun s => .int .i64 s.1) (fun s => [.box (memV vol per pend), .box (memV [] [] []), .box (.agg [.sl false (.ints .i64 vol), .sl false (.ints .i64 (app (keptB (those.take s.1) (pend.take s.1)) per)), .sref false 3 s.2 0 (restB (those.take s.1) (pend.take s.1)).length]), .row .own s.2 (.pends (restB (those.take s.1) (pend.take s.1)))]) (fun s => pend.length - s.1)
    (fun s => s.1 ≤ pend.length) (0, 0) rfl ?_ (Nat.zero_le _) ?_
  · simp only [List.take_zero]; rfl
  rintro I back ⟨k, v⟩ hk
  simp only [] at hk ⊢
  have hrl := restB_len (those.take k) (pend.take k)
  rw [List.length_take] at hrl
  simp only [go_sem, Nat.reduceEqDiff, Nat.reduceLT, Nat.reduceAdd, Nat.reduceSub, Nat.reduceLeDiff, List.reduceReplicate, Int.reduceToNat, app_len]
  refine ⟨fun hlt => ⟨by omega, ?_⟩, fun hge => ?_⟩
  · have hkl : k < pend.length := by omega
    have hr := hrange _ (getD_mem pend k ⟨0, 0, false⟩ hkl)
    have hs := kept_snoc (those.getD k false) (pend.getD k ⟨0, 0, false⟩) (those.take k) (pend.take k) (by simp; omega)
    rw [← take_next pend k ⟨0, 0, false⟩ hkl, ← take_next those k false (by omega)] at hs
    generalize pend.getD k ⟨0, 0, false⟩ = p at *
    generalize those.getD k false = b at *
    rw [joinW_eq]
    refine ⟨fun hb => ⟨by omega, by omega, ?_⟩, fun hb => ⟨by omega, ?_, ?_⟩⟩
    · subst hb
      simp only [lamplighterref04_set.C, go_sem, Nat.reduceEqDiff, Nat.reduceLT, Nat.reduceAdd, Nat.reduceSub, Nat.reduceLeDiff, List.reduceReplicate, Int.reduceToNat, app_len]
      refine ⟨⟨hr.1, hr.2, s2⟩, back (k + 1, v) (by show _ - (k + 1) < _ - k; omega) (by rw [wnext (by omega)]) ?_ (by show k + 1 ≤ _; omega)⟩
      simp only [hs, app_append, app, memV]
    · unfold roomy; simp; omega
    · subst hb
      simp only [go_sem, Nat.reduceEqDiff, Nat.reduceLT, Nat.reduceAdd, Nat.reduceSub, Nat.reduceLeDiff, List.reduceReplicate, Int.reduceToNat]
      refine back (k + 1, v + 1) (by show _ - (k + 1) < _ - k; omega) (by rw [wnext (by omega)]) ?_ (by show k + 1 ≤ _; omega)
      simp only [hs, memV]
  · obtain rfl : k = pend.length := by omega
    rw [List.take_length, ← hl, List.take_length]
    refine post_val ?_ rfl
    simp only [go_sem, Nat.reduceEqDiff, Nat.reduceLT, Nat.reduceAdd, Nat.reduceSub, Nat.reduceLeDiff, List.reduceReplicate, Int.reduceToNat, List.take_length]
theorem placeB_line {vol per : List Int} {pend : List Pend} {line : Int} (hs : smallM vol per pend) : (!checkB vol per pend || !(decide (0 ≤ line) && decide (line < ((vol.length / 8 : Nat) : Int)))) = !placeB vol per pend (firstI vol line) := place_first hs line
def lamplighterref04_Fence.C : Contract
  | [.agg [.sl false (.ints .i64 vol), .sl false (.ints .i64 per), .sl false (.pends pend)]] => some (false, pD (smallM vol per pend) (fenceM fFl (checkB vol per pend) vol per pend))
  | _ => none
set_option maxRecDepth 20000 in
theorem lamplighterref04_Fence.spec : FSpec Try.prog 21 lamplighterref04_Fence.C := by
  refine FSpec.of (ctx_ok (F := [(28, lamplighterref04_Check.C), (43, lamplighterref04_keep.C)]) (S := []) (by simpa using ⟨lamplighterref04_Check.spec, lamplighterref04_keep.spec⟩) (by simp) lamplighterref04_Fence.loops) lamplighterref04_Fence.at lamplighterref04_Fence.nm lamplighterref04_Fence.bd ?_
  intro vs b S v news e hS
  unfold lamplighterref04_Fence.C at e
  split at e
  rotate_left
  · cases e
  cases e
  rw [lamplighterref04_Fence.eq]
  unfold lamplighterref04_Fence.H
  simp (maxSteps := 4000000) only [go_sem, Nat.reduceEqDiff, Nat.reduceLT, Nat.reduceAdd, Nat.reduceSub, Nat.reduceLeDiff, List.reduceReplicate, Int.reduceToNat, lamplighterref04_Check.C, lamplighterref04_keep.C]
  rename_i vol per pend
  refine ⟨hS, fun h => ?_, fun h => ?_⟩
  · unfold fenceM; rw [h]; exact post_val rfl rfl
  have hrange := check_range h
  obtain ⟨s1, s2, s3⟩ := hS
  unfold roomy at s1 s2 s3
  rw [joinW_eq]
  unfold lamplighterref04_Fence.L1
  refine loop2 (σ := Nat × Nat) (fun s => .sref false 2 s.2 0 s.1) (fun s => .int .i64 s.1) (fun s => [.box (memV vol per pend), .box (memV [] [] []), .row .own s.2 (.bools ((pend.take s.1).map (fFl)))]) (fun s => pend.length - s.1) (fun s => s.1 ≤ pend.length) (0, 0) rfl rfl (Nat.zero_le _) ?_
  rintro I back ⟨k, v⟩ hk
  simp only [] at hk ⊢
  have hml : ((pend.take k).map (fFl)).length = k := by simp; omega
  simp only [go_sem, Nat.reduceEqDiff, Nat.reduceLT, Nat.reduceAdd, Nat.reduceSub, Nat.reduceLeDiff, List.reduceReplicate, Int.reduceToNat, hml]
  refine ⟨fun hlt => ?_, fun hge => ?_⟩
  · have hkl : k < pend.length := by omega
    have hnx : (pend.take (k + 1)).map (fFl) = (pend.take k).map (fFl) ++ [(fFl) (pend.getD k ⟨0, 0, false⟩)] := by rw [take_next pend k ⟨0, 0, false⟩ hkl, List.map_append]; rfl
    have hl1 : ((pend.take (k + 1)).map (fFl)).length = k + 1 := by simp; omega
    refine ⟨by omega, ?_, ?_⟩
    · unfold roomy; simp; omega
    · refine back (k + 1, v + 1) (by show _ - (k + 1) < _ - k; omega) ?_ ?_ (by show k + 1 ≤ _; omega)
      · rw [wnext (by omega)]; simp; omega
      · rw [hnx]; rfl
  · obtain rfl : k = pend.length := by omega
    rw [List.take_length] at *
    simp only [lamplighterref04_keep.C, go_sem, Nat.reduceEqDiff, Nat.reduceLT, Nat.reduceAdd, Nat.reduceSub, Nat.reduceLeDiff, List.reduceReplicate, Int.reduceToNat, take_len _ (Nat.le_of_eq hml), hml]
    refine ⟨⟨⟨s1, s2, s3⟩, hrange⟩, ?_⟩
    unfold fenceM; simp only [h, if_true]
    rw [keptB_map, restB_map, ← keepW_app]
    exact post_val rfl rfl
def lamplighterref04_Evict.C : Contract
  | [.agg [.sl false (.ints .i64 vol), .sl false (.ints .i64 per), .sl false (.pends pend)], .int .i64 line] => some (false, pD (smallM vol per pend) (fenceM (fLn line) (placeB vol per pend (firstI vol line)) vol per pend))
  | _ => none
set_option maxRecDepth 20000 in
theorem lamplighterref04_Evict.spec : FSpec Try.prog 22 lamplighterref04_Evict.C := by
  refine FSpec.of (ctx_ok (F := [(28, lamplighterref04_Check.C), (42, lamplighterref04_line.C), (43, lamplighterref04_keep.C)]) (S := []) (by simpa using ⟨lamplighterref04_Check.spec, lamplighterref04_line.spec, lamplighterref04_keep.spec⟩) (by simp) lamplighterref04_Evict.loops) lamplighterref04_Evict.at lamplighterref04_Evict.nm lamplighterref04_Evict.bd ?_
  intro vs b S v news e hS
  unfold lamplighterref04_Evict.C at e
  split at e
  rotate_left
  · cases e
  cases e
  rw [lamplighterref04_Evict.eq]
  unfold lamplighterref04_Evict.H
  simp (maxSteps := 4000000) only [go_sem, Nat.reduceEqDiff, Nat.reduceLT, Nat.reduceAdd, Nat.reduceSub, Nat.reduceLeDiff, List.reduceReplicate, Int.reduceToNat, lamplighterref04_Check.C, lamplighterref04_line.C, lamplighterref04_keep.C]
  rename_i vol per pend line
  rw [place_first hS]
  refine ⟨hS, fun _ => hS.1, fun h => ?_, fun h => ?_⟩
  · rw [Bool.not_eq_true'] at h
    unfold fenceM; rw [h]; exact post_val rfl rfl
  rw [Bool.not_eq_false'] at h
  have hrange := check_range (place_check h)
  obtain ⟨s1, s2, s3⟩ := hS
  unfold roomy at s1 s2 s3
  rw [joinW_eq]
  unfold lamplighterref04_Evict.L1
  refine loop2 (σ := Nat × Nat) (fun s => .sref false 2 s.2 0 s.1) (fun s => .int .i64 s.1) (fun s => [.box (memV vol per pend), .box (memV [] [] []), .row .own s.2 (.bools ((pend.take s.1).map (fLn line)))]) (fun s => pend.length - s.1) (fun s => s.1 ≤ pend.length) (0, 0) rfl rfl (Nat.zero_le _) ?_
  rintro I back ⟨k, v⟩ hk
  simp only [] at hk ⊢
  have hml : ((pend.take k).map (fLn line)).length = k := by simp; omega
  simp only [go_sem, Nat.reduceEqDiff, Nat.reduceLT, Nat.reduceAdd, Nat.reduceSub, Nat.reduceLeDiff, List.reduceReplicate, Int.reduceToNat, hml]
  refine ⟨fun hlt => ?_, fun hge => ?_⟩
  · have hkl : k < pend.length := by omega
    have hnx : (pend.take (k + 1)).map (fLn line) = (pend.take k).map (fLn line) ++ [(fLn line) (pend.getD k ⟨0, 0, false⟩)] := by rw [take_next pend k ⟨0, 0, false⟩ hkl, List.map_append]; rfl
    have hl1 : ((pend.take (k + 1)).map (fLn line)).length = k + 1 := by simp; omega
    refine ⟨by omega, by decide, ?_, ?_⟩
    · unfold roomy; simp; omega
    · refine back (k + 1, v + 1) (by show _ - (k + 1) < _ - k; omega) ?_ ?_ (by show k + 1 ≤ _; omega)
      · rw [wnext (by omega)]; simp; omega
      · rw [hnx]; rfl
  · obtain rfl : k = pend.length := by omega
    rw [List.take_length] at *
    simp only [lamplighterref04_keep.C, go_sem, Nat.reduceEqDiff, Nat.reduceLT, Nat.reduceAdd, Nat.reduceSub, Nat.reduceLeDiff, List.reduceReplicate, Int.reduceToNat, take_len _ (Nat.le_of_eq hml), hml]
    refine ⟨⟨⟨s1, s2, s3⟩, hrange⟩, ?_⟩
    unfold fenceM; simp only [h, if_true]
    rw [keptB_map, restB_map, ← keepW_app]
    exact post_val rfl rfl
def lamplighterref04_Sync.C : Contract
  | [.agg [.sl false (.ints .i64 vol), .sl false (.ints .i64 per), .sl false (.pends pend)]] => some (false, pD (smallM vol per pend) (fenceM fAll (checkB vol per pend) vol per pend))
  | _ => none
set_option maxRecDepth 20000 in
theorem lamplighterref04_Sync.spec : FSpec Try.prog 24 lamplighterref04_Sync.C := by
  refine FSpec.of (ctx_ok (F := [(28, lamplighterref04_Check.C)]) (S := []) (by simpa using lamplighterref04_Check.spec) (by simp) lamplighterref04_Sync.loops) lamplighterref04_Sync.at lamplighterref04_Sync.nm lamplighterref04_Sync.bd ?_
  intro vs b S v news e hS
  unfold lamplighterref04_Sync.C at e
  split at e
  rotate_left
  · cases e
  cases e
  rw [lamplighterref04_Sync.eq]
  unfold lamplighterref04_Sync.H
  simp (maxSteps := 4000000) only [go_sem, Nat.reduceEqDiff, Nat.reduceLT, Nat.reduceAdd, Nat.reduceSub, Nat.reduceLeDiff, List.reduceReplicate, Int.reduceToNat, lamplighterref04_Check.C]
  rename_i vol per pend
  refine ⟨hS, fun h => ?_, fun h => ?_⟩
  · unfold fenceM; rw [h]; exact post_val rfl rfl
  have e1 : keepW fAll pend per = vol := by
    rw [keepW_app, show pend.filter fAll = pend from List.filter_eq_self.2 fun _ _ => rfl]; exact (check_iff.1 h).eq
  have e2 : keepP fAll pend = [] := List.filter_eq_nil_iff.2 fun _ _ => by simp [fAll]
  unfold fenceM; simp only [h, if_true, e1, e2]
  exact post_val rfl rfl
/-- how many of a line -/
def cntL (L : Int) (l : List Pend) : Nat := (l.filter (fLn L)).length
theorem cntL_snoc (L : Int) (l : List Pend) (p : Pend) : cntL L (l ++ [p]) = cntL L l + (if lineOf p.at_ = L then 1 else 0) := by
  unfold cntL fLn
  rw [List.filter_append, List.length_append]
  by_cases e : lineOf p.at_ = L <;> simp [e]
/-- those that a crash keeps, told one by one -/
def thoseL (keep : List Int) : List Pend → List Pend → List Bool
  | _, [] => []
  | pre, p :: r => decide ((cntL (lineOf p.at_) pre : Int) < leftF keep (lineOf p.at_)) :: thoseL keep (pre ++ [p]) r
theorem thoseL_len (keep : List Int) : ∀ (r pre : List Pend), (thoseL keep pre r).length = r.length
  | [], _ => rfl
  | p :: r, pre => by simp [thoseL, thoseL_len keep r]
theorem thoseL_crash (keep : List Int) : ∀ (r pre : List Pend) (left : Int → Int), (∀ j, (left j).toNat = (leftF keep j).toNat - cntL j pre) → keptB (thoseL keep pre r) r = crashK r left
  | [], _, _, _ => rfl
  | p :: r, pre, left, h => by
    have ih := thoseL_crash keep r (pre ++ [p]) (lessL p left) fun j => by
      rw [cntL_snoc]
      have := h j
      unfold lessL
      by_cases e : lineOf p.at_ = j
      · subst e
        rw [if_pos rfl, if_pos rfl]
        split <;> omega
      · rw [if_neg (fun h => e h.symm), if_neg e]; omega
    have hb : decide ((cntL (lineOf p.at_) pre : Int) < leftF keep (lineOf p.at_)) = decide (0 < left (lineOf p.at_)) := by
      have := h (lineOf p.at_)
      exact decide_eq_decide.2 ⟨fun h => by omega, fun h => by omega⟩
    rw [thoseL, crashK, hb]
    cases decide (0 < left (lineOf p.at_)) <;> simp [keptB, ih]
theorem thoseL_append (keep : List Int) : ∀ (a b pre : List Pend), thoseL keep pre (a ++ b) = thoseL keep pre a ++ thoseL keep (pre ++ a) b
  | [], b, pre => by simp [thoseL]
  | p :: a, b, pre => by
    rw [List.cons_append, thoseL, thoseL_append keep a b, thoseL, List.cons_append, List.append_assoc]; rfl
def lamplighterref04_Crash.C : Contract
  | [.agg [.sl false (.ints .i64 vol), .sl false (.ints .i64 per), .sl false (.pends pend)], .sl _ (.ints .i64 keep)] => some (false, pD (smallM vol per pend ∧ roomy keep.length) (crashM (checkB vol per pend) keep per pend))
  | _ => none
set_option maxRecDepth 20000 in
theorem lamplighterref04_Crash.spec : FSpec Try.prog 25 lamplighterref04_Crash.C := by
  refine FSpec.of (ctx_ok (F := [(28, lamplighterref04_Check.C), (43, lamplighterref04_keep.C)]) (S := []) (by simpa using ⟨lamplighterref04_Check.spec, lamplighterref04_keep.spec⟩) (by simp) lamplighterref04_Crash.loops) lamplighterref04_Crash.at lamplighterref04_Crash.nm lamplighterref04_Crash.bd ?_
  intro vs b S v news e hS
  unfold lamplighterref04_Crash.C at e
  split at e
  rotate_left
  · cases e
  cases e
  rw [lamplighterref04_Crash.eq]
  unfold lamplighterref04_Crash.H
  simp (maxSteps := 4000000) only [go_sem, Nat.reduceEqDiff, Nat.reduceLT, Nat.reduceAdd, Nat.reduceSub, Nat.reduceLeDiff, List.reduceReplicate, Int.reduceToNat, lamplighterref04_Check.C, lamplighterref04_keep.C]
  rename_i vol per pend _ keep
  obtain ⟨hS, hr⟩ := hS
  refine ⟨hS, fun h => ?_, fun h => ?_⟩
  · unfold crashM; rw [h]; exact post_val rfl rfl
  have hrange := check_range h
  have hsz := (check_iff.1 h).sz
  have hln := (check_iff.1 h).len
  obtain ⟨s1, s2, s3⟩ := hS
  unfold roomy at s1 s2 s3 hr
  rw [joinW_eq]
  unfold lamplighterref04_Crash.L1
  refine loop2 (σ := Nat × Nat) (fun s => .sref false 1 s.2 0 s.1) (fun s => .int .i64 s.1) (fun s => [.box (memV vol per pend), .row .own s.2 (.bools (thoseL keep [] (pend.take s.1)))]) (fun s => pend.length - s.1) (fun s => s.1 ≤ pend.length) (0, 0) rfl rfl (Nat.zero_le _) ?_
  rintro I back ⟨k, v⟩ hk
  simp only [] at hk ⊢
  have hml : (thoseL keep [] (pend.take k)).length = k := by rw [thoseL_len]; simp; omega
  simp only [go_sem, Nat.reduceEqDiff, Nat.reduceLT, Nat.reduceAdd, Nat.reduceSub, Nat.reduceLeDiff, List.reduceReplicate, Int.reduceToNat, hml]
  refine ⟨fun hlt => ?_, fun hge => ?_⟩
  · have hkl : k < pend.length := by omega
    have hrp := hrange _ (getD_mem pend k ⟨0, 0, false⟩ hkl)
    have hnx : thoseL keep [] (pend.take (k + 1)) = thoseL keep [] (pend.take k) ++ [decide ((cntL (lineOf (pend.getD k ⟨0, 0, false⟩).at_) (pend.take k) : Int) < leftF keep (lineOf (pend.getD k ⟨0, 0, false⟩).at_))] := by rw [take_next pend k ⟨0, 0, false⟩ hkl, thoseL_append]; rfl
    generalize pend.getD k ⟨0, 0, false⟩ = p at *
    refine ⟨by omega, by decide, ?_⟩
    rw [joinW_eq]
    unfold lamplighterref04_Crash.L2
    refine loop2 (σ := Nat) (fun j => .int .i64 (cntL (lineOf p.at_) (pend.take j) : Nat)) (fun j => .int .i64 j) (fun _ => [.box (memV vol per pend), .row .own v (.bools (thoseL keep [] (pend.take k)))]) (fun j => k - j) (fun j => j ≤ k) 0 rfl rfl (Nat.zero_le _) ?_
    rintro I2 back2 j hj
    simp only [go_sem, Nat.reduceEqDiff, Nat.reduceLT, Nat.reduceAdd, Nat.reduceSub, Nat.reduceLeDiff, List.reduceReplicate, Int.reduceToNat, hml]
    have hc0 : ∀ j, j ≤ pend.length → cntL (lineOf p.at_) (pend.take j) ≤ j := fun j hj => Nat.le_trans (List.length_filter_le _ _) (by simp; omega)
    refine ⟨fun hjk => ⟨by omega, by decide, ?_⟩, fun hjk => ?_⟩
    · have hcn := cntL_snoc (lineOf p.at_) (pend.take j) (pend.getD j ⟨0, 0, false⟩)
      rw [← take_next pend j ⟨0, 0, false⟩ (by omega)] at hcn
      have hcj := hc0 j (by omega)
      rw [joinW_eq]
      refine ⟨fun hl => ?_, fun hl => ?_⟩
      · have hl : lineOf (pend.getD j ⟨0, 0, false⟩).at_ = lineOf p.at_ := hl
        rw [if_pos hl] at hcn
        simp only [go_sem, Nat.reduceEqDiff, Nat.reduceLT, Nat.reduceAdd, Nat.reduceSub, Nat.reduceLeDiff, List.reduceReplicate, Int.reduceToNat]
        refine back2 (j + 1) (by omega) ?_ rfl (by omega)
        rw [wnext (by omega), wnext (by omega), hcn]
      · have hl : ¬ lineOf (pend.getD j ⟨0, 0, false⟩).at_ = lineOf p.at_ := hl
        rw [if_neg hl] at hcn
        simp only [go_sem, Nat.reduceEqDiff, Nat.reduceLT, Nat.reduceAdd, Nat.reduceSub, Nat.reduceLeDiff, List.reduceReplicate, Int.reduceToNat]
        refine back2 (j + 1) (by omega) ?_ rfl (by omega)
        rw [wnext (by omega), hcn]; rfl
    · obtain rfl : j = k := by omega
      have hL : lineOf p.at_ = p.at_ / 8 := lineOf_eq (by omega) (by omega)
      have hw : IntKind.i64.wrap ((keep.length : Int) - 1) = (keep.length : Int) - 1 := w64 (by omega) (by omega)
      have hdec : (decide (lineOf p.at_ < (keep.length : Int)) && decide ((cntL (lineOf p.at_) (pend.take j) : Int) < keep.getD (if (keep.length : Int) - 1 < lineOf p.at_ then (keep.length : Int) - 1 else lineOf p.at_).toNat 0)) = decide ((cntL (lineOf p.at_) (pend.take j) : Int) < leftF keep (lineOf p.at_)) := by
        unfold leftF
        have h0 : 0 ≤ lineOf p.at_ := by omega
        rw [if_pos h0]
        by_cases e : lineOf p.at_ < (keep.length : Int)
        · rw [if_neg (show ¬ (keep.length : Int) - 1 < lineOf p.at_ by omega), decide_eq_true e, Bool.true_and]
        · rw [decide_eq_false e, Bool.false_and, List.getD_eq_getElem?_getD, List.getElem?_eq_none (by omega)]
          exact (decide_eq_false (by simp)).symm
      rw [hw]
      have hl1 : (thoseL keep [] (pend.take (j + 1))).length = j + 1 := by rw [thoseL_len]; simp; omega
      have hfold : IntKind.i64.wrap (p.at_.tdiv 8) = lineOf p.at_ := rfl
      rw [hfold, hdec, ← hnx, hl1]
      refine ⟨fun hlt => ?_, by unfold roomy; omega, back (j + 1, v + 1) (by show _ - (j + 1) < _ - j; omega) (by rw [wnext (by omega)]) rfl (by show j + 1 ≤ _; omega)⟩
      rw [hL] at hlt ⊢
      split <;> omega
  · obtain rfl : k = pend.length := by omega
    rw [List.take_length] at *
    simp only [lamplighterref04_keep.C, go_sem, Nat.reduceEqDiff, Nat.reduceLT, Nat.reduceAdd, Nat.reduceSub, Nat.reduceLeDiff, List.reduceReplicate, Int.reduceToNat, take_len _ (Nat.le_of_eq hml), hml]
    refine ⟨⟨⟨s1, s2, s3⟩, hrange⟩, ?_⟩
    rw [thoseL_crash keep pend [] (leftF keep) fun j => rfl]
    unfold crashM; simp only [h, if_true]
    exact post_val rfl rfl
end Lam
namespace Lam
open Go Go.Proofs
set_option linter.unusedVariables false
def lamplighterlaw04_PmemCrash.loops : Nat → LInfo
  | 2 => ⟨[], [], [], [(4, none), (3, some [22, 25]), (2, none), (3, some [27, 30])], []⟩
  | 8 => ⟨[10, 11], [true, false], [1, 2, 5, 6, 7, 8, 9], [], []⟩
  | 14 => ⟨[15], [false], [1, 2, 5, 6, 7, 8, 9, 12, 13, 14], [], []⟩
  | 20 => ⟨[16, 17], [false, false], [1, 2, 5, 6, 7, 8, 9, 12, 13, 14, 15], [], []⟩
  | 22 => ⟨[], [], [], [(10, none), (2, some [97, 99])], []⟩
  | 25 => ⟨[], [], [], [(2, none), (2, some [118, 120]), (2, none), (2, some [122, 124]), (2, none), (2, some [126, 128]), (2, none), (3, some [130, 133]), (2, none), (4, some [135, 139]), (2, none), (4, some [141, 145])], []⟩
  | _ => ⟨[], [], [], [], []⟩
def lamplighterlaw04_PmemCrash.L1 (c : Ctx) (J3 : AV → AV → AV → AV → AV → AV → AV → AV → List AObj → Prop) (K : AOut → List AObj → Prop) (lv : List AV) (h0 : List AObj) (n0 : Nat) (c1 : AV) (c2 : AV) (c5 : AV) (c6 : AV) (c7 : AV) (c8 : AV) (c9 : AV) : Prop :=
  ∃ I : Nat → List AV → List AObj → Prop, (∃ n, I n lv h0) ∧ ∀ n h, ∀ t10, ∀ t11, I n [t10, t11] h →
    runD (fieldAddrD T_api_Mem c2 0) h fun t45 h =>
    runD (fitD T_sl_int (loadD h t45)) h fun t46 h =>
    runD (lenD T_sl_int h t46) h fun t47 h =>
    runD (binD T_int .quo t47 (.int .i64 8)) h fun t48 h =>
    runD (binD T_int .lss t11 t48) h fun t49 h =>
    condW t49
    (runD (buildSliceD T_sl_int 1 [(0, (.int .i64 100))] h.length) h fun t53 h =>
    runDM (appendD T_sl_int h t10 t53 h.length) (appendH T_sl_int h t10 t53) h fun t54 h =>
    runD (binD T_int .add t11 (.int .i64 1)) h fun t51 h =>
    (∃ m, m < n ∧ I m (AV.norms n0 h [t54, t51]) (normH n0 h)) ∧ AV.norms n0 h [c1, c2, c5, c6, c7, c8, c9] = [c1, c2, c5, c6, c7, c8, c9])
    (J3 c1 c2 c5 c6 c7 c8 c9 t10 h)
def lamplighterlaw04_PmemCrash.L3 (c : Ctx) (J7 : AV → AV → AV → AV → AV → AV → AV → AV → AV → AV → AV → List AObj → Prop) (K : AOut → List AObj → Prop) (lv : List AV) (h0 : List AObj) (n0 : Nat) (c1 : AV) (c2 : AV) (c5 : AV) (c6 : AV) (c7 : AV) (c8 : AV) (c9 : AV) (c12 : AV) (c13 : AV) (c14 : AV) (c15 : AV) : Prop :=
  ∃ I : Nat → List AV → List AObj → Prop, (∃ n, I n lv h0) ∧ ∀ n h, ∀ t16, ∀ t17, I n [t16, t17] h →
    runD (fieldAddrD T_api_Mem c2 2) h fun t82 h =>
    runD (fitD T_sl_api_Pending (loadD h t82)) h fun t83 h =>
    runD (lenD T_sl_api_Pending h t83) h fun t84 h =>
    runD (binD T_int .lss t17 t84) h fun t85 h =>
    condW t85
    (runD (fieldAddrD T_api_Mem c2 2) h fun t88 h =>
    runD (fitD T_sl_api_Pending (loadD h t88)) h fun t89 h =>
    runD (indexAddrD T_sl_api_Pending h t89 t17) h fun t91 h =>
    runD (fieldAddrD T_api_Pending t91 0) h fun t92 h =>
    runD (fitD T_int (loadD h t92)) h fun t93 h =>
    runD (binD T_int .quo t93 (.int .i64 8)) h fun t94 h =>
    runD (binD T_int .eql t94 c15) h fun t96 h =>
    joinW (fun (J8 : AV → AV → List AObj → Prop) =>
    guardW t96 true
    (runD (binD T_int .gtr t16 (.int .i64 0)) h fun t99 h =>
      J8 (.bool true) t99 h)
    (J8 (.bool false) .und h))
    (fun t97 t99 h => runD (pickD t97 t99 (.bool false)) h fun t100 h =>
    joinW (fun (J9 : AV → List AObj → Prop) =>
    condW t100
    (runD (fieldAddrD T_api_Mem c2 2) h fun t102 h =>
      runD (fitD T_sl_api_Pending (loadD h t102)) h fun t103 h =>
      runD (indexAddrD T_sl_api_Pending h t103 t17) h fun t105 h =>
      runD (fieldAddrD T_api_Pending t105 0) h fun t106 h =>
      runD (fitD T_int (loadD h t106)) h fun t107 h =>
      runD (fieldAddrD T_api_Mem c2 2) h fun t108 h =>
      runD (fitD T_sl_api_Pending (loadD h t108)) h fun t109 h =>
      runD (indexAddrD T_sl_api_Pending h t109 t17) h fun t111 h =>
      runD (fieldAddrD T_api_Pending t111 1) h fun t112 h =>
      runD (fitD T_int (loadD h t112)) h fun t113 h =>
      runD (indexAddrD T_sl_int h c14 t107) h fun t114 h =>
      runH (storeH T_int h t114 t113) h fun _ h =>
      runD (binD T_int .sub t16 (.int .i64 1)) h fun t116 h =>
      J9 t116 h)
    (J9 t16 h))
    (fun t16 h => runD (binD T_int .add t17 (.int .i64 1)) h fun t87 h =>
    (∃ m, m < n ∧ I m (AV.norms n0 h [t16, t87]) (normH n0 h)) ∧ AV.norms n0 h [c1, c2, c5, c6, c7, c8, c9, c12, c13, c14, c15] = [c1, c2, c5, c6, c7, c8, c9, c12, c13, c14, c15])))
    (J7 c1 c2 c5 c6 c7 c8 c9 c12 c13 c14 c15 h)
def lamplighterlaw04_PmemCrash.L2 (c : Ctx) (J4 : AV → AV → AV → AV → AV → AV → AV → AV → AV → List AObj → Prop) (K : AOut → List AObj → Prop) (lv : List AV) (h0 : List AObj) (n0 : Nat) (c1 : AV) (c2 : AV) (c5 : AV) (c6 : AV) (c7 : AV) (c8 : AV) (c9 : AV) (c12 : AV) (c13 : AV) (c14 : AV) : Prop :=
  ∃ I : Nat → List AV → List AObj → Prop, (∃ n, I n lv h0) ∧ ∀ n h, ∀ t15, I n [t15] h →
    runD (fieldAddrD T_api_Mem c2 0) h fun t66 h =>
    runD (fitD T_sl_int (loadD h t66)) h fun t67 h =>
    runD (lenD T_sl_int h t67) h fun t68 h =>
    runD (binD T_int .quo t68 (.int .i64 8)) h fun t69 h =>
    runD (binD T_int .lss t15 t69) h fun t70 h =>
    condW t70
    (joinW (fun (J5 : AV → AV → AV → AV → AV → AV → AV → AV → AV → AV → AV → List AObj → Prop) =>
    runD (lenD T_sl_int h c1) h fun t75 h =>
    runD (binD T_int .lss t15 t75) h fun t76 h =>
    joinW (fun (J6 : AV → List AObj → Prop) =>
    condW t76
    (runD (indexAddrD T_sl_int h c1 t15) h fun t79 h =>
      runD (fitD T_int (loadD h t79)) h fun t80 h =>
      J6 t80 h)
    (J6 (.int .i64 0) h))
    (fun t16 h => joinW (fun (J7 : AV → AV → AV → AV → AV → AV → AV → AV → AV → AV → AV → List AObj → Prop) =>
    promV [false, false] [t16, (.int .i64 0)] h fun lv h => lamplighterlaw04_PmemCrash.L3 c J7 K (AV.norms h.length h lv) (normH h.length h) h.length (AV.norm h.length h c1) (AV.norm h.length h c2) (AV.norm h.length h c5) (AV.norm h.length h c6) (AV.norm h.length h c7) (AV.norm h.length h c8) (AV.norm h.length h c9) (AV.norm h.length h c12) (AV.norm h.length h c13) (AV.norm h.length h c14) (AV.norm h.length h t15))
    (fun t1 t2 t5 t6 t7 t8 t9 t12 t13 t14 t15 h => J5 t1 t2 t5 t6 t7 t8 t9 t12 t13 t14 t15 h)))
    (fun t1 t2 t5 t6 t7 t8 t9 t12 t13 t14 t15 h => runD (binD T_int .add t15 (.int .i64 1)) h fun t72 h =>
    (∃ m, m < n ∧ I m (AV.norms n0 h [t72]) (normH n0 h)) ∧ AV.norms n0 h [t1, t2, t5, t6, t7, t8, t9, t12, t13, t14] = [c1, c2, c5, c6, c7, c8, c9, c12, c13, c14]))
    (J4 c2 c5 c6 c7 c8 c9 c12 c13 c14 h)
def lamplighterlaw04_PmemCrash.H (c : Ctx) (t0 : AV) (t1 : AV) (h : List AObj) (K : AOut → List AObj → Prop) : Prop :=
  boxW T_api_Mem t0 h fun t2 h =>
  callW c (.fn (.func 9) [] []) [] h (fun t18 h =>
  runD (fitD T_api_Mem (loadD h t2)) h fun t19 h =>
  callW c (.fn (.func 10) [] []) [t19] h (fun t20 h =>
  runD (unD .not t20) h fun t21 h =>
  joinW (fun (J1 : AV → AV → List AObj → Prop) =>
  guardW t21 false
  (runD (fitD T_api_Mem (loadD h t2)) h fun t23 h =>
    callW c (.fn (.func 11) [] []) [t23] h (fun t24 h =>
    runD (unD .not t24) h fun t25 h =>
    J1 (.bool false) t25 h)
    (fun v h => K (.pan v) h))
  (J1 (.bool true) .und h))
  (fun t22 t25 h => runD (pickD t22 (.bool true) t25) h fun t26 h =>
  joinW (fun (J2 : AV → AV → List AObj → Prop) =>
  guardW t26 false
  (runD (lenD T_sl_int h t1) h fun t29 h =>
    runD (binD T_int .gtr t29 (.int .i64 300)) h fun t30 h =>
    J2 (.bool false) t30 h)
  (J2 (.bool true) .und h))
  (fun t27 t30 h => runD (pickD t27 (.bool true) t30) h fun t31 h =>
  condW t31
  (K (.ret t18) h)
  (runD (fitD T_api_Mem (loadD h t2)) h fun t34 h =>
  callW c (.fn (.func 15) [] []) [t34, t1] h (fun t36 h =>
  runD (extractD t36 0) h fun t37 h =>
  runD (extractD t36 1) h fun t38 h =>
  runD (fitD T_api_Mem (loadD h t2)) h fun t40 h =>
  callW c (.fn (.func 15) [] []) [t40, (.sl true (.ints .i64 []))] h (fun t41 h =>
  runD (extractD t41 0) h fun t42 h =>
  runD (extractD t41 1) h fun t43 h =>
  joinW (fun (J3 : AV → AV → AV → AV → AV → AV → AV → AV → List AObj → Prop) =>
  promV [true, false] [(.sl true (.ints .i64 [])), (.int .i64 0)] h fun lv h => lamplighterlaw04_PmemCrash.L1 c J3 K (AV.norms h.length h lv) (normH h.length h) h.length (AV.norm h.length h t1) (AV.norm h.length h t2) (AV.norm h.length h t18) (AV.norm h.length h t37) (AV.norm h.length h t38) (AV.norm h.length h t42) (AV.norm h.length h t43))
  (fun t1 t2 t5 t6 t7 t8 t9 t10 h => runD (fitD T_api_Mem (loadD h t2)) h fun t56 h =>
  callW c (.fn (.func 15) [] []) [t56, t10] h (fun t58 h =>
  runD (extractD t58 0) h fun t59 h =>
  runD (extractD t58 1) h fun t60 h =>
  runD (buildSliceD T_sl_int 0 [] h.length) h fun t61 h =>
  runD (fieldAddrD T_api_Mem t2 1) h fun t62 h =>
  runD (fitD T_sl_int (loadD h t62)) h fun t63 h =>
  runDM (appendD T_sl_int h t61 t63 h.length) (appendH T_sl_int h t61 t63) h fun t64 h =>
  joinW (fun (J4 : AV → AV → AV → AV → AV → AV → AV → AV → AV → List AObj → Prop) =>
  promV [false] [(.int .i64 0)] h fun lv h => lamplighterlaw04_PmemCrash.L2 c J4 K (AV.norms h.length h lv) (normH h.length h) h.length (AV.norm h.length h t1) (AV.norm h.length h t2) (AV.norm h.length h t5) (AV.norm h.length h t6) (AV.norm h.length h t7) (AV.norm h.length h t8) (AV.norm h.length h t9) (AV.norm h.length h t59) (AV.norm h.length h t60) (AV.norm h.length h t64))
  (fun t2 t5 t6 t7 t8 t9 t12 t13 t14 h => joinW (fun (J10 : AV → AV → List AObj → Prop) =>
  guardW t5 true
  (runD (binD T_api_Errno .eql t7 (.int .i64 0)) h fun t120 h =>
    J10 (.bool true) t120 h)
  (J10 (.bool false) .und h))
  (fun t118 t120 h => runD (pickD t118 t120 (.bool false)) h fun t121 h =>
  joinW (fun (J11 : AV → AV → List AObj → Prop) =>
  guardW t121 true
  (runD (binD T_api_Errno .eql t9 (.int .i64 0)) h fun t124 h =>
    J11 (.bool true) t124 h)
  (J11 (.bool false) .und h))
  (fun t122 t124 h => runD (pickD t122 t124 (.bool false)) h fun t125 h =>
  joinW (fun (J12 : AV → AV → List AObj → Prop) =>
  guardW t125 true
  (runD (binD T_api_Errno .eql t13 (.int .i64 0)) h fun t128 h =>
    J12 (.bool true) t128 h)
  (J12 (.bool false) .und h))
  (fun t126 t128 h => runD (pickD t126 t128 (.bool false)) h fun t129 h =>
  joinW (fun (J13 : AV → AV → List AObj → Prop) =>
  guardW t129 true
  (callW c (.fn (.func 16) [] []) [t6, t14] h (fun t133 h =>
    J13 (.bool true) t133 h)
    (fun v h => K (.pan v) h))
  (J13 (.bool false) .und h))
  (fun t130 t133 h => runD (pickD t130 t133 (.bool false)) h fun t134 h =>
  joinW (fun (J14 : AV → AV → List AObj → Prop) =>
  guardW t134 true
  (runD (fieldAddrD T_api_Mem t2 1) h fun t137 h =>
    runD (fitD T_sl_int (loadD h t137)) h fun t138 h =>
    callW c (.fn (.func 16) [] []) [t8, t138] h (fun t139 h =>
    J14 (.bool true) t139 h)
    (fun v h => K (.pan v) h))
  (J14 (.bool false) .und h))
  (fun t135 t139 h => runD (pickD t135 t139 (.bool false)) h fun t140 h =>
  joinW (fun (J15 : AV → AV → List AObj → Prop) =>
  guardW t140 true
  (runD (fieldAddrD T_api_Mem t2 0) h fun t143 h =>
    runD (fitD T_sl_int (loadD h t143)) h fun t144 h =>
    callW c (.fn (.func 16) [] []) [t12, t144] h (fun t145 h =>
    J15 (.bool true) t145 h)
    (fun v h => K (.pan v) h))
  (J15 (.bool false) .und h))
  (fun t141 t145 h => runD (pickD t141 t145 (.bool false)) h fun t146 h =>
  K (.ret t146) h))))))))
  (fun v h => K (.pan v) h)))
  (fun v h => K (.pan v) h))
  (fun v h => K (.pan v) h)))))
  (fun v h => K (.pan v) h))
  (fun v h => K (.pan v) h)
theorem lamplighterlaw04_PmemCrash.eq (F : List (FuncId × Contract)) (S : List (FuncId × Con)) (t0 t1 : AV) (h : List AObj) (K : AOut → List AObj → Prop) : funW (ctx F S lamplighterlaw04_PmemCrash.loops) Try.f4 [t0, t1] h K = lamplighterlaw04_PmemCrash.H (ctx F S lamplighterlaw04_PmemCrash.loops) t0 t1 h K := by kernel_rfl
theorem lamplighterlaw04_PmemCrash.at : Try.prog.funcs[4]? = some Try.f4 := by kernel_rfl
theorem lamplighterlaw04_PmemCrash.nm : (Try.f4.name == "runtime.NumGoroutine") = false := by kernel_rfl
theorem lamplighterlaw04_PmemCrash.bd : Try.f4.body.isNone = false := by kernel_rfl
end Lam
namespace Lam
open Go Go.Proofs
set_option linter.unusedVariables false
set_option linter.unnecessarySimpa false
set_option linter.unusedSimpArgs false
theorem crash_L3 (c : Ctx) (J : AV → AV → AV → AV → AV → AV → AV → AV → AV → AV → AV → List AObj → Prop) (K : AOut → List AObj → Prop) (vol per : List Int) (pend : List Pend) (keep X Y W : List Int) (v i n : Nat) (l : Int) (ok : OkM vol per pend) (h1 : vol.length ≤ 300) (h2 : pend.length ≤ 100) (hl : l < 9223372036854775808) (hW : W.length = per.length)
    (hJ : ∀ A, A = app ((pend.filter (fLn i)).take l.toNat) W → J (.sl false (.ints .i64 keep)) (.ptr 0 []) (.bool true) (.sl false (.ints .i64 X)) (.int .i64 0) (.sl false (.ints .i64 per)) (.int .i64 0) (.sl false (.ints .i64 Y)) (.int .i64 0) (.sref false 3 0 0 per.length) (.int .i64 i)
      [.box (memV vol per pend), .row .fro v (.ints .i64 (List.replicate n 100)), .row .own 0 (.ints .i64 []), .row .own 0 (.ints .i64 A)]) :
    lamplighterlaw04_PmemCrash.L3 c J K [.int .i64 l, .int .i64 0] [.box (memV vol per pend), .row .fro v (.ints .i64 (List.replicate n 100)), .row .own 0 (.ints .i64 []), .row .own 0 (.ints .i64 W)] 4
      (.sl false (.ints .i64 keep)) (.ptr 0 []) (.bool true) (.sl false (.ints .i64 X)) (.int .i64 0) (.sl false (.ints .i64 per)) (.int .i64 0) (.sl false (.ints .i64 Y)) (.int .i64 0) (.sref false 3 0 0 per.length) (.int .i64 i) := by
  have hlen := ok.len
  unfold lamplighterlaw04_PmemCrash.L3
  refine loop2 (σ := Nat × Int) (fun s => .int .i64 s.2) (fun s => .int .i64 s.1) (fun s => [.box (memV vol per pend), .row .fro v (.ints .i64 (List.replicate n 100)), .row .own 0 (.ints .i64 []), .row .own 0 (.ints .i64 (app (((pend.take s.1).filter (fLn i)).take l.toNat) W))]) (fun s => pend.length - s.1)
    (fun s => s.1 ≤ pend.length ∧ s.2 ≤ l ∧ s.2.toNat = l.toNat - ((pend.take s.1).filter (fLn i)).length) (0, l) rfl (by simp [app]) ⟨Nat.zero_le _, Int.le_refl _, rfl⟩ ?_
  rintro I back ⟨k, q⟩ ⟨hk, hql, hq⟩
  simp only [] at hk hql hq ⊢
  simp only [go_sem, Nat.reduceEqDiff, Nat.reduceLT, Nat.reduceAdd, Nat.reduceSub, Nat.reduceLeDiff, List.reduceReplicate, Int.reduceToNat, app_len, hW]
  refine ⟨fun hlt => ?_, fun hge => ?_⟩
  · have hkl : k < pend.length := by omega
    have hr := ok.rng _ (getD_mem pend k ⟨0, 0, false⟩ hkl)
    have hnx := take_next pend k ⟨0, 0, false⟩ hkl
    generalize pend.getD k ⟨0, 0, false⟩ = p at *
    refine ⟨by omega, by decide, ?_⟩
    rw [joinW_eq]
    have hfold : IntKind.i64.wrap (p.at_.tdiv 8) = lineOf p.at_ := rfl
    rw [hfold]
    refine ⟨fun hc => ?_, fun hc => ?_⟩
    · rw [Bool.and_eq_true, decide_eq_true_eq, decide_eq_true_eq] at hc
      have hf : fLn i p = true := decide_eq_true hc.1
      have hfl : ((pend.take (k + 1)).filter (fLn i)) = (pend.take k).filter (fLn i) ++ [p] := by rw [hnx, List.filter_append]; simp [hf]
      have hcl : ((pend.take k).filter (fLn i)).length < l.toNat := by omega
      have htk : ((pend.take (k + 1)).filter (fLn i)).take l.toNat = ((pend.take k).filter (fLn i)).take l.toNat ++ [p] := by
        have e1 : ((pend.take k).filter (fLn i)).take l.toNat = (pend.take k).filter (fLn i) := List.take_of_length_le (by omega)
        rw [hfl, e1, List.take_of_length_le (by rw [List.length_append, List.length_singleton]; omega)]
      simp only [go_sem, Nat.reduceEqDiff, Nat.reduceLT, Nat.reduceAdd, Nat.reduceSub, Nat.reduceLeDiff, List.reduceReplicate, Int.reduceToNat]
      refine ⟨by omega, by omega, by omega, by omega, back (k + 1, q - 1) (by show _ - (k + 1) < _ - k; omega) ?_ ?_ ⟨by show k + 1 ≤ _; omega, by show q - 1 ≤ l; omega, ?_⟩⟩
      · rw [wnext (by omega), w64 (by omega) (by omega)]
      · rw [htk, app_append]; rfl
      · show (q - 1).toNat = _ - ((pend.take (k + 1)).filter (fLn i)).length
        rw [hfl, List.length_append, List.length_singleton]; omega
    · rw [Bool.and_eq_false_iff, decide_eq_false_iff_not, decide_eq_false_iff_not] at hc
      simp only [go_sem, Nat.reduceEqDiff, Nat.reduceLT, Nat.reduceAdd, Nat.reduceSub, Nat.reduceLeDiff, List.reduceReplicate, Int.reduceToNat]
      refine back (k + 1, q) (by show _ - (k + 1) < _ - k; omega) (by rw [wnext (by omega)]) ?_ ⟨by show k + 1 ≤ _; omega, hql, ?_⟩
      · by_cases hf : lineOf p.at_ = i
        · have hf2 : fLn i p = true := decide_eq_true hf
          have hfl : ((pend.take (k + 1)).filter (fLn i)) = (pend.take k).filter (fLn i) ++ [p] := by rw [hnx, List.filter_append]; simp [hf2]
          have htk : ((pend.take (k + 1)).filter (fLn i)).take l.toNat = ((pend.take k).filter (fLn i)).take l.toNat := by
            rw [hfl, List.take_append_of_le_length (by omega)]
          rw [htk]; rfl
        · have hf2 : ¬ fLn i p = true := by unfold fLn; simpa using hf
          have hfl : ((pend.take (k + 1)).filter (fLn i)) = (pend.take k).filter (fLn i) := by rw [hnx, List.filter_append, List.filter_cons_of_neg hf2]; simp
          rw [hfl]; rfl
      · show q.toNat = _ - ((pend.take (k + 1)).filter (fLn i)).length
        by_cases hf : lineOf p.at_ = i
        · have hf2 : fLn i p = true := decide_eq_true hf
          have hfl : ((pend.take (k + 1)).filter (fLn i)) = (pend.take k).filter (fLn i) ++ [p] := by rw [hnx, List.filter_append]; simp [hf2]
          rw [hfl, List.length_append, List.length_singleton]; omega
        · have hf2 : ¬ fLn i p = true := by unfold fLn; simpa using hf
          have hfl : ((pend.take (k + 1)).filter (fLn i)) = (pend.take k).filter (fLn i) := by rw [hnx, List.filter_append, List.filter_cons_of_neg hf2]; simp
          rw [hfl]; exact hq
  · obtain rfl : k = pend.length := by omega
    rw [List.take_length]
    exact hJ _ rfl
abbrev PmemCrash_ctx : Ctx := ctx [(9, lamplighterlaw04_awake.C), (10, lamplighterref04_Few.C), (11, pmem_Check.C), (15, pmem_Crash.C), (16, lamplighterref02_Numbers.C)] [] lamplighterlaw04_PmemCrash.loops
set_option maxRecDepth 20000 in
theorem PmemCrash_vc (m_vol : List Int) (m_per : List Int) (m_pend : List Pend) (keep : List Int) (w_m_vol : wfL (.ints .i64 m_vol)) (n_m_vol : m_vol.length ≤ maxLen) (w_m_per : wfL (.ints .i64 m_per)) (n_m_per : m_per.length ≤ maxLen) (w_m_pend : wfL (.pends m_pend)) (n_m_pend : m_pend.length ≤ maxLen) (w_keep : wfL (.ints .i64 keep)) (n_keep : keep.length ≤ maxLen) : lamplighterlaw04_PmemCrash.H PmemCrash_ctx (.agg [(.sl false (.ints .i64 m_vol)), (.sl false (.ints .i64 m_per)), (.sl false (.pends m_pend))]) (.sl false (.ints .i64 keep)) [] Told := by
  unfold lamplighterlaw04_PmemCrash.H
  simp (maxSteps := 4000000) only [go_sem, Nat.reduceEqDiff, Nat.reduceLT, Nat.reduceAdd, Nat.reduceSub, Nat.reduceLeDiff, List.reduceReplicate, Int.reduceToNat, lamplighterlaw04_awake.C, lamplighterref04_Few.C, pmem_Check.C, pmem_Crash.C, lamplighterref02_Numbers.C]
  refine ⟨fun hf => ?_, fun _ => rfl, fun hg => ?_⟩
  · have := few_iff.1 hf
    unfold smallM roomy; omega
  simp only [Bool.or_eq_false_iff, Bool.not_eq_false', decide_eq_false_iff_not, few_iff, check_iff] at hg
  obtain ⟨⟨⟨f1, f2, f3⟩, ok⟩, hk⟩ := hg
  have sm := ok.small (by omega)
  have hi64 := wf_i64s w_keep
  have hkr : roomy keep.length := by unfold roomy; omega
  simp only [check_iff.2 ok, crashM_ok, crash_none ok, List.length_nil, go_sem, Nat.reduceEqDiff, Nat.reduceLT, Nat.reduceAdd, Nat.reduceSub, Nat.reduceLeDiff, List.reduceReplicate, Int.reduceToNat, pmem_Crash.C]
  refine ⟨⟨sm, hkr, hi64⟩, ⟨sm, by unfold roomy; omega, fun x hx => by cases hx⟩, ?_⟩
  rw [joinW_eq]
  unfold lamplighterlaw04_PmemCrash.L1
  have hlen := ok.len
  refine loop2 (σ := Nat × Nat) (fun s => .sref false 1 s.2 0 s.1) (fun s => .int .i64 s.1) (fun s => [.box (memV m_vol m_per m_pend), .row .own s.2 (.ints .i64 (List.replicate s.1 100))]) (fun s => m_vol.length / 8 - s.1) (fun s => s.1 ≤ m_vol.length / 8) (0, 0) rfl rfl (Nat.zero_le _) ?_
  rintro I back ⟨k, v⟩ hk8
  simp only [] at hk8 ⊢
  simp only [go_sem, Nat.reduceEqDiff, Nat.reduceLT, Nat.reduceAdd, Nat.reduceSub, Nat.reduceLeDiff, List.reduceReplicate, Int.reduceToNat, List.length_replicate]
  rw [wdiv8 (by omega)]
  refine ⟨by decide, fun hlt => ?_, fun hge => ?_⟩
  · have e : List.replicate k (100 : Int) ++ [100] = List.replicate (k + 1) 100 := by rw [List.replicate_succ']
    simp only [e, List.length_replicate]
    refine ⟨by unfold roomy; omega, back (k + 1, v + 1) (by show _ - (k + 1) < _ - k; omega) (by rw [wnext (by omega)]) rfl (by show k + 1 ≤ _; omega)⟩
  obtain rfl : k = m_vol.length / 8 := by omega
  have tk : (List.replicate (m_vol.length / 8) (100 : Int)).take (m_vol.length / 8) = List.replicate (m_vol.length / 8) 100 := take_len _ (by simp)
  simp only [tk, check_iff.2 ok, crashM_ok, crash_all ok (Nat.le_refl (m_vol.length / 8)) (c := 100) (by omega), go_sem, Nat.reduceEqDiff, Nat.reduceLT, Nat.reduceAdd, Nat.reduceSub, Nat.reduceLeDiff, List.reduceReplicate, Int.reduceToNat, pmem_Crash.C]
  refine ⟨⟨sm, by unfold roomy; omega, fun x hx => by rw [List.eq_of_mem_replicate hx]; decide⟩, by unfold roomy; omega, ?_⟩
  rw [joinW_eq]
  unfold lamplighterlaw04_PmemCrash.L2
  refine loop1 (σ := Nat) (fun i => .int .i64 i) (fun i => [.box (memV m_vol m_per m_pend), .row .fro v (.ints .i64 (List.replicate (m_vol.length / 8) 100)), .row .own 0 (.ints .i64 []), .row .own 0 (.ints .i64 (app (wants keep m_pend i) m_per))]) (fun i => m_vol.length / 8 - i) (fun i => i ≤ m_vol.length / 8) 0 rfl rfl (Nat.zero_le _) ?_
  intro I2 back2 i hi
  simp only [go_sem, Nat.reduceEqDiff, Nat.reduceLT, Nat.reduceAdd, Nat.reduceSub, Nat.reduceLeDiff, List.reduceReplicate, Int.reduceToNat, app_len]
  rw [wdiv8 (by omega)]
  refine ⟨by decide, fun hlt => ?_, fun hge => ?_⟩
  · have hil : i < m_vol.length / 8 := by omega
    have hlf := leftF_lt hi64 i
    have hfin : ∀ l, l = leftF keep i → ∀ A, A = app ((m_pend.filter (fLn i)).take l.toNat) (app (wants keep m_pend i) m_per) → ∃ m, m < m_vol.length / 8 - i ∧ I2 m [.int .i64 (IntKind.i64.wrap ((i : Int) + 1))] [.box (memV m_vol m_per m_pend), .row .fro v (.ints .i64 (List.replicate (m_vol.length / 8) 100)), .row .own 0 (.ints .i64 []), .row .own 0 (.ints .i64 A)] := by
      rintro l rfl A rfl
      refine back2 (i + 1) (by omega) (by rw [wnext (by omega)]) ?_ (by omega)
      rw [wants, app_append]; rfl
    rw [joinW_eq, joinW_eq]
    refine ⟨fun h1 => ⟨by omega, ?_⟩, fun h1 => ?_⟩
    · have hle : keep.getD i 0 = leftF keep i := by
        unfold leftF; rw [if_pos (by omega), Int.toNat_natCast]
      simp only [go_sem, Nat.reduceEqDiff, Nat.reduceLT, Nat.reduceAdd, Nat.reduceSub, Nat.reduceLeDiff, List.reduceReplicate, Int.reduceToNat]
      rw [joinW_eq]
      refine crash_L3 _ _ _ _ _ _ _ _ _ _ _ _ _ _ ok f1 f3 (by omega) (app_len _ _) fun A hA => ?_
      simp only [go_sem, Nat.reduceEqDiff, Nat.reduceLT, Nat.reduceAdd, Nat.reduceSub, Nat.reduceLeDiff, List.reduceReplicate, Int.reduceToNat]
      exact hfin _ hle A hA
    · have hle : 0 = leftF keep i := by
        unfold leftF; rw [if_pos (by omega), Int.toNat_natCast, List.getD_eq_getElem?_getD, List.getElem?_eq_none (by omega)]; rfl
      simp only [go_sem, Nat.reduceEqDiff, Nat.reduceLT, Nat.reduceAdd, Nat.reduceSub, Nat.reduceLeDiff, List.reduceReplicate, Int.reduceToNat]
      rw [joinW_eq]
      refine crash_L3 _ _ _ _ _ _ _ _ _ _ _ _ _ _ ok f1 f3 (by omega) (app_len _ _) fun A hA => ?_
      simp only [go_sem, Nat.reduceEqDiff, Nat.reduceLT, Nat.reduceAdd, Nat.reduceSub, Nat.reduceLeDiff, List.reduceReplicate, Int.reduceToNat]
      exact hfin _ hle A hA
  · obtain rfl : i = m_vol.length / 8 := by omega
    have r1 : roomy m_per.length := by unfold roomy; omega
    have r2 : roomy m_vol.length := by unfold roomy; omega
    rw [wants_crash ok]
    simp only [lamplighterref02_Numbers.C, take_len _ (Nat.le_of_eq (crashW_len keep m_per m_pend)), crashW_len, joinW_eq, guard_tt, guard_tf, guard_ft, guard_ff, Int.reduceEq, Int.reduceLT, Int.reduceLE, decide_false, decide_true, Bool.not_false, Bool.not_true, Bool.not_not, not_true_eq_false, not_false_eq_true, true_implies, false_implies, implies_true, and_true, true_and, reduceCtorEq, Bool.and_self, Bool.or_self, Bool.and_true, Bool.true_and, Bool.false_eq_true, if_true, if_false, go_sem, Nat.reduceEqDiff, Nat.reduceLT, Nat.reduceAdd, Nat.reduceSub, Nat.reduceLeDiff, List.reduceReplicate, Int.reduceToNat]
    exact ⟨r1, r1, r2, rfl⟩
theorem PmemCrash_ok : Ok Try.prog PmemCrash_ctx := ctx_ok (by simpa using ⟨lamplighterlaw04_awake.spec, lamplighterref04_Few.spec, pmem_Check.spec, pmem_Crash.spec, lamplighterref02_Numbers.spec⟩) (by simp) _
theorem PmemCrash_law (m : AV) (keep : Lst) (g_m : GoodV T_api_Mem m) (k_keep : keep.kind = (.int .i64)) (w_keep : wfL keep) (n_keep : keep.len ≤ maxLen) : funW PmemCrash_ctx Try.f4 [m, (.sl false keep)] [] Told := by
  obtain ⟨_, rfl, _, _, rfl, ⟨m_vol, rfl, k_m_vol, w_m_vol, n_m_vol⟩, _, _, rfl, ⟨m_per, rfl, k_m_per, w_m_per, n_m_per⟩, _, _, rfl, ⟨m_pend, rfl, k_m_pend, w_m_pend, n_m_pend⟩, rfl⟩ := g_m
  obtain ⟨m_vol, rfl⟩ := gkind_ints k_m_vol
  obtain ⟨m_per, rfl⟩ := gkind_ints k_m_per
  obtain ⟨m_pend, rfl⟩ := gkind_pends k_m_pend
  obtain ⟨keep, rfl⟩ := gkind_ints k_keep
  rw [PmemCrash_ctx, lamplighterlaw04_PmemCrash.eq]
  exact PmemCrash_vc m_vol m_per m_pend keep w_m_vol n_m_vol w_m_per n_m_per w_m_pend n_m_pend w_keep n_keep
end Lam
