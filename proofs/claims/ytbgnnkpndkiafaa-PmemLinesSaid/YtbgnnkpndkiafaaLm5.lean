/- What functions of the program come to, each proved from its code. -/
import Derived.Test.YtbgnnkpndkiafaaLm4
namespace Lam
open Go Go.Proofs
set_option linter.unusedVariables false
set_option linter.unnecessarySimpa false
set_option linter.unusedSimpArgs false
def lamplighterref04_Few.C : Contract
  | [.agg [.sl false (.ints .i64 vol), .sl false (.ints .i64 per), .sl false (.pends pend)]] => some (false, pD True (.bool (fewB vol per pend)))
  | _ => none
set_option maxRecDepth 20000 in
theorem lamplighterref04_Few.spec : FSpec Try.prog 10 lamplighterref04_Few.C := by
  refine FSpec.of (ctx_ok (F := []) (S := []) (by simp) (by simp) lamplighterref04_Few.loops) lamplighterref04_Few.at lamplighterref04_Few.nm lamplighterref04_Few.bd ?_
  intro vs b S v news e hS
  unfold lamplighterref04_Few.C at e
  split at e
  rotate_left
  · cases e
  cases e
  rw [lamplighterref04_Few.eq]
  unfold lamplighterref04_Few.H
  simp (maxSteps := 4000000) only [go_sem, Nat.reduceEqDiff, Nat.reduceLT, Nat.reduceAdd, Nat.reduceSub, Nat.reduceLeDiff, List.reduceReplicate, Int.reduceToNat]
  rename_i vol per pend
  have e1 : decide ((vol.length : Int) ≤ 300) = decide (vol.length ≤ 300) := decide_eq_decide.2 (by omega)
  have e2 : decide ((per.length : Int) ≤ 300) = decide (per.length ≤ 300) := decide_eq_decide.2 (by omega)
  have e3 : decide ((pend.length : Int) ≤ 100) = decide (pend.length ≤ 100) := decide_eq_decide.2 (by omega)
  rw [e1, e2, e3]
  exact post_val rfl rfl
def sameB (vol per : List Int) (pend : List Pend) (vol' per' : List Int) (pend' : List Pend) : Bool := decide (vol = vol') && decide (per = per') && decide (pend = pend')
theorem sameB_self (v p : List Int) (q : List Pend) : sameB v p q v p q = true := by simp [sameB]
def lamplighterref04_Same.C : Contract
  | [.agg [.sl false (.ints .i64 vol), .sl false (.ints .i64 per), .sl false (.pends pend)], .agg [.sl false (.ints .i64 vol'), .sl false (.ints .i64 per'), .sl false (.pends pend')]] => some (false, pD (smallM vol per pend) (.bool (sameB vol per pend vol' per' pend')))
  | _ => none
set_option maxRecDepth 20000 in
theorem lamplighterref04_Same.spec : FSpec Try.prog 17 lamplighterref04_Same.C := by
  refine FSpec.of (ctx_ok (F := [(16, lamplighterref02_Numbers.C)]) (S := []) (by simpa using lamplighterref02_Numbers.spec) (by simp) lamplighterref04_Same.loops) lamplighterref04_Same.at lamplighterref04_Same.nm lamplighterref04_Same.bd ?_
  intro vs b S v news e hS
  unfold lamplighterref04_Same.C at e
  split at e
  rotate_left
  · cases e
  cases e
  rw [lamplighterref04_Same.eq]
  unfold lamplighterref04_Same.H
  simp (maxSteps := 4000000) only [go_sem, Nat.reduceEqDiff, Nat.reduceLT, Nat.reduceAdd, Nat.reduceSub, Nat.reduceLeDiff, List.reduceReplicate, Int.reduceToNat, lamplighterref02_Numbers.C]
  rename_i vol per pend vol' per' pend'
  obtain ⟨s1, s2, s3⟩ := hS
  unfold roomy at s1 s2 s3
  refine ⟨s1, s2, fun hne => ?_, fun heq => ?_⟩
  · have : sameB vol per pend vol' per' pend' = false := by
      simp only [Bool.or_eq_true, Bool.not_eq_true', decide_eq_false_iff_not] at hne
      unfold sameB
      rcases hne with (h | h) | h
      · simp [h]
      · simp [h]
      · have : pend ≠ pend' := by rintro rfl; exact h rfl
        simp [this]
    rw [this]; exact post_val rfl rfl
  simp only [Bool.or_eq_false_iff, Bool.not_eq_false', decide_eq_true_eq] at heq
  obtain ⟨⟨h1, h2⟩, h3⟩ := heq
  have hlen : pend.length = pend'.length := by omega
  rw [joinW_eq]
  unfold lamplighterref04_Same.L1
  refine loop1 (fun k : Nat => .int .i64 k) (fun _ => [.box (memV vol per pend), .box (memV vol' per' pend')]) (fun k => pend.length - k) (fun k => k ≤ pend.length ∧ ∀ i, i < k → pend.getD i ⟨0, 0, false⟩ = pend'.getD i ⟨0, 0, false⟩) 0 rfl rfl ⟨Nat.zero_le _, fun i hi => absurd hi (Nat.not_lt_zero i)⟩ ?_
  rintro I back k ⟨hk, hall⟩
  simp only [go_sem, Nat.reduceEqDiff, Nat.reduceLT, Nat.reduceAdd, Nat.reduceSub, Nat.reduceLeDiff, List.reduceReplicate, Int.reduceToNat]
  have hd : ∀ a b : Pend, (decide (a.at_ = b.at_) && (decide (a.val = b.val) && a.fl == b.fl)) = decide (a = b) := fun a b => by
    cases a; cases b; rw [Bool.eq_iff_iff]; simp only [Bool.and_eq_true, Bool.or_eq_true, Bool.not_eq_true', Bool.not_eq_false', Bool.not_eq_true, decide_eq_true_eq, decide_eq_false_iff_not, Bool.or_eq_false_iff, Bool.and_eq_false_iff, beq_iff_eq]; simp
  rw [hd]
  refine ⟨fun hlt => ⟨by omega, by omega, fun h0 => ?_, fun h0 => ?_⟩, fun hge => ?_⟩
  · rw [decide_eq_false_iff_not] at h0
    have : pend ≠ pend' := by rintro rfl; exact h0 rfl
    have : sameB vol per pend vol' per' pend' = false := by unfold sameB; simp [this]
    rw [this]; exact post_val rfl rfl
  · rw [decide_eq_true_eq] at h0
    refine back (k + 1) (by omega) (by rw [wnext (by omega)]) rfl ⟨by omega, fun i hi => ?_⟩
    by_cases e : i = k
    · subst e; exact h0
    · exact hall i (by omega)
  · have h4 : pend = pend' := ext_d _ hlen fun i hi => hall i (by omega)
    have : sameB vol per pend vol' per' pend' = true := by unfold sameB; simp [h1, h2, h4]
    rw [this]; exact post_val rfl rfl
def lamplighterref04_set.C : Contract
  | [.sl _ (.ints .i64 l), .int .i64 at_, .int .i64 val] => some (false, pD (0 ≤ at_ ∧ at_ < (l.length : Int) ∧ roomy l.length) (.sl false (.ints .i64 (l.set at_.toNat val))))
  | _ => none
set_option maxRecDepth 20000 in
theorem lamplighterref04_set.spec : FSpec Try.prog 41 lamplighterref04_set.C := by
  refine FSpec.of (ctx_ok (F := []) (S := []) (by simp) (by simp) lamplighterref04_set.loops) lamplighterref04_set.at lamplighterref04_set.nm lamplighterref04_set.bd ?_
  intro vs b S v news e hS
  unfold lamplighterref04_set.C at e
  split at e
  rotate_left
  · cases e
  cases e
  rw [lamplighterref04_set.eq]
  unfold lamplighterref04_set.H
  simp (maxSteps := 4000000) only [go_sem, Nat.reduceEqDiff, Nat.reduceLT, Nat.reduceAdd, Nat.reduceSub, Nat.reduceLeDiff, List.reduceReplicate, Int.reduceToNat]
  rename_i l at_ val
  obtain ⟨h0, h1, hr⟩ := hS
  refine ⟨hr, ⟨h0, h1⟩, by omega, post_val ?_ rfl⟩
  simp only [go_sem, Nat.reduceEqDiff, Nat.reduceLT, Nat.reduceAdd, Nat.reduceSub, Nat.reduceLeDiff, List.reduceReplicate, Int.reduceToNat, take_len _ (Nat.le_of_eq List.length_set)]
def lamplighterref04_line.C : Contract
  | [.agg [.sl false (.ints .i64 vol), .sl false (.ints .i64 per), .sl false (.pends pend)], .int .i64 n] => some (false, pD (roomy vol.length) (.bool (decide (0 ≤ n) && decide (n < ((vol.length / 8 : Nat) : Int)))))
  | _ => none
set_option maxRecDepth 20000 in
theorem lamplighterref04_line.spec : FSpec Try.prog 42 lamplighterref04_line.C := by
  refine FSpec.of (ctx_ok (F := []) (S := []) (by simp) (by simp) lamplighterref04_line.loops) lamplighterref04_line.at lamplighterref04_line.nm lamplighterref04_line.bd ?_
  intro vs b S v news e hS
  unfold lamplighterref04_line.C at e
  split at e
  rotate_left
  · cases e
  cases e
  rw [lamplighterref04_line.eq]
  unfold lamplighterref04_line.H
  simp (maxSteps := 4000000) only [go_sem, Nat.reduceEqDiff, Nat.reduceLT, Nat.reduceAdd, Nat.reduceSub, Nat.reduceLeDiff, List.reduceReplicate, Int.reduceToNat]
  rename_i vol per pend n
  unfold roomy at hS
  rw [wdiv8 (by omega)]
  exact ⟨fun _ => by decide, post_val rfl rfl⟩
def lamplighterref04_New.C : Contract
  | [.sl _ (.ints .i64 l)] => some (false, pD (roomy l.length) (newM l))
  | _ => none
set_option maxRecDepth 20000 in
theorem lamplighterref04_New.spec : FSpec Try.prog 27 lamplighterref04_New.C := by
  refine FSpec.of (ctx_ok (F := []) (S := []) (by simp) (by simp) lamplighterref04_New.loops) lamplighterref04_New.at lamplighterref04_New.nm lamplighterref04_New.bd ?_
  intro vs b S v news e hS
  unfold lamplighterref04_New.C at e
  split at e
  rotate_left
  · cases e
  cases e
  rw [lamplighterref04_New.eq]
  unfold lamplighterref04_New.H
  simp (maxSteps := 4000000) only [go_sem, Nat.reduceEqDiff, Nat.reduceLT, Nat.reduceAdd, Nat.reduceSub, Nat.reduceLeDiff, List.reduceReplicate, Int.reduceToNat]
  rename_i l
  have e : (decide (4096 < (l.length : Int)) || !decide ((l.length : Int).tmod 8 = 0)) = !szB l.length := by
    unfold szB
    rw [Bool.eq_iff_iff]; simp only [Bool.and_eq_true, Bool.or_eq_true, Bool.not_eq_true', Bool.not_eq_false', Bool.not_eq_true, decide_eq_true_eq, decide_eq_false_iff_not, Bool.or_eq_false_iff, Bool.and_eq_false_iff, beq_iff_eq]; omega
  rw [e]
  refine ⟨fun _ => by decide, fun h => ?_, fun h => ?_⟩
  · rw [Bool.not_eq_true'] at h
    unfold newM; rw [h]; exact post_val rfl rfl
  · rw [Bool.not_eq_false'] at h
    unfold newM; simp only [h, if_true]; exact post_val rfl rfl
def lamplighterref04_Check.C : Contract
  | [.agg [.sl false (.ints .i64 vol), .sl false (.ints .i64 per), .sl false (.pends pend)]] => some (false, pD (smallM vol per pend) (.bool (checkB vol per pend)))
  | _ => none
set_option maxRecDepth 20000 in
theorem lamplighterref04_Check.spec : FSpec Try.prog 28 lamplighterref04_Check.C := by
  refine FSpec.of (ctx_ok (F := [(16, lamplighterref02_Numbers.C)]) (S := []) (by simpa using lamplighterref02_Numbers.spec) (by simp) lamplighterref04_Check.loops) lamplighterref04_Check.at lamplighterref04_Check.nm lamplighterref04_Check.bd ?_
  intro vs b S v news e hS
  unfold lamplighterref04_Check.C at e
  split at e
  rotate_left
  · cases e
  cases e
  rw [lamplighterref04_Check.eq]
  unfold lamplighterref04_Check.H
  simp (maxSteps := 4000000) only [go_sem, Nat.reduceEqDiff, Nat.reduceLT, Nat.reduceAdd, Nat.reduceSub, Nat.reduceLeDiff, List.reduceReplicate, Int.reduceToNat, lamplighterref02_Numbers.C]
  rename_i vol per pend
  obtain ⟨s1, s2, s3⟩ := hS
  unfold roomy at s1 s2 s3
  refine ⟨fun _ => by decide, fun h => ?_, fun h => ⟨s2, ?_⟩⟩
  · have : checkB vol per pend = false := by
      cases e : checkB vol per pend with
      | false => rfl
      | true =>
        have := check_iff.1 e
        have h1 := this.len
        have h2 := this.sz
        have h3 := this.md
        simp only [Bool.or_eq_true, Bool.not_eq_true', decide_eq_true_eq, decide_eq_false_iff_not] at h
        rw [Int.tmod_eq_emod_of_nonneg (by omega)] at h
        omega
    rw [this]; exact post_val rfl rfl
  simp only [Bool.or_eq_false_iff, Bool.not_eq_false', decide_eq_true_eq, decide_eq_false_iff_not] at h
  have hlen : vol.length = per.length := by omega
  have hmd : vol.length % 8 = 0 := by
    have := h.2
    rw [Int.tmod_eq_emod_of_nonneg (by omega)] at this
    omega
  rw [joinW_eq]
  unfold lamplighterref04_Check.L1
  refine loop1 (σ := Nat) (fun k => .int .i64 k) (fun k => [.box (memV vol per pend), .row .own 0 (.ints .i64 []), .row .own 0 (.ints .i64 (app (pend.take k) per))]) (fun k => pend.length - k)
    (fun k => k ≤ pend.length ∧ (∀ p ∈ pend.take k, 0 ≤ p.at_ ∧ p.at_ < (vol.length : Int)) ∧ LineWise (fun p => p.fl) (pend.take k)) 0 rfl rfl ⟨Nat.zero_le _, by simp, by simp [LineWise]⟩ ?_
  rintro I back k ⟨hk, hrg, hlw⟩
  simp only [go_sem, Nat.reduceEqDiff, Nat.reduceLT, Nat.reduceAdd, Nat.reduceSub, Nat.reduceLeDiff, List.reduceReplicate, Int.reduceToNat, app_len]
  refine ⟨fun hlt => ⟨by omega, ?_⟩, fun hge => ?_⟩
  · have hkl : k < pend.length := by omega
    have hmem := getD_mem pend k ⟨0, 0, false⟩ hkl
    have htk := take_next pend k ⟨0, 0, false⟩ hkl
    generalize pend.getD k ⟨0, 0, false⟩ = p at *
    refine ⟨fun hb => ?_, fun hb => ?_⟩
    · have : checkB vol per pend = false := by
        cases e : checkB vol per pend with
        | false => rfl
        | true =>
          have := (check_iff.1 e).rng p hmem
          simp only [Bool.or_eq_true, decide_eq_true_eq] at hb
          omega
      rw [this]; exact post_val rfl rfl
    rw [Bool.or_eq_false_iff, decide_eq_false_iff_not, decide_eq_false_iff_not] at hb
    rw [joinW_eq]
    unfold lamplighterref04_Check.L2
    refine loop1 (σ := Nat) (fun j => .int .i64 j) (fun _ => [.box (memV vol per pend), .row .own 0 (.ints .i64 []), .row .own 0 (.ints .i64 (app (pend.take k) per)), .box (.agg [.int .i64 p.at_, .int .i64 p.val, .bool p.fl])]) (fun j => k - j)
      (fun j => j ≤ k ∧ ∀ q ∈ pend.take j, lineOf q.at_ = lineOf p.at_ → p.fl = true → q.fl = true) 0 rfl rfl ⟨Nat.zero_le _, by simp⟩ ?_
    rintro I2 back2 j ⟨hj, hall⟩
    simp only [go_sem, Nat.reduceEqDiff, Nat.reduceLT, Nat.reduceAdd, Nat.reduceSub, Nat.reduceLeDiff, List.reduceReplicate, Int.reduceToNat, app_len]
    refine ⟨fun hc => ?_, fun hc => ?_⟩
    · rw [Bool.and_eq_true, decide_eq_true_eq] at hc
      obtain ⟨hjk, hfl⟩ := hc
      have hjp : j < pend.length := by omega
      have hjm : pend.getD j ⟨0, 0, false⟩ ∈ pend.take k := by
        have : j < (pend.take k).length := by rw [List.length_take]; omega
        have e : (pend.take k).getD j ⟨0, 0, false⟩ = pend.getD j ⟨0, 0, false⟩ := by
          rw [List.getD_eq_getElem?_getD, List.getElem?_take, if_pos (by omega), List.getD_eq_getElem?_getD]
        rw [← e]; exact getD_mem _ _ _ this
      have htj := take_next pend j ⟨0, 0, false⟩ hjp
      generalize pend.getD j ⟨0, 0, false⟩ = q at *
      refine ⟨by omega, by decide, by decide, fun _ => by omega, fun hx => ?_, fun hx => ?_⟩
      · rw [Bool.and_eq_true, decide_eq_true_eq, Bool.not_eq_true'] at hx
        have : checkB vol per pend = false := by
          cases e : checkB vol per pend with
          | false => rfl
          | true =>
            have h2 := (check_iff.1 e).ord.sublist (List.take_sublist (k + 1) pend)
            rw [htk, List.pairwise_append] at h2
            have h3 : q.fl = true := h2.2.2 q hjm p (by simp) hx.1 hfl
            rw [hx.2] at h3; cases h3
        rw [this]; exact post_val rfl rfl
      · refine back2 (j + 1) (by omega) (by rw [wnext (by omega)]) rfl ⟨by omega, fun r hr hl hf => ?_⟩
        rw [htj, List.mem_append, List.mem_singleton] at hr
        rcases hr with hr | rfl
        · exact hall r hr hl hf
        · rw [Bool.and_eq_false_iff, decide_eq_false_iff_not, Bool.not_eq_false'] at hx
          rcases hx with hx | hx
          · exact absurd hl hx
          · exact hx
    · refine ⟨⟨by omega, by omega⟩, by omega, back (k + 1) (by omega) (by rw [wnext (by omega)]) ?_ ⟨by omega, fun q hq => ?_, ?_⟩⟩
      · rw [htk, app_append]; rfl
      · rw [htk, List.mem_append, List.mem_singleton] at hq
        rcases hq with hq | rfl
        · exact hrg q hq
        · omega
      · unfold LineWise
        rw [htk, List.pairwise_append]
        refine ⟨hlw, List.pairwise_singleton _ _, fun q hq r hr hl hf => ?_⟩
        rw [List.mem_singleton] at hr; subst hr
        rw [Bool.and_eq_false_iff, decide_eq_false_iff_not] at hc
        rcases hc with hc | hc
        · exact hall q (by rw [show j = k by omega]; exact hq) hl hf
        · have hf : r.fl = true := hf
          rw [hc] at hf; cases hf
  · obtain rfl : k = pend.length := by omega
    rw [List.take_length] at *
    have e : (app pend per).take per.length = app pend per := take_len _ (by rw [app_len]; exact Nat.le_refl _)
    rw [e]
    simp only [lamplighterref02_Numbers.C, go_sem, Nat.reduceEqDiff, Nat.reduceLT, Nat.reduceAdd, Nat.reduceSub, Nat.reduceLeDiff, List.reduceReplicate, Int.reduceToNat, app_len]
    refine ⟨s2, ?_⟩
    have : checkB vol per pend = decide (app pend per = vol) := by
      by_cases e : app pend per = vol
      · rw [decide_eq_true e, check_iff]
        exact ⟨hlen, by omega, hmd, fun p hp => by have := hrg p hp; omega, hlw, e⟩
      · rw [decide_eq_false e]
        cases c : checkB vol per pend with
        | false => rfl
        | true => exact absurd (check_iff.1 c).eq e
    rw [this]; exact post_val rfl rfl
def lamplighterref04_Put.C : Contract
  | [.agg [.sl false (.ints .i64 vol), .sl false (.ints .i64 per), .sl false (.pends pend)], .int .i64 at_, .int .i64 val] => some (false, pD (smallM vol per pend ∧ roomy (pend.length + 1)) (putM vol per pend at_ val))
  | _ => none
set_option maxRecDepth 20000 in
theorem lamplighterref04_Put.spec : FSpec Try.prog 19 lamplighterref04_Put.C := by
  refine FSpec.of (ctx_ok (F := [(28, lamplighterref04_Check.C), (41, lamplighterref04_set.C)]) (S := []) (by simpa using ⟨lamplighterref04_Check.spec, lamplighterref04_set.spec⟩) (by simp) lamplighterref04_Put.loops) lamplighterref04_Put.at lamplighterref04_Put.nm lamplighterref04_Put.bd ?_
  intro vs b S v news e hS
  unfold lamplighterref04_Put.C at e
  split at e
  rotate_left
  · cases e
  cases e
  rw [lamplighterref04_Put.eq]
  unfold lamplighterref04_Put.H
  simp (maxSteps := 4000000) only [go_sem, Nat.reduceEqDiff, Nat.reduceLT, Nat.reduceAdd, Nat.reduceSub, Nat.reduceLeDiff, List.reduceReplicate, Int.reduceToNat, lamplighterref04_Check.C, lamplighterref04_set.C]
  rename_i vol per pend at_ val
  obtain ⟨hS, hr⟩ := hS
  have e : (!checkB vol per pend || decide (at_ < 0) || decide ((vol.length : Int) ≤ at_)) = !placeB vol per pend at_ := by
    unfold placeB
    cases checkB vol per pend
    · simp
    · rw [Bool.eq_iff_iff]; simp only [Bool.and_eq_true, Bool.or_eq_true, Bool.not_eq_true', Bool.not_eq_false', Bool.not_eq_true, decide_eq_true_eq, decide_eq_false_iff_not, Bool.or_eq_false_iff, Bool.and_eq_false_iff, beq_iff_eq]; simp <;> omega
  rw [e]
  refine ⟨hS, fun h => ?_, fun h => ?_⟩
  · rw [Bool.not_eq_true'] at h
    unfold putM; rw [h]; exact post_val rfl rfl
  · rw [Bool.not_eq_false'] at h
    have hp : 0 ≤ at_ ∧ at_ < (vol.length : Int) := by
      simp only [placeB, Bool.and_eq_true, decide_eq_true_eq] at h
      exact h.1
    have hl : (pend ++ [(⟨at_, val, false⟩ : Pend)]).length = pend.length + 1 := by simp
    refine ⟨⟨hp.1, hp.2, hS.1⟩, hS.2.2, by rw [hl]; exact hr, rfl, rfl, ?_⟩
    unfold putM; simp only [h, if_true]
    refine post_val ?_ rfl
    simp only [go_sem, Nat.reduceEqDiff, Nat.reduceLT, Nat.reduceAdd, Nat.reduceSub, Nat.reduceLeDiff, List.reduceReplicate, Int.reduceToNat, List.take_length]
def lamplighterref04_Flush.C : Contract
  | [.agg [.sl false (.ints .i64 vol), .sl false (.ints .i64 per), .sl false (.pends pend)], .int .i64 line] => some (false, pD (smallM vol per pend) (flushM vol per pend line))
  | _ => none
set_option maxRecDepth 20000 in
theorem lamplighterref04_Flush.spec : FSpec Try.prog 20 lamplighterref04_Flush.C := by
  refine FSpec.of (ctx_ok (F := [(28, lamplighterref04_Check.C), (42, lamplighterref04_line.C)]) (S := []) (by simpa using ⟨lamplighterref04_Check.spec, lamplighterref04_line.spec⟩) (by simp) lamplighterref04_Flush.loops) lamplighterref04_Flush.at lamplighterref04_Flush.nm lamplighterref04_Flush.bd ?_
  intro vs b S v news e hS
  unfold lamplighterref04_Flush.C at e
  split at e
  rotate_left
  · cases e
  cases e
  rw [lamplighterref04_Flush.eq]
  unfold lamplighterref04_Flush.H
  simp (maxSteps := 4000000) only [go_sem, Nat.reduceEqDiff, Nat.reduceLT, Nat.reduceAdd, Nat.reduceSub, Nat.reduceLeDiff, List.reduceReplicate, Int.reduceToNat, lamplighterref04_Check.C, lamplighterref04_line.C]
  rename_i vol per pend line
  rw [place_first (vol := vol) hS]
  obtain ⟨s1, s2, s3⟩ := hS
  refine ⟨⟨s1, s2, s3⟩, fun _ => s1, fun h => ?_, fun h => ?_⟩
  · rw [Bool.not_eq_true'] at h
    unfold flushM; rw [h]; exact post_val rfl rfl
  rw [Bool.not_eq_false'] at h
  unfold roomy at s1 s2 s3
  rw [joinW_eq]
  unfold lamplighterref04_Flush.L1
  refine loop1 (σ := Nat × Nat) (fun s => .int .i64 s.1) (fun s => [.box (memV vol per pend), .box (memV [] [] []), .box (.agg [.sl false (.ints .i64 vol), .sl false (.ints .i64 per), .sref false 3 s.2 0 s.1]), .row .own s.2 (.pends (flushP line (pend.take s.1)))]) (fun s => pend.length - s.1) (fun s => s.1 ≤ pend.length) (0, 0) rfl rfl (Nat.zero_le _) ?_
  rintro I back ⟨k, v⟩ hk
  simp only [] at hk ⊢
  have hfl : (flushP line (pend.take k)).length = k := by unfold flushP; simp; omega
  have hsn : ∀ p : Pend, flushP line [p] = [⟨p.at_, p.val, p.fl || decide (lineOf p.at_ = line)⟩] := fun p => by
    unfold flushP
    by_cases e : lineOf p.at_ = line <;> simp [e]
  have happ : ∀ a b : List Pend, flushP line (a ++ b) = flushP line a ++ flushP line b := fun a b => by unfold flushP; simp
  simp only [go_sem, Nat.reduceEqDiff, Nat.reduceLT, Nat.reduceAdd, Nat.reduceSub, Nat.reduceLeDiff, List.reduceReplicate, Int.reduceToNat, hfl]
  refine ⟨fun hlt => ⟨by omega, fun _ => by decide, ?_⟩, fun hge => ?_⟩
  · have hkl : k < pend.length := by omega
    have hnx : flushP line (pend.take (k + 1)) = flushP line (pend.take k) ++ [⟨(pend.getD k ⟨0, 0, false⟩).at_, (pend.getD k ⟨0, 0, false⟩).val, (pend.getD k ⟨0, 0, false⟩).fl || decide (lineOf (pend.getD k ⟨0, 0, false⟩).at_ = line)⟩] := by
      rw [take_next pend k ⟨0, 0, false⟩ hkl, happ, hsn]
    have hl1 : (flushP line (pend.take (k + 1))).length = k + 1 := by unfold flushP; simp; omega
    unfold lineOf at hnx
    rw [← hnx, hl1]
    exact ⟨by unfold roomy; omega, back (k + 1, v + 1) (by show _ - (k + 1) < _ - k; omega) (by rw [wnext (by omega)]) rfl (by omega)⟩
  · obtain rfl : k = pend.length := by omega
    rw [List.take_length] at hfl ⊢
    unfold flushM
    simp only [h, if_true]
    refine post_val ?_ rfl
    simp only [go_sem, Nat.reduceEqDiff, Nat.reduceLT, Nat.reduceAdd, Nat.reduceSub, Nat.reduceLeDiff, List.reduceReplicate, Int.reduceToNat, take_len _ (Nat.le_of_eq hfl)]
def keptB : List Bool → List Pend → List Pend
  | true :: bs, p :: ps => p :: keptB bs ps
  | false :: bs, p :: ps => keptB bs ps
  | _, _ => []
def restB : List Bool → List Pend → List Pend
  | true :: bs, p :: ps => restB bs ps
  | false :: bs, p :: ps => p :: restB bs ps
  | _, _ => []
theorem keptB_map (f : Pend → Bool) : ∀ l : List Pend, keptB (l.map f) l = l.filter f
  | [] => rfl
  | p :: r => by
    have ih := keptB_map f r
    cases h : f p <;> simp [h, keptB, ih]
theorem restB_map (f : Pend → Bool) : ∀ l : List Pend, restB (l.map f) l = keepP f l
  | [] => rfl
  | p :: r => by
    have ih := restB_map f r
    unfold keepP at ih ⊢
    cases h : f p <;> simp [h, restB, ih]
theorem kept_snoc (b : Bool) (p : Pend) : ∀ (bs : List Bool) (l : List Pend), bs.length = l.length → keptB (bs ++ [b]) (l ++ [p]) = (match b with | true => keptB bs l ++ [p] | false => keptB bs l) ∧ restB (bs ++ [b]) (l ++ [p]) = (match b with | true => restB bs l | false => restB bs l ++ [p])
  | [], [], _ => by cases b <;> exact ⟨rfl, rfl⟩
  | [], _ :: _, h => by cases h
  | _ :: _, [], h => by cases h
  | c :: bs, q :: l, h => by
    have ih := kept_snoc b p bs l (by simpa using h)
    cases c <;> cases b <;> simp [keptB, restB, ih.1, ih.2]
theorem restB_len : ∀ (bs : List Bool) (l : List Pend), (restB bs l).length ≤ l.length
  | [], l => by simp [restB]
  | b :: bs, [] => by simp [restB]
  | b :: bs, p :: l => by
    have := restB_len bs l
    cases b <;> simp [restB] <;> omega
def lamplighterref04_keep.C : Contract
  | [.agg [.sl false (.ints .i64 vol), .sl false (.ints .i64 per), .sl false (.pends pend)], .sl _ (.bools those)] => some (false, pD (smallM vol per pend ∧ those.length = pend.length ∧ ∀ p ∈ pend, 0 ≤ p.at_ ∧ p.at_ < (per.length : Int)) (memV vol (app (keptB those pend) per) (restB those pend)))
  | _ => none
set_option maxRecDepth 20000 in
theorem lamplighterref04_keep.spec : FSpec Try.prog 43 lamplighterref04_keep.C := by
  refine FSpec.of (ctx_ok (F := [(41, lamplighterref04_set.C)]) (S := []) (by simpa using lamplighterref04_set.spec) (by simp) lamplighterref04_keep.loops) lamplighterref04_keep.at lamplighterref04_keep.nm lamplighterref04_keep.bd ?_
  intro vs b S v news e hS
  unfold lamplighterref04_keep.C at e
  split at e
  rotate_left
  · cases e
  cases e
  rw [lamplighterref04_keep.eq]
  unfold lamplighterref04_keep.H
  simp (maxSteps := 4000000) only [go_sem, Nat.reduceEqDiff, Nat.reduceLT, Nat.reduceAdd, Nat.reduceSub, Nat.reduceLeDiff, List.reduceReplicate, Int.reduceToNat, lamplighterref04_set.C]
  rename_i vol per pend _ those
  obtain ⟨⟨s1, s2, s3⟩, hl, hrange⟩ := hS
  unfold roomy at s1 s2 s3
  rw [joinW_eq]
  unfold lamplighterref04_keep.L1
  refine loop1 (σ := Nat × Nat) (fun s => .int .i64 s.1) (fun s => [.box (memV vol per pend), .box (memV [] [] []), .box (.agg [.sl false (.ints .i64 vol), .sl false (.ints .i64 (app (keptB (those.take s.1) (pend.take s.1)) per)), .sref false 3 s.2 0 (restB (those.take s.1) (pend.take s.1)).length]), .row .own s.2 (.pends (restB (those.take s.1) (pend.take s.1)))]) (fun s => pend.length - s.1)
    (fun s => s.1 ≤ pend.length) (0, 0) rfl ?_ (Nat.zero_le _) ?_
  · simp only [List.take_zero]; rfl
  rintro I back ⟨k, v⟩ hk
  simp only [] at hk ⊢
  have hrl := restB_len (those.take k) (pend.take k)
  rw [List.length_take] at hrl
  simp only [go_sem, Nat.reduceEqDiff, Nat.reduceLT, Nat.reduceAdd, Nat.reduceSub, Nat.reduceLeDiff, List.reduceReplicate, Int.reduceToNat, app_len]
  refine ⟨fun hlt => ⟨by omega, ?_⟩, fun hge => ?_⟩
  · have hkl : k < pend.length := by omega
    have hr := hrange _ (getD_mem pend k ⟨0, 0, false⟩ hkl)
    have hs := kept_snoc (those.getD k false) (pend.getD k ⟨0, 0, false⟩) (those.take k) (pend.take k) (by simp; omega)
    rw [← take_next pend k ⟨0, 0, false⟩ hkl, ← take_next those k false (by omega)] at hs
    generalize pend.getD k ⟨0, 0, false⟩ = p at *
    generalize those.getD k false = b at *
    rw [joinW_eq]
    refine ⟨fun hb => ⟨by omega, by omega, ?_⟩, fun hb => ⟨by omega, ?_, ?_⟩⟩
    · subst hb
      simp only [lamplighterref04_set.C, go_sem, Nat.reduceEqDiff, Nat.reduceLT, Nat.reduceAdd, Nat.reduceSub, Nat.reduceLeDiff, List.reduceReplicate, Int.reduceToNat, app_len]
      refine ⟨⟨hr.1, hr.2, s2⟩, back (k + 1, v) (by show _ - (k + 1) < _ - k; omega) (by rw [wnext (by omega)]) ?_ (by show k + 1 ≤ _; omega)⟩
      simp only [hs, app_append, app, memV]
    · unfold roomy; simp; omega
    · subst hb
      simp only [go_sem, Nat.reduceEqDiff, Nat.reduceLT, Nat.reduceAdd, Nat.reduceSub, Nat.reduceLeDiff, List.reduceReplicate, Int.reduceToNat]
      refine back (k + 1, v + 1) (by show _ - (k + 1) < _ - k; omega) (by rw [wnext (by omega)]) ?_ (by show k + 1 ≤ _; omega)
      simp only [hs, memV]
  · obtain rfl : k = pend.length := by omega
    rw [List.take_length, ← hl, List.take_length]
    refine post_val ?_ rfl
    simp only [go_sem, Nat.reduceEqDiff, Nat.reduceLT, Nat.reduceAdd, Nat.reduceSub, Nat.reduceLeDiff, List.reduceReplicate, Int.reduceToNat, List.take_length]
theorem placeB_line {vol per : List Int} {pend : List Pend} {line : Int} (hs : smallM vol per pend) : (!checkB vol per pend || !(decide (0 ≤ line) && decide (line < ((vol.length / 8 : Nat) : Int)))) = !placeB vol per pend (firstI vol line) := place_first hs line
def lamplighterref04_Fence.C : Contract
  | [.agg [.sl false (.ints .i64 vol), .sl false (.ints .i64 per), .sl false (.pends pend)]] => some (false, pD (smallM vol per pend) (fenceM fFl (checkB vol per pend) vol per pend))
  | _ => none
set_option maxRecDepth 20000 in
theorem lamplighterref04_Fence.spec : FSpec Try.prog 21 lamplighterref04_Fence.C := by
  refine FSpec.of (ctx_ok (F := [(28, lamplighterref04_Check.C), (43, lamplighterref04_keep.C)]) (S := []) (by simpa using ⟨lamplighterref04_Check.spec, lamplighterref04_keep.spec⟩) (by simp) lamplighterref04_Fence.loops) lamplighterref04_Fence.at lamplighterref04_Fence.nm lamplighterref04_Fence.bd ?_
  intro vs b S v news e hS
  unfold lamplighterref04_Fence.C at e
  split at e
  rotate_left
  · cases e
  cases e
  rw [lamplighterref04_Fence.eq]
  unfold lamplighterref04_Fence.H
  simp (maxSteps := 4000000) only [go_sem, Nat.reduceEqDiff, Nat.reduceLT, Nat.reduceAdd, Nat.reduceSub, Nat.reduceLeDiff, List.reduceReplicate, Int.reduceToNat, lamplighterref04_Check.C, lamplighterref04_keep.C]
  rename_i vol per pend
  refine ⟨hS, fun h => ?_, fun h => ?_⟩
  · unfold fenceM; rw [h]; exact post_val rfl rfl
  have hrange := check_range h
  obtain ⟨s1, s2, s3⟩ := hS
  unfold roomy at s1 s2 s3
  rw [joinW_eq]
  unfold lamplighterref04_Fence.L1
  refine loop2 (σ := Nat × Nat) (fun s => .sref false 2 s.2 0 s.1) (fun s => .int .i64 s.1) (fun s => [.box (memV vol per pend), .box (memV [] [] []), .row .own s.2 (.bools ((pend.take s.1).map (fFl)))]) (fun s => pend.length - s.1) (fun s => s.1 ≤ pend.length) (0, 0) rfl rfl (Nat.zero_le _) ?_
  rintro I back ⟨k, v⟩ hk
  simp only [] at hk ⊢
  have hml : ((pend.take k).map (fFl)).length = k := by simp; omega
  simp only [go_sem, Nat.reduceEqDiff, Nat.reduceLT, Nat.reduceAdd, Nat.reduceSub, Nat.reduceLeDiff, List.reduceReplicate, Int.reduceToNat, hml]
  refine ⟨fun hlt => ?_, fun hge => ?_⟩
  · have hkl : k < pend.length := by omega
    have hnx : (pend.take (k + 1)).map (fFl) = (pend.take k).map (fFl) ++ [(fFl) (pend.getD k ⟨0, 0, false⟩)] := by rw [take_next pend k ⟨0, 0, false⟩ hkl, List.map_append]; rfl
    have hl1 : ((pend.take (k + 1)).map (fFl)).length = k + 1 := by simp; omega
    refine ⟨by omega, ?_, ?_⟩
    · unfold roomy; simp; omega
    · refine back (k + 1, v + 1) (by show _ - (k + 1) < _ - k; omega) ?_ ?_ (by show k + 1 ≤ _; omega)
      · rw [wnext (by omega)]; simp; omega
      · rw [hnx]; rfl
  · obtain rfl : k = pend.length := by omega
    rw [List.take_length] at *
    simp only [lamplighterref04_keep.C, go_sem, Nat.reduceEqDiff, Nat.reduceLT, Nat.reduceAdd, Nat.reduceSub, Nat.reduceLeDiff, List.reduceReplicate, Int.reduceToNat, take_len _ (Nat.le_of_eq hml), hml]
    refine ⟨⟨⟨s1, s2, s3⟩, hrange⟩, ?_⟩
    unfold fenceM; simp only [h, if_true]
    rw [keptB_map, restB_map, ← keepW_app]
    exact post_val rfl rfl
def lamplighterref04_Evict.C : Contract
  | [.agg [.sl false (.ints .i64 vol), .sl false (.ints .i64 per), .sl false (.pends pend)], .int .i64 line] => some (false, pD (smallM vol per pend) (fenceM (fLn line) (placeB vol per pend (firstI vol line)) vol per pend))
  | _ => none
set_option maxRecDepth 20000 in
theorem lamplighterref04_Evict.spec : FSpec Try.prog 22 lamplighterref04_Evict.C := by
  refine FSpec.of (ctx_ok (F := [(28, lamplighterref04_Check.C), (42, lamplighterref04_line.C), (43, lamplighterref04_keep.C)]) (S := []) (by simpa using ⟨lamplighterref04_Check.spec, lamplighterref04_line.spec, lamplighterref04_keep.spec⟩) (by simp) lamplighterref04_Evict.loops) lamplighterref04_Evict.at lamplighterref04_Evict.nm lamplighterref04_Evict.bd ?_
  intro vs b S v news e hS
  unfold lamplighterref04_Evict.C at e
  split at e
  rotate_left
  · cases e
  cases e
  rw [lamplighterref04_Evict.eq]
  unfold lamplighterref04_Evict.H
  simp (maxSteps := 4000000) only [go_sem, Nat.reduceEqDiff, Nat.reduceLT, Nat.reduceAdd, Nat.reduceSub, Nat.reduceLeDiff, List.reduceReplicate, Int.reduceToNat, lamplighterref04_Check.C, lamplighterref04_line.C, lamplighterref04_keep.C]
  rename_i vol per pend line
  rw [place_first hS]
  refine ⟨hS, fun _ => hS.1, fun h => ?_, fun h => ?_⟩
  · rw [Bool.not_eq_true'] at h
    unfold fenceM; rw [h]; exact post_val rfl rfl
  rw [Bool.not_eq_false'] at h
  have hrange := check_range (place_check h)
  obtain ⟨s1, s2, s3⟩ := hS
  unfold roomy at s1 s2 s3
  rw [joinW_eq]
  unfold lamplighterref04_Evict.L1
  refine loop2 (σ := Nat × Nat) (fun s => .sref false 2 s.2 0 s.1) (fun s => .int .i64 s.1) (fun s => [.box (memV vol per pend), .box (memV [] [] []), .row .own s.2 (.bools ((pend.take s.1).map (fLn line)))]) (fun s => pend.length - s.1) (fun s => s.1 ≤ pend.length) (0, 0) rfl rfl (Nat.zero_le _) ?_
  rintro I back ⟨k, v⟩ hk
  simp only [] at hk ⊢
  have hml : ((pend.take k).map (fLn line)).length = k := by simp; omega
  simp only [go_sem, Nat.reduceEqDiff, Nat.reduceLT, Nat.reduceAdd, Nat.reduceSub, Nat.reduceLeDiff, List.reduceReplicate, Int.reduceToNat, hml]
  refine ⟨fun hlt => ?_, fun hge => ?_⟩
  · have hkl : k < pend.length := by omega
    have hnx : (pend.take (k + 1)).map (fLn line) = (pend.take k).map (fLn line) ++ [(fLn line) (pend.getD k ⟨0, 0, false⟩)] := by rw [take_next pend k ⟨0, 0, false⟩ hkl, List.map_append]; rfl
    have hl1 : ((pend.take (k + 1)).map (fLn line)).length = k + 1 := by simp; omega
    refine ⟨by omega, by decide, ?_, ?_⟩
    · unfold roomy; simp; omega
    · refine back (k + 1, v + 1) (by show _ - (k + 1) < _ - k; omega) ?_ ?_ (by show k + 1 ≤ _; omega)
      · rw [wnext (by omega)]; simp; omega
      · rw [hnx]; rfl
  · obtain rfl : k = pend.length := by omega
    rw [List.take_length] at *
    simp only [lamplighterref04_keep.C, go_sem, Nat.reduceEqDiff, Nat.reduceLT, Nat.reduceAdd, Nat.reduceSub, Nat.reduceLeDiff, List.reduceReplicate, Int.reduceToNat, take_len _ (Nat.le_of_eq hml), hml]
    refine ⟨⟨⟨s1, s2, s3⟩, hrange⟩, ?_⟩
    unfold fenceM; simp only [h, if_true]
    rw [keptB_map, restB_map, ← keepW_app]
    exact post_val rfl rfl
def lamplighterref04_Sync.C : Contract
  | [.agg [.sl false (.ints .i64 vol), .sl false (.ints .i64 per), .sl false (.pends pend)]] => some (false, pD (smallM vol per pend) (fenceM fAll (checkB vol per pend) vol per pend))
  | _ => none
set_option maxRecDepth 20000 in
theorem lamplighterref04_Sync.spec : FSpec Try.prog 24 lamplighterref04_Sync.C := by
  refine FSpec.of (ctx_ok (F := [(28, lamplighterref04_Check.C)]) (S := []) (by simpa using lamplighterref04_Check.spec) (by simp) lamplighterref04_Sync.loops) lamplighterref04_Sync.at lamplighterref04_Sync.nm lamplighterref04_Sync.bd ?_
  intro vs b S v news e hS
  unfold lamplighterref04_Sync.C at e
  split at e
  rotate_left
  · cases e
  cases e
  rw [lamplighterref04_Sync.eq]
  unfold lamplighterref04_Sync.H
  simp (maxSteps := 4000000) only [go_sem, Nat.reduceEqDiff, Nat.reduceLT, Nat.reduceAdd, Nat.reduceSub, Nat.reduceLeDiff, List.reduceReplicate, Int.reduceToNat, lamplighterref04_Check.C]
  rename_i vol per pend
  refine ⟨hS, fun h => ?_, fun h => ?_⟩
  · unfold fenceM; rw [h]; exact post_val rfl rfl
  have e1 : keepW fAll pend per = vol := by
    rw [keepW_app, show pend.filter fAll = pend from List.filter_eq_self.2 fun _ _ => rfl]; exact (check_iff.1 h).eq
  have e2 : keepP fAll pend = [] := List.filter_eq_nil_iff.2 fun _ _ => by simp [fAll]
  unfold fenceM; simp only [h, if_true, e1, e2]
  exact post_val rfl rfl
/-- how many of a line -/
def cntL (L : Int) (l : List Pend) : Nat := (l.filter (fLn L)).length
theorem cntL_snoc (L : Int) (l : List Pend) (p : Pend) : cntL L (l ++ [p]) = cntL L l + (if lineOf p.at_ = L then 1 else 0) := by
  unfold cntL fLn
  rw [List.filter_append, List.length_append]
  by_cases e : lineOf p.at_ = L <;> simp [e]
/-- those that a crash keeps, told one by one -/
def thoseL (keep : List Int) : List Pend → List Pend → List Bool
  | _, [] => []
  | pre, p :: r => decide ((cntL (lineOf p.at_) pre : Int) < leftF keep (lineOf p.at_)) :: thoseL keep (pre ++ [p]) r
theorem thoseL_len (keep : List Int) : ∀ (r pre : List Pend), (thoseL keep pre r).length = r.length
  | [], _ => rfl
  | p :: r, pre => by simp [thoseL, thoseL_len keep r]
theorem thoseL_crash (keep : List Int) : ∀ (r pre : List Pend) (left : Int → Int), (∀ j, (left j).toNat = (leftF keep j).toNat - cntL j pre) → keptB (thoseL keep pre r) r = crashK r left
  | [], _, _, _ => rfl
  | p :: r, pre, left, h => by
    have ih := thoseL_crash keep r (pre ++ [p]) (lessL p left) fun j => by
      rw [cntL_snoc]
      have := h j
      unfold lessL
      by_cases e : lineOf p.at_ = j
      · subst e
        rw [if_pos rfl, if_pos rfl]
        split <;> omega
      · rw [if_neg (fun h => e h.symm), if_neg e]; omega
    have hb : decide ((cntL (lineOf p.at_) pre : Int) < leftF keep (lineOf p.at_)) = decide (0 < left (lineOf p.at_)) := by
      have := h (lineOf p.at_)
      exact decide_eq_decide.2 ⟨fun h => by omega, fun h => by omega⟩
    rw [thoseL, crashK, hb]
    cases decide (0 < left (lineOf p.at_)) <;> simp [keptB, ih]
theorem thoseL_append (keep : List Int) : ∀ (a b pre : List Pend), thoseL keep pre (a ++ b) = thoseL keep pre a ++ thoseL keep (pre ++ a) b
  | [], b, pre => by simp [thoseL]
  | p :: a, b, pre => by
    rw [List.cons_append, thoseL, thoseL_append keep a b, thoseL, List.cons_append, List.append_assoc]; rfl
def lamplighterref04_Crash.C : Contract
  | [.agg [.sl false (.ints .i64 vol), .sl false (.ints .i64 per), .sl false (.pends pend)], .sl _ (.ints .i64 keep)] => some (false, pD (smallM vol per pend ∧ roomy keep.length) (crashM (checkB vol per pend) keep per pend))
  | _ => none
set_option maxRecDepth 20000 in
theorem lamplighterref04_Crash.spec : FSpec Try.prog 25 lamplighterref04_Crash.C := by
  refine FSpec.of (ctx_ok (F := [(28, lamplighterref04_Check.C), (43, lamplighterref04_keep.C)]) (S := []) (by simpa using ⟨lamplighterref04_Check.spec, lamplighterref04_keep.spec⟩) (by simp) lamplighterref04_Crash.loops) lamplighterref04_Crash.at lamplighterref04_Crash.nm lamplighterref04_Crash.bd ?_
  intro vs b S v news e hS
  unfold lamplighterref04_Crash.C at e
  split at e
  rotate_left
  · cases e
  cases e
  rw [lamplighterref04_Crash.eq]
  unfold lamplighterref04_Crash.H
  simp (maxSteps := 4000000) only [go_sem, Nat.reduceEqDiff, Nat.reduceLT, Nat.reduceAdd, Nat.reduceSub, Nat.reduceLeDiff, List.reduceReplicate, Int.reduceToNat, lamplighterref04_Check.C, lamplighterref04_keep.C]
  rename_i vol per pend _ keep
  obtain ⟨hS, hr⟩ := hS
  refine ⟨hS, fun h => ?_, fun h => ?_⟩
  · unfold crashM; rw [h]; exact post_val rfl rfl
  have hrange := check_range h
  have hsz := (check_iff.1 h).sz
  have hln := (check_iff.1 h).len
  obtain ⟨s1, s2, s3⟩ := hS
  unfold roomy at s1 s2 s3 hr
  rw [joinW_eq]
  unfold lamplighterref04_Crash.L1
  refine loop2 (σ := Nat × Nat) (fun s => .sref false 1 s.2 0 s.1) (fun s => .int .i64 s.1) (fun s => [.box (memV vol per pend), .row .own s.2 (.bools (thoseL keep [] (pend.take s.1)))]) (fun s => pend.length - s.1) (fun s => s.1 ≤ pend.length) (0, 0) rfl rfl (Nat.zero_le _) ?_
  rintro I back ⟨k, v⟩ hk
  simp only [] at hk ⊢
  have hml : (thoseL keep [] (pend.take k)).length = k := by rw [thoseL_len]; simp; omega
  simp only [go_sem, Nat.reduceEqDiff, Nat.reduceLT, Nat.reduceAdd, Nat.reduceSub, Nat.reduceLeDiff, List.reduceReplicate, Int.reduceToNat, hml]
  refine ⟨fun hlt => ?_, fun hge => ?_⟩
  · have hkl : k < pend.length := by omega
    have hrp := hrange _ (getD_mem pend k ⟨0, 0, false⟩ hkl)
    have hnx : thoseL keep [] (pend.take (k + 1)) = thoseL keep [] (pend.take k) ++ [decide ((cntL (lineOf (pend.getD k ⟨0, 0, false⟩).at_) (pend.take k) : Int) < leftF keep (lineOf (pend.getD k ⟨0, 0, false⟩).at_))] := by rw [take_next pend k ⟨0, 0, false⟩ hkl, thoseL_append]; rfl
    generalize pend.getD k ⟨0, 0, false⟩ = p at *
    refine ⟨by omega, by decide, ?_⟩
    rw [joinW_eq]
    unfold lamplighterref04_Crash.L2
    refine loop2 (σ := Nat) (fun j => .int .i64 (cntL (lineOf p.at_) (pend.take j) : Nat)) (fun j => .int .i64 j) (fun _ => [.box (memV vol per pend), .row .own v (.bools (thoseL keep [] (pend.take k)))]) (fun j => k - j) (fun j => j ≤ k) 0 rfl rfl (Nat.zero_le _) ?_
    rintro I2 back2 j hj
    simp only [go_sem, Nat.reduceEqDiff, Nat.reduceLT, Nat.reduceAdd, Nat.reduceSub, Nat.reduceLeDiff, List.reduceReplicate, Int.reduceToNat, hml]
    have hc0 : ∀ j, j ≤ pend.length → cntL (lineOf p.at_) (pend.take j) ≤ j := fun j hj => Nat.le_trans (List.length_filter_le _ _) (by simp; omega)
    refine ⟨fun hjk => ⟨by omega, by decide, ?_⟩, fun hjk => ?_⟩
    · have hcn := cntL_snoc (lineOf p.at_) (pend.take j) (pend.getD j ⟨0, 0, false⟩)
      rw [← take_next pend j ⟨0, 0, false⟩ (by omega)] at hcn
      have hcj := hc0 j (by omega)
      rw [joinW_eq]
      refine ⟨fun hl => ?_, fun hl => ?_⟩
      · have hl : lineOf (pend.getD j ⟨0, 0, false⟩).at_ = lineOf p.at_ := hl
        rw [if_pos hl] at hcn
        simp only [go_sem, Nat.reduceEqDiff, Nat.reduceLT, Nat.reduceAdd, Nat.reduceSub, Nat.reduceLeDiff, List.reduceReplicate, Int.reduceToNat]
        refine back2 (j + 1) (by omega) ?_ rfl (by omega)
        rw [wnext (by omega), wnext (by omega), hcn]
      · have hl : ¬ lineOf (pend.getD j ⟨0, 0, false⟩).at_ = lineOf p.at_ := hl
        rw [if_neg hl] at hcn
        simp only [go_sem, Nat.reduceEqDiff, Nat.reduceLT, Nat.reduceAdd, Nat.reduceSub, Nat.reduceLeDiff, List.reduceReplicate, Int.reduceToNat]
        refine back2 (j + 1) (by omega) ?_ rfl (by omega)
        rw [wnext (by omega), hcn]; rfl
    · obtain rfl : j = k := by omega
      have hL : lineOf p.at_ = p.at_ / 8 := lineOf_eq (by omega) (by omega)
      have hw : IntKind.i64.wrap ((keep.length : Int) - 1) = (keep.length : Int) - 1 := w64 (by omega) (by omega)
      have hdec : (decide (lineOf p.at_ < (keep.length : Int)) && decide ((cntL (lineOf p.at_) (pend.take j) : Int) < keep.getD (if (keep.length : Int) - 1 < lineOf p.at_ then (keep.length : Int) - 1 else lineOf p.at_).toNat 0)) = decide ((cntL (lineOf p.at_) (pend.take j) : Int) < leftF keep (lineOf p.at_)) := by
        unfold leftF
        have h0 : 0 ≤ lineOf p.at_ := by omega
        rw [if_pos h0]
        by_cases e : lineOf p.at_ < (keep.length : Int)
        · rw [if_neg (show ¬ (keep.length : Int) - 1 < lineOf p.at_ by omega), decide_eq_true e, Bool.true_and]
        · rw [decide_eq_false e, Bool.false_and, List.getD_eq_getElem?_getD, List.getElem?_eq_none (by omega)]
          exact (decide_eq_false (by simp)).symm
      rw [hw]
      have hl1 : (thoseL keep [] (pend.take (j + 1))).length = j + 1 := by rw [thoseL_len]; simp; omega
      have hfold : IntKind.i64.wrap (p.at_.tdiv 8) = lineOf p.at_ := rfl
      rw [hfold, hdec, ← hnx, hl1]
      refine ⟨fun hlt => ?_, by unfold roomy; omega, back (j + 1, v + 1) (by show _ - (j + 1) < _ - j; omega) (by rw [wnext (by omega)]) rfl (by show j + 1 ≤ _; omega)⟩
      rw [hL] at hlt ⊢
      split <;> omega
  · obtain rfl : k = pend.length := by omega
    rw [List.take_length] at *
    simp only [lamplighterref04_keep.C, go_sem, Nat.reduceEqDiff, Nat.reduceLT, Nat.reduceAdd, Nat.reduceSub, Nat.reduceLeDiff, List.reduceReplicate, Int.reduceToNat, take_len _ (Nat.le_of_eq hml), hml]
    refine ⟨⟨⟨s1, s2, s3⟩, hrange⟩, ?_⟩
    rw [thoseL_crash keep pend [] (leftF keep) fun j => rfl]
    unfold crashM; simp only [h, if_true]
    exact post_val rfl rfl
end Lam
namespace Lam
open Go Go.Proofs
set_option linter.unusedVariables false
def lamplighterlaw04_PmemLines.loops : Nat → LInfo
  | 2 => ⟨[], [], [], [(4, none), (3, some [20, 23]), (2, none), (3, some [25, 28])], []⟩
  | 8 => ⟨[], [], [], [(2, none), (3, some [52, 55])], []⟩
  | 10 => ⟨[14], [false], [1, 3, 7, 8, 10, 12], [], []⟩
  | 15 => ⟨[], [], [], [(2, none), (7, some [94, 101])], []⟩
  | _ => ⟨[], [], [], [], []⟩
def lamplighterlaw04_PmemLines.L1 (c : Ctx) (J4 : AV → AV → AV → List AObj → Prop) (K : AOut → List AObj → Prop) (lv : List AV) (h0 : List AObj) (n0 : Nat) (c1 : AV) (c3 : AV) (c7 : AV) (c8 : AV) (c10 : AV) (c12 : AV) : Prop :=
  ∃ I : Nat → List AV → List AObj → Prop, (∃ n, I n lv h0) ∧ ∀ n h, ∀ t14, I n [t14] h →
    runD (fieldAddrD T_api_Mem c3 0) h fun t58 h =>
    runD (fitD T_sl_int (loadD h t58)) h fun t59 h =>
    runD (lenD T_sl_int h t59) h fun t60 h =>
    runD (binD T_int .lss t14 t60) h fun t61 h =>
    condW t61
    (runD (binD T_int .quo t14 (.int .i64 8)) h fun t65 h =>
    runD (binD T_int .neq t65 c1) h fun t67 h =>
    joinW (fun (J5 : AV → AV → List AObj → Prop) =>
    guardW t67 true
    (runD (fieldAddrD T_api_Mem c8 1) h fun t70 h =>
      runD (fitD T_sl_int (loadD h t70)) h fun t71 h =>
      runD (indexAddrD T_sl_int h t71 t14) h fun t73 h =>
      runD (fitD T_int (loadD h t73)) h fun t74 h =>
      runD (fieldAddrD T_api_Mem c3 1) h fun t75 h =>
      runD (fitD T_sl_int (loadD h t75)) h fun t76 h =>
      runD (indexAddrD T_sl_int h t76 t14) h fun t78 h =>
      runD (fitD T_int (loadD h t78)) h fun t79 h =>
      runD (binD T_int .neq t74 t79) h fun t80 h =>
      joinW (fun (J6 : AV → AV → List AObj → Prop) =>
      guardW t80 false
      (runD (indexAddrD T_sl_int h c10 t14) h fun t84 h =>
        runD (fitD T_int (loadD h t84)) h fun t85 h =>
        runD (indexAddrD T_sl_int h c12 t14) h fun t88 h =>
        runD (fitD T_int (loadD h t88)) h fun t89 h =>
        runD (binD T_int .neq t85 t89) h fun t90 h =>
        J6 (.bool false) t90 h)
      (J6 (.bool true) .und h))
      (fun t81 t90 h => runD (pickD t81 (.bool true) t90) h fun t91 h =>
      J5 (.bool true) t91 h))
    (J5 (.bool false) .und h))
    (fun t69 t91 h => runD (pickD t69 t91 (.bool false)) h fun t92 h =>
    condW t92
    (K (.ret (.bool false)) h)
    (runD (binD T_int .add t14 (.int .i64 1)) h fun t63 h =>
    (∃ m, m < n ∧ I m (AV.norms n0 h [t63]) (normH n0 h)) ∧ AV.norms n0 h [c1, c3, c7, c8, c10, c12] = [c1, c3, c7, c8, c10, c12])))
    (J4 c3 c7 c8 h)
def lamplighterlaw04_PmemLines.H (c : Ctx) (t0 : AV) (t1 : AV) (t2 : AV) (h : List AObj) (K : AOut → List AObj → Prop) : Prop :=
  boxW T_api_Mem t0 h fun t3 h =>
  callW c (.fn (.func 9) [] []) [] h (fun t16 h =>
  runD (fitD T_api_Mem (loadD h t3)) h fun t17 h =>
  callW c (.fn (.func 10) [] []) [t17] h (fun t18 h =>
  runD (unD .not t18) h fun t19 h =>
  joinW (fun (J1 : AV → AV → List AObj → Prop) =>
  guardW t19 false
  (runD (fitD T_api_Mem (loadD h t3)) h fun t21 h =>
    callW c (.fn (.func 11) [] []) [t21] h (fun t22 h =>
    runD (unD .not t22) h fun t23 h =>
    J1 (.bool false) t23 h)
    (fun v h => K (.pan v) h))
  (J1 (.bool true) .und h))
  (fun t20 t23 h => runD (pickD t20 (.bool true) t23) h fun t24 h =>
  joinW (fun (J2 : AV → AV → List AObj → Prop) =>
  guardW t24 false
  (runD (lenD T_sl_int h t2) h fun t27 h =>
    runD (binD T_int .gtr t27 (.int .i64 300)) h fun t28 h =>
    J2 (.bool false) t28 h)
  (J2 (.bool true) .und h))
  (fun t25 t28 h => runD (pickD t25 (.bool true) t28) h fun t29 h =>
  condW t29
  (K (.ret t16) h)
  (runD (fitD T_api_Mem (loadD h t3)) h fun t32 h =>
  callW c (.fn (.func 14) [] []) [t32, t1] h (fun t34 h =>
  runD (extractD t34 0) h fun t35 h =>
  runD (extractD t34 1) h fun t36 h =>
  allocW T_api_Mem h fun t8 h =>
  runH (storeH T_api_Mem h t8 t35) h fun _ h =>
  runD (fitD T_api_Mem (loadD h t3)) h fun t38 h =>
  callW c (.fn (.func 15) [] []) [t38, t2] h (fun t40 h =>
  runD (extractD t40 0) h fun t41 h =>
  runD (extractD t40 1) h fun t42 h =>
  runD (fitD T_api_Mem (loadD h t8)) h fun t44 h =>
  callW c (.fn (.func 15) [] []) [t44, t2] h (fun t46 h =>
  runD (extractD t46 0) h fun t47 h =>
  runD (extractD t46 1) h fun t48 h =>
  runD (binD T_api_Errno .neq t36 (.int .i64 0)) h fun t50 h =>
  condW t50
  (joinW (fun (J3 : AV → AV → List AObj → Prop) =>
    guardW t16 true
    (runD (fitD T_api_Mem (loadD h t8)) h fun t53 h =>
      runD (fitD T_api_Mem (loadD h t3)) h fun t54 h =>
      callW c (.fn (.func 17) [] []) [t53, t54] h (fun t55 h =>
      J3 (.bool true) t55 h)
      (fun v h => K (.pan v) h))
    (J3 (.bool false) .und h))
    (fun t52 t55 h => runD (pickD t52 t55 (.bool false)) h fun t56 h =>
    K (.ret t56) h))
  (joinW (fun (J4 : AV → AV → AV → List AObj → Prop) =>
  promV [false] [(.int .i64 0)] h fun lv h => lamplighterlaw04_PmemLines.L1 c J4 K (AV.norms h.length h lv) (normH h.length h) h.length (AV.norm h.length h t1) (AV.norm h.length h t3) (AV.norm h.length h t16) (AV.norm h.length h t8) (AV.norm h.length h t41) (AV.norm h.length h t47))
  (fun t3 t7 t8 h => joinW (fun (J7 : AV → AV → List AObj → Prop) =>
  guardW t7 true
  (runD (fieldAddrD T_api_Mem t8 2) h fun t95 h =>
    runD (fitD T_sl_api_Pending (loadD h t95)) h fun t96 h =>
    runD (lenD T_sl_api_Pending h t96) h fun t97 h =>
    runD (fieldAddrD T_api_Mem t3 2) h fun t98 h =>
    runD (fitD T_sl_api_Pending (loadD h t98)) h fun t99 h =>
    runD (lenD T_sl_api_Pending h t99) h fun t100 h =>
    runD (binD T_int .leq t97 t100) h fun t101 h =>
    J7 (.bool true) t101 h)
  (J7 (.bool false) .und h))
  (fun t94 t101 h => runD (pickD t94 t101 (.bool false)) h fun t102 h =>
  K (.ret t102) h))))
  (fun v h => K (.pan v) h))
  (fun v h => K (.pan v) h))
  (fun v h => K (.pan v) h)))))
  (fun v h => K (.pan v) h))
  (fun v h => K (.pan v) h)
theorem lamplighterlaw04_PmemLines.eq (F : List (FuncId × Contract)) (S : List (FuncId × Con)) (t0 t1 t2 : AV) (h : List AObj) (K : AOut → List AObj → Prop) : funW (ctx F S lamplighterlaw04_PmemLines.loops) Try.f5 [t0, t1, t2] h K = lamplighterlaw04_PmemLines.H (ctx F S lamplighterlaw04_PmemLines.loops) t0 t1 t2 h K := by kernel_rfl
theorem lamplighterlaw04_PmemLines.at : Try.prog.funcs[5]? = some Try.f5 := by kernel_rfl
theorem lamplighterlaw04_PmemLines.nm : (Try.f5.name == "runtime.NumGoroutine") = false := by kernel_rfl
theorem lamplighterlaw04_PmemLines.bd : Try.f5.body.isNone = false := by kernel_rfl
end Lam
namespace Lam
open Go Go.Proofs
set_option linter.unusedVariables false
set_option linter.unnecessarySimpa false
set_option linter.unusedSimpArgs false
abbrev PmemLines_ctx : Ctx := ctx [(9, lamplighterlaw04_awake.C), (10, lamplighterref04_Few.C), (11, pmem_Check.C), (14, pmem_Evict.C), (15, pmem_Crash.C), (17, lamplighterref04_Same.C)] [] lamplighterlaw04_PmemLines.loops
set_option maxRecDepth 20000 in
theorem PmemLines_vc (m_vol : List Int) (m_per : List Int) (m_pend : List Pend) (line : Int) (keep : List Int) (w_m_vol : wfL (.ints .i64 m_vol)) (n_m_vol : m_vol.length ≤ maxLen) (w_m_per : wfL (.ints .i64 m_per)) (n_m_per : m_per.length ≤ maxLen) (w_m_pend : wfL (.pends m_pend)) (n_m_pend : m_pend.length ≤ maxLen) (w_line : (Lit.int .i64 line).wf = true) (w_keep : wfL (.ints .i64 keep)) (n_keep : keep.length ≤ maxLen) : lamplighterlaw04_PmemLines.H PmemLines_ctx (.agg [(.sl false (.ints .i64 m_vol)), (.sl false (.ints .i64 m_per)), (.sl false (.pends m_pend))]) (.int .i64 line) (.sl false (.ints .i64 keep)) [] Told := by
  unfold lamplighterlaw04_PmemLines.H
  simp (maxSteps := 4000000) only [go_sem, Nat.reduceEqDiff, Nat.reduceLT, Nat.reduceAdd, Nat.reduceSub, Nat.reduceLeDiff, List.reduceReplicate, Int.reduceToNat, lamplighterlaw04_awake.C, lamplighterref04_Few.C, pmem_Check.C, pmem_Evict.C, pmem_Crash.C, lamplighterref04_Same.C]
  refine ⟨fun hf => ?_, fun _ => rfl, fun hg => ?_⟩
  · have := few_iff.1 hf
    unfold smallM roomy; omega
  simp only [Bool.or_eq_false_iff, Bool.not_eq_false', decide_eq_false_iff_not, few_iff, check_iff] at hg
  obtain ⟨⟨⟨f1, f2, f3⟩, ok⟩, hk⟩ := hg
  have hi64 := wf_i64s w_keep
  have hkr : roomy keep.length := by unfold roomy; omega
  have sm := ok.small (by omega)
  cases hp : placeB m_vol m_per m_pend (firstI m_vol line) with
  | false =>
    simp only [fenceM_no, crashM_ok, check_iff.2 ok, joinW_eq, guard_tt, guard_tf, guard_ft, guard_ff, Int.reduceEq, Int.reduceLT, Int.reduceLE, decide_false, decide_true, Bool.not_false, Bool.not_true, Bool.not_not, not_true_eq_false, not_false_eq_true, true_implies, false_implies, implies_true, and_true, true_and, reduceCtorEq, Bool.and_self, Bool.or_self, Bool.and_true, Bool.true_and, Bool.false_eq_true, if_true, if_false, go_sem, Nat.reduceEqDiff, Nat.reduceLT, Nat.reduceAdd, Nat.reduceSub, Nat.reduceLeDiff, List.reduceReplicate, Int.reduceToNat, pmem_Crash.C, lamplighterref04_Same.C, sameB_self]
    exact ⟨sm, ⟨sm, hkr, hi64⟩, ⟨sm, hkr, hi64⟩, sm, rfl⟩
  | true =>
    have oke := ok.evict line
    simp only [fenceM_ok, crashM_ok, check_iff.2 ok, check_iff.2 oke, go_sem, Nat.reduceEqDiff, Nat.reduceLT, Nat.reduceAdd, Nat.reduceSub, Nat.reduceLeDiff, List.reduceReplicate, Int.reduceToNat, pmem_Crash.C]
    have sme := oke.small (Nat.le_trans (keepP_len _ _) (by omega))
    refine ⟨sm, ⟨sm, hkr, hi64⟩, ⟨sme, hkr, hi64⟩, ?_⟩
    have hlen := ok.len
    have hx : ∀ i, i < m_vol.length → (i : Int) / 8 ≠ line → (keepW (fLn line) m_pend m_per).getD i 0 = m_per.getD i 0 ∧ (crashW keep m_per m_pend).getD i 0 = (crashW keep (keepW (fLn line) m_pend m_per) (keepP (fLn line) m_pend)).getD i 0 := by
      intro i hi hne
      have hnl : ∀ p ∈ m_pend, fLn line p = true → p.at_.toNat ≠ i := by
        intro p hp hf e
        have hr := ok.rng p hp
        unfold fLn at hf
        rw [decide_eq_true_eq, lineOf_eq hr.1 (by omega)] at hf
        omega
      have h1 : (keepW (fLn line) m_pend m_per).getD i 0 = m_per.getD i 0 := by
        rw [keepW_app, app_getD _ _ _ (by omega), seen_none]
        intro p hp
        exact hnl p (List.mem_filter.1 hp).1 (List.mem_filter.1 hp).2
      refine ⟨h1, ?_⟩
      rw [crash_at ok keep (by omega), crash_at oke keep (by rw [keepW_len]; omega), h1]
      have : (keepP (fLn line) m_pend).filter (fLn ((i : Int) / 8)) = m_pend.filter (fLn ((i : Int) / 8)) := by
        unfold keepP
        rw [List.filter_filter]
        apply List.filter_congr
        intro p hp
        unfold fLn
        by_cases e : lineOf p.at_ = (i : Int) / 8
        · rw [e, decide_eq_true rfl, decide_eq_false hne]; rfl
        · rw [decide_eq_false e]; rfl
      rw [this]
    have lw : (keepW (fLn line) m_pend m_per).length = m_per.length := keepW_len _ _ _
    have lp := keepP_len (fLn line) m_pend
    generalize keepW (fLn line) m_pend m_per = bper at *
    generalize keepP (fLn line) m_pend = bpend at *
    have lx : (crashW keep bper bpend).length = m_vol.length := by rw [crashW_len]; omega
    have ly : (crashW keep m_per m_pend).length = m_vol.length := by rw [crashW_len]; omega
    rw [joinW_eq]
    unfold lamplighterlaw04_PmemLines.L1
    refine loop1 (σ := Nat) (fun k => .int .i64 k) (fun k => [.box (memV m_vol m_per m_pend), .box (memV m_vol bper bpend)]) (fun k => m_vol.length - k) (fun k => k ≤ m_vol.length) 0 rfl rfl (Nat.zero_le _) ?_
    intro I back k hk8
    simp only [go_sem, Nat.reduceEqDiff, Nat.reduceLT, Nat.reduceAdd, Nat.reduceSub, Nat.reduceLeDiff, List.reduceReplicate, Int.reduceToNat]
    refine ⟨fun hlt => ?_, fun hge => ?_⟩
    · rw [wdiv8 (by omega)]
      have e8 : ((k / 8 : Nat) : Int) = (k : Int) / 8 := by omega
      rw [e8]
      refine ⟨by decide, fun _ => ⟨by omega, by omega, fun _ => ⟨by omega, by omega⟩⟩, fun h => ?_, fun _ => back (k + 1) (by omega) (by rw [wnext (by omega)]) rfl (by omega)⟩
      by_cases e : (k : Int) / 8 = line
      · rw [decide_eq_true e] at h; cases h
      · obtain ⟨h1, h2⟩ := hx k (by omega) e
        rw [h1, h2] at h; simp at h
    · show AOut.ret _ = _
      rw [decide_eq_true (by omega)]
theorem PmemLines_ok : Ok Try.prog PmemLines_ctx := ctx_ok (by simpa using ⟨lamplighterlaw04_awake.spec, lamplighterref04_Few.spec, pmem_Check.spec, pmem_Evict.spec, pmem_Crash.spec, lamplighterref04_Same.spec⟩) (by simp) _
theorem PmemLines_law (m : AV) (line : Int) (keep : Lst) (g_m : GoodV T_api_Mem m) (w_line : (Lit.int .i64 line).wf = true) (k_keep : keep.kind = (.int .i64)) (w_keep : wfL keep) (n_keep : keep.len ≤ maxLen) : funW PmemLines_ctx Try.f5 [m, (.int .i64 line), (.sl false keep)] [] Told := by
  obtain ⟨_, rfl, _, _, rfl, ⟨m_vol, rfl, k_m_vol, w_m_vol, n_m_vol⟩, _, _, rfl, ⟨m_per, rfl, k_m_per, w_m_per, n_m_per⟩, _, _, rfl, ⟨m_pend, rfl, k_m_pend, w_m_pend, n_m_pend⟩, rfl⟩ := g_m
  obtain ⟨m_vol, rfl⟩ := gkind_ints k_m_vol
  obtain ⟨m_per, rfl⟩ := gkind_ints k_m_per
  obtain ⟨m_pend, rfl⟩ := gkind_pends k_m_pend
  obtain ⟨keep, rfl⟩ := gkind_ints k_keep
  rw [PmemLines_ctx, lamplighterlaw04_PmemLines.eq]
  exact PmemLines_vc m_vol m_per m_pend line keep w_m_vol n_m_vol w_m_per n_m_per w_m_pend n_m_pend w_line w_keep n_keep
end Lam
