/- What functions of the program come to, each proved from its code. -/
import Derived.Test.YtbgnnkpndkiafaaLm4
namespace Lam
open Go Go.Proofs
set_option linter.unusedVariables false
set_option linter.unnecessarySimpa false
set_option linter.unusedSimpArgs false
def lamplighterref04_Few.C : Contract
  | [.agg [.sl false (.ints .i64 vol), .sl false (.ints .i64 per), .sl false (.pends pend)]] => some (false, pD True (.bool (fewB vol per pend)))
  | _ => none
set_option maxRecDepth 20000 in
theorem lamplighterref04_Few.spec : FSpec Try.prog 10 lamplighterref04_Few.C := by
  refine FSpec.of (ctx_ok (F := []) (S := []) (by simp) (by simp) lamplighterref04_Few.loops) lamplighterref04_Few.at lamplighterref04_Few.nm lamplighterref04_Few.bd ?_
  intro vs b S v news e hS
  unfold lamplighterref04_Few.C at e
  split at e
  rotate_left
  · cases e
  cases e
  rw [lamplighterref04_Few.eq]
  unfold lamplighterref04_Few.H
  simp (maxSteps := 4000000) only [go_sem, Nat.reduceEqDiff, Nat.reduceLT, Nat.reduceAdd, Nat.reduceSub, Nat.reduceLeDiff, List.reduceReplicate, Int.reduceToNat]
  rename_i vol per pend
  have e1 : decide ((vol.length : Int) ≤ 300) = decide (vol.length ≤ 300) := decide_eq_decide.2 (by omega)
  have e2 : decide ((per.length : Int) ≤ 300) = decide (per.length ≤ 300) := decide_eq_decide.2 (by omega)
  have e3 : decide ((pend.length : Int) ≤ 100) = decide (pend.length ≤ 100) := decide_eq_decide.2 (by omega)
  rw [e1, e2, e3]
  exact post_val rfl rfl
def sameB (vol per : List Int) (pend : List Pend) (vol' per' : List Int) (pend' : List Pend) : Bool := decide (vol = vol') && decide (per = per') && decide (pend = pend')
theorem sameB_self (v p : List Int) (q : List Pend) : sameB v p q v p q = true := by simp [sameB]
def lamplighterref04_Same.C : Contract
  | [.agg [.sl false (.ints .i64 vol), .sl false (.ints .i64 per), .sl false (.pends pend)], .agg [.sl false (.ints .i64 vol'), .sl false (.ints .i64 per'), .sl false (.pends pend')]] => some (false, pD (smallM vol per pend) (.bool (sameB vol per pend vol' per' pend')))
  | _ => none
set_option maxRecDepth 20000 in
theorem lamplighterref04_Same.spec : FSpec Try.prog 17 lamplighterref04_Same.C := by
  refine FSpec.of (ctx_ok (F := [(16, lamplighterref02_Numbers.C)]) (S := []) (by simpa using lamplighterref02_Numbers.spec) (by simp) lamplighterref04_Same.loops) lamplighterref04_Same.at lamplighterref04_Same.nm lamplighterref04_Same.bd ?_
  intro vs b S v news e hS
  unfold lamplighterref04_Same.C at e
  split at e
  rotate_left
  · cases e
  cases e
  rw [lamplighterref04_Same.eq]
  unfold lamplighterref04_Same.H
  simp (maxSteps := 4000000) only [go_sem, Nat.reduceEqDiff, Nat.reduceLT, Nat.reduceAdd, Nat.reduceSub, Nat.reduceLeDiff, List.reduceReplicate, Int.reduceToNat, lamplighterref02_Numbers.C]
  rename_i vol per pend vol' per' pend'
  obtain ⟨s1, s2, s3⟩ := hS
  unfold roomy at s1 s2 s3
  refine ⟨s1, s2, fun hne => ?_, fun heq => ?_⟩
  · have : sameB vol per pend vol' per' pend' = false := by
      simp only [Bool.or_eq_true, Bool.not_eq_true', decide_eq_false_iff_not] at hne
      unfold sameB
      rcases hne with (h | h) | h
      · simp [h]
      · simp [h]
      · have : pend ≠ pend' := by rintro rfl; exact h rfl
        simp [this]
    rw [this]; exact post_val rfl rfl
  simp only [Bool.or_eq_false_iff, Bool.not_eq_false', decide_eq_true_eq] at heq
  obtain ⟨⟨h1, h2⟩, h3⟩ := heq
  have hlen : pend.length = pend'.length := by omega
  rw [joinW_eq]
  unfold lamplighterref04_Same.L1
  refine loop1 (fun k : Nat => .int .i64 k) (fun _ => [.box (memV vol per pend), .box (memV vol' per' pend')]) (fun k => pend.length - k) (fun k => k ≤ pend.length ∧ ∀ i, i < k → pend.getD i ⟨0, 0, false⟩ = pend'.getD i ⟨0, 0, false⟩) 0 rfl rfl ⟨Nat.zero_le _, fun i hi => absurd hi (Nat.not_lt_zero i)⟩ ?_
  rintro I back k ⟨hk, hall⟩
  simp only [go_sem, Nat.reduceEqDiff, Nat.reduceLT, Nat.reduceAdd, Nat.reduceSub, Nat.reduceLeDiff, List.reduceReplicate, Int.reduceToNat]
  have hd : ∀ a b : Pend, (decide (a.at_ = b.at_) && (decide (a.val = b.val) && a.fl == b.fl)) = decide (a = b) := fun a b => by
    cases a; cases b; rw [Bool.eq_iff_iff]; simp only [Bool.and_eq_true, Bool.or_eq_true, Bool.not_eq_true', Bool.not_eq_false', Bool.not_eq_true, decide_eq_true_eq, decide_eq_false_iff_not, Bool.or_eq_false_iff, Bool.and_eq_false_iff, beq_iff_eq]; simp
  rw [hd]
  refine ⟨fun hlt => ⟨by omega, by omega, fun h0 => ?_, fun h0 => ?_⟩, fun hge => ?_⟩
  · rw [decide_eq_false_iff_not] at h0
    have : pend ≠ pend' := by rintro rfl; exact h0 rfl
    have : sameB vol per pend vol' per' pend' = false := by unfold sameB; simp [this]
    rw [this]; exact post_val rfl rfl
  · rw [decide_eq_true_eq] at h0
    refine back (k + 1) (by omega) (by rw [wnext (by omega)]) rfl ⟨by omega, fun i hi => ?_⟩
    by_cases e : i = k
    · subst e; exact h0
    · exact hall i (by omega)
  · have h4 : pend = pend' := ext_d _ hlen fun i hi => hall i (by omega)
    have : sameB vol per pend vol' per' pend' = true := by unfold sameB; simp [h1, h2, h4]
    rw [this]; exact post_val rfl rfl
def lamplighterref04_set.C : Contract
  | [.sl _ (.ints .i64 l), .int .i64 at_, .int .i64 val] => some (false, pD (0 ≤ at_ ∧ at_ < (l.length : Int) ∧ roomy l.length) (.sl false (.ints .i64 (l.set at_.toNat val))))
  | _ => none
set_option maxRecDepth 20000 in
theorem lamplighterref04_set.spec : FSpec Try.prog 41 lamplighterref04_set.C := by
  refine FSpec.of (ctx_ok (F := []) (S := []) (by simp) (by simp) lamplighterref04_set.loops) lamplighterref04_set.at lamplighterref04_set.nm lamplighterref04_set.bd ?_
  intro vs b S v news e hS
  unfold lamplighterref04_set.C at e
  split at e
  rotate_left
  · cases e
  cases e
  rw [lamplighterref04_set.eq]
  unfold lamplighterref04_set.H
  simp (maxSteps := 4000000) only [go_sem, Nat.reduceEqDiff, Nat.reduceLT, Nat.reduceAdd, Nat.reduceSub, Nat.reduceLeDiff, List.reduceReplicate, Int.reduceToNat]
  rename_i l at_ val
  obtain ⟨h0, h1, hr⟩ := hS
  refine ⟨hr, ⟨h0, h1⟩, by omega, post_val ?_ rfl⟩
  simp only [go_sem, Nat.reduceEqDiff, Nat.reduceLT, Nat.reduceAdd, Nat.reduceSub, Nat.reduceLeDiff, List.reduceReplicate, Int.reduceToNat, take_len _ (Nat.le_of_eq List.length_set)]
def lamplighterref04_line.C : Contract
  | [.agg [.sl false (.ints .i64 vol), .sl false (.ints .i64 per), .sl false (.pends pend)], .int .i64 n] => some (false, pD (roomy vol.length) (.bool (decide (0 ≤ n) && decide (n < ((vol.length / 8 : Nat) : Int)))))
  | _ => none
set_option maxRecDepth 20000 in
theorem lamplighterref04_line.spec : FSpec Try.prog 42 lamplighterref04_line.C := by
  refine FSpec.of (ctx_ok (F := []) (S := []) (by simp) (by simp) lamplighterref04_line.loops) lamplighterref04_line.at lamplighterref04_line.nm lamplighterref04_line.bd ?_
  intro vs b S v news e hS
  unfold lamplighterref04_line.C at e
  split at e
  rotate_left
  · cases e
  cases e
  rw [lamplighterref04_line.eq]
  unfold lamplighterref04_line.H
  simp (maxSteps := 4000000) only [go_sem, Nat.reduceEqDiff, Nat.reduceLT, Nat.reduceAdd, Nat.reduceSub, Nat.reduceLeDiff, List.reduceReplicate, Int.reduceToNat]
  rename_i vol per pend n
  unfold roomy at hS
  rw [wdiv8 (by omega)]
  exact ⟨fun _ => by decide, post_val rfl rfl⟩
def lamplighterref04_New.C : Contract
  | [.sl _ (.ints .i64 l)] => some (false, pD (roomy l.length) (newM l))
  | _ => none
set_option maxRecDepth 20000 in
theorem lamplighterref04_New.spec : FSpec Try.prog 27 lamplighterref04_New.C := by
  refine FSpec.of (ctx_ok (F := []) (S := []) (by simp) (by simp) lamplighterref04_New.loops) lamplighterref04_New.at lamplighterref04_New.nm lamplighterref04_New.bd ?_
  intro vs b S v news e hS
  unfold lamplighterref04_New.C at e
  split at e
  rotate_left
  · cases e
  cases e
  rw [lamplighterref04_New.eq]
  unfold lamplighterref04_New.H
  simp (maxSteps := 4000000) only [go_sem, Nat.reduceEqDiff, Nat.reduceLT, Nat.reduceAdd, Nat.reduceSub, Nat.reduceLeDiff, List.reduceReplicate, Int.reduceToNat]
  rename_i l
  have e : (decide (4096 < (l.length : Int)) || !decide ((l.length : Int).tmod 8 = 0)) = !szB l.length := by
    unfold szB
    rw [Bool.eq_iff_iff]; simp only [Bool.and_eq_true, Bool.or_eq_true, Bool.not_eq_true', Bool.not_eq_false', Bool.not_eq_true, decide_eq_true_eq, decide_eq_false_iff_not, Bool.or_eq_false_iff, Bool.and_eq_false_iff, beq_iff_eq]; omega
  rw [e]
  refine ⟨fun _ => by decide, fun h => ?_, fun h => ?_⟩
  · rw [Bool.not_eq_true'] at h
    unfold newM; rw [h]; exact post_val rfl rfl
  · rw [Bool.not_eq_false'] at h
    unfold newM; simp only [h, if_true]; exact post_val rfl rfl
def lamplighterref04_Check.C : Contract
  | [.agg [.sl false (.ints .i64 vol), .sl false (.ints .i64 per), .sl false (.pends pend)]] => some (false, pD (smallM vol per pend) (.bool (checkB vol per pend)))
  | _ => none
set_option maxRecDepth 20000 in
theorem lamplighterref04_Check.spec : FSpec Try.prog 28 lamplighterref04_Check.C := by
  refine FSpec.of (ctx_ok (F := [(16, lamplighterref02_Numbers.C)]) (S := []) (by simpa using lamplighterref02_Numbers.spec) (by simp) lamplighterref04_Check.loops) lamplighterref04_Check.at lamplighterref04_Check.nm lamplighterref04_Check.bd ?_
  intro vs b S v news e hS
  unfold lamplighterref04_Check.C at e
  split at e
  rotate_left
  · cases e
  cases e
  rw [lamplighterref04_Check.eq]
  unfold lamplighterref04_Check.H
  simp (maxSteps := 4000000) only [go_sem, Nat.reduceEqDiff, Nat.reduceLT, Nat.reduceAdd, Nat.reduceSub, Nat.reduceLeDiff, List.reduceReplicate, Int.reduceToNat, lamplighterref02_Numbers.C]
  rename_i vol per pend
  obtain ⟨s1, s2, s3⟩ := hS
  unfold roomy at s1 s2 s3
  refine ⟨fun _ => by decide, fun h => ?_, fun h => ⟨s2, ?_⟩⟩
  · have : checkB vol per pend = false := by
      cases e : checkB vol per pend with
      | false => rfl
      | true =>
        have := check_iff.1 e
        have h1 := this.len
        have h2 := this.sz
        have h3 := this.md
        simp only [Bool.or_eq_true, Bool.not_eq_true', decide_eq_true_eq, decide_eq_false_iff_not] at h
        rw [Int.tmod_eq_emod_of_nonneg (by omega)] at h
        omega
    rw [this]; exact post_val rfl rfl
  simp only [Bool.or_eq_false_iff, Bool.not_eq_false', decide_eq_true_eq, decide_eq_false_iff_not] at h
  have hlen : vol.length = per.length := by omega
  have hmd : vol.length % 8 = 0 := by
    have := h.2
    rw [Int.tmod_eq_emod_of_nonneg (by omega)] at this
    omega
  rw [joinW_eq]
  unfold lamplighterref04_Check.L1
  refine loop1 (σ := Nat) (fun k => .int .i64 k) (fun k => [.box (memV vol per pend), .row .own 0 (.ints .i64 []), .row .own 0 (.ints .i64 (app (pend.take k) per))]) (fun k => pend.length - k)
    (fun k => k ≤ pend.length ∧ (∀ p ∈ pend.take k, 0 ≤ p.at_ ∧ p.at_ < (vol.length : Int)) ∧ LineWise (fun p => p.fl) (pend.take k)) 0 rfl rfl ⟨Nat.zero_le _, by simp, by simp [LineWise]⟩ ?_
  rintro I back k ⟨hk, hrg, hlw⟩
  simp only [go_sem, Nat.reduceEqDiff, Nat.reduceLT, Nat.reduceAdd, Nat.reduceSub, Nat.reduceLeDiff, List.reduceReplicate, Int.reduceToNat, app_len]
  refine ⟨fun hlt => ⟨by omega, ?_⟩, fun hge => ?_⟩
  · have hkl : k < pend.length := by omega
    have hmem := getD_mem pend k ⟨0, 0, false⟩ hkl
    have htk := take_next pend k ⟨0, 0, false⟩ hkl
    generalize pend.getD k ⟨0, 0, false⟩ = p at *
    refine ⟨fun hb => ?_, fun hb => ?_⟩
    · have : checkB vol per pend = false := by
        cases e : checkB vol per pend with
        | false => rfl
        | true =>
          have := (check_iff.1 e).rng p hmem
          simp only [Bool.or_eq_true, decide_eq_true_eq] at hb
          omega
      rw [this]; exact post_val rfl rfl
    rw [Bool.or_eq_false_iff, decide_eq_false_iff_not, decide_eq_false_iff_not] at hb
    rw [joinW_eq]
    unfold lamplighterref04_Check.L2
    refine loop1 (σ := Nat) (fun j => .int .i64 j) (fun _ => [.box (memV vol per pend), .row .own 0 (.ints .i64 []), .row .own 0 (.ints .i64 (app (pend.take k) per)), .box (.agg [.int .i64 p.at_, .int .i64 p.val, .bool p.fl])]) (fun j => k - j)
      (fun j => j ≤ k ∧ ∀ q ∈ pend.take j, lineOf q.at_ = lineOf p.at_ → p.fl = true → q.fl = true) 0 rfl rfl ⟨Nat.zero_le _, by simp⟩ ?_
    rintro I2 back2 j ⟨hj, hall⟩
    simp only [go_sem, Nat.reduceEqDiff, Nat.reduceLT, Nat.reduceAdd, Nat.reduceSub, Nat.reduceLeDiff, List.reduceReplicate, Int.reduceToNat, app_len]
    refine ⟨fun hc => ?_, fun hc => ?_⟩
    · rw [Bool.and_eq_true, decide_eq_true_eq] at hc
      obtain ⟨hjk, hfl⟩ := hc
      have hjp : j < pend.length := by omega
      have hjm : pend.getD j ⟨0, 0, false⟩ ∈ pend.take k := by
        have : j < (pend.take k).length := by rw [List.length_take]; omega
        have e : (pend.take k).getD j ⟨0, 0, false⟩ = pend.getD j ⟨0, 0, false⟩ := by
          rw [List.getD_eq_getElem?_getD, List.getElem?_take, if_pos (by omega), List.getD_eq_getElem?_getD]
        rw [← e]; exact getD_mem _ _ _ this
      have htj := take_next pend j ⟨0, 0, false⟩ hjp
      generalize pend.getD j ⟨0, 0, false⟩ = q at *
      refine ⟨by omega, by decide, by decide, fun _ => by omega, fun hx => ?_, fun hx => ?_⟩
      · rw [Bool.and_eq_true, decide_eq_true_eq, Bool.not_eq_true'] at hx
        have : checkB vol per pend = false := by
          cases e : checkB vol per pend with
          | false => rfl
          | true =>
            have h2 := (check_iff.1 e).ord.sublist (List.take_sublist (k + 1) pend)
            rw [htk, List.pairwise_append] at h2
            have h3 : q.fl = true := h2.2.2 q hjm p (by simp) hx.1 hfl
            rw [hx.2] at h3; cases h3
        rw [this]; exact post_val rfl rfl
      · refine back2 (j + 1) (by omega) (by rw [wnext (by omega)]) rfl ⟨by omega, fun r hr hl hf => ?_⟩
        rw [htj, List.mem_append, List.mem_singleton] at hr
        rcases hr with hr | rfl
        · exact hall r hr hl hf
        · rw [Bool.and_eq_false_iff, decide_eq_false_iff_not, Bool.not_eq_false'] at hx
          rcases hx with hx | hx
          · exact absurd hl hx
          · exact hx
    · refine ⟨⟨by omega, by omega⟩, by omega, back (k + 1) (by omega) (by rw [wnext (by omega)]) ?_ ⟨by omega, fun q hq => ?_, ?_⟩⟩
      · rw [htk, app_append]; rfl
      · rw [htk, List.mem_append, List.mem_singleton] at hq
        rcases hq with hq | rfl
        · exact hrg q hq
        · omega
      · unfold LineWise
        rw [htk, List.pairwise_append]
        refine ⟨hlw, List.pairwise_singleton _ _, fun q hq r hr hl hf => ?_⟩
        rw [List.mem_singleton] at hr; subst hr
        rw [Bool.and_eq_false_iff, decide_eq_false_iff_not] at hc
        rcases hc with hc | hc
        · exact hall q (by rw [show j = k by omega]; exact hq) hl hf
        · have hf : r.fl = true := hf
          rw [hc] at hf; cases hf
  · obtain rfl : k = pend.length := by omega
    rw [List.take_length] at *
    have e : (app pend per).take per.length = app pend per := take_len _ (by rw [app_len]; exact Nat.le_refl _)
    rw [e]
    simp only [lamplighterref02_Numbers.C, go_sem, Nat.reduceEqDiff, Nat.reduceLT, Nat.reduceAdd, Nat.reduceSub, Nat.reduceLeDiff, List.reduceReplicate, Int.reduceToNat, app_len]
    refine ⟨s2, ?_⟩
    have : checkB vol per pend = decide (app pend per = vol) := by
      by_cases e : app pend per = vol
      · rw [decide_eq_true e, check_iff]
        exact ⟨hlen, by omega, hmd, fun p hp => by have := hrg p hp; omega, hlw, e⟩
      · rw [decide_eq_false e]
        cases c : checkB vol per pend with
        | false => rfl
        | true => exact absurd (check_iff.1 c).eq e
    rw [this]; exact post_val rfl rfl
def lamplighterref04_Put.C : Contract
  | [.agg [.sl false (.ints .i64 vol), .sl false (.ints .i64 per), .sl false (.pends pend)], .int .i64 at_, .int .i64 val] => some (false, pD (smallM vol per pend ∧ roomy (pend.length + 1)) (putM vol per pend at_ val))
  | _ => none
set_option maxRecDepth 20000 in
theorem lamplighterref04_Put.spec : FSpec Try.prog 19 lamplighterref04_Put.C := by
  refine FSpec.of (ctx_ok (F := [(28, lamplighterref04_Check.C), (41, lamplighterref04_set.C)]) (S := []) (by simpa using ⟨lamplighterref04_Check.spec, lamplighterref04_set.spec⟩) (by simp) lamplighterref04_Put.loops) lamplighterref04_Put.at lamplighterref04_Put.nm lamplighterref04_Put.bd ?_
  intro vs b S v news e hS
  unfold lamplighterref04_Put.C at e
  split at e
  rotate_left
  · cases e
  cases e
  rw [lamplighterref04_Put.eq]
  unfold lamplighterref04_Put.H
  simp (maxSteps := 4000000) only [go_sem, Nat.reduceEqDiff, Nat.reduceLT, Nat.reduceAdd, Nat.reduceSub, Nat.reduceLeDiff, List.reduceReplicate, Int.reduceToNat, lamplighterref04_Check.C, lamplighterref04_set.C]
  rename_i vol per pend at_ val
  obtain ⟨hS, hr⟩ := hS
  have e : (!checkB vol per pend || decide (at_ < 0) || decide ((vol.length : Int) ≤ at_)) = !placeB vol per pend at_ := by
    unfold placeB
    cases checkB vol per pend
    · simp
    · rw [Bool.eq_iff_iff]; simp only [Bool.and_eq_true, Bool.or_eq_true, Bool.not_eq_true', Bool.not_eq_false', Bool.not_eq_true, decide_eq_true_eq, decide_eq_false_iff_not, Bool.or_eq_false_iff, Bool.and_eq_false_iff, beq_iff_eq]; simp <;> omega
  rw [e]
  refine ⟨hS, fun h => ?_, fun h => ?_⟩
  · rw [Bool.not_eq_true'] at h
    unfold putM; rw [h]; exact post_val rfl rfl
  · rw [Bool.not_eq_false'] at h
    have hp : 0 ≤ at_ ∧ at_ < (vol.length : Int) := by
      simp only [placeB, Bool.and_eq_true, decide_eq_true_eq] at h
      exact h.1
    have hl : (pend ++ [(⟨at_, val, false⟩ : Pend)]).length = pend.length + 1 := by simp
    refine ⟨⟨hp.1, hp.2, hS.1⟩, hS.2.2, by rw [hl]; exact hr, rfl, rfl, ?_⟩
    unfold putM; simp only [h, if_true]
    refine post_val ?_ rfl
    simp only [go_sem, Nat.reduceEqDiff, Nat.reduceLT, Nat.reduceAdd, Nat.reduceSub, Nat.reduceLeDiff, List.reduceReplicate, Int.reduceToNat, List.take_length]
def lamplighterref04_Flush.C : Contract
  | [.agg [.sl false (.ints .i64 vol), .sl false (.ints .i64 per), .sl false (.pends pend)], .int .i64 line] => some (false, pD (smallM vol per pend) (flushM vol per pend line))
  | _ => none
set_option maxRecDepth 20000 in
theorem lamplighterref04_Flush.spec : FSpec Try.prog 20 lamplighterref04_Flush.C := by
  refine FSpec.of (ctx_ok (F := [(28, lamplighterref04_Check.C), (42, lamplighterref04_line.C)]) (S := []) (by simpa using ⟨lamplighterref04_Check.spec, lamplighterref04_line.spec⟩) (by simp) lamplighterref04_Flush.loops) lamplighterref04_Flush.at lamplighterref04_Flush.nm lamplighterref04_Flush.bd ?_
  intro vs b S v news e hS
  unfold lamplighterref04_Flush.C at e
  split at e
  rotate_left
  · cases e
  cases e
  rw [lamplighterref04_Flush.eq]
  unfold lamplighterref04_Flush.H
  simp (maxSteps := 4000000) only [go_sem, Nat.reduceEqDiff, Nat.reduceLT, Nat.reduceAdd, Nat.reduceSub, Nat.reduceLeDiff, List.reduceReplicate, Int.reduceToNat, lamplighterref04_Check.C, lamplighterref04_line.C]
  rename_i vol per pend line
  rw [place_first (vol := vol) hS]
  obtain ⟨s1, s2, s3⟩ := hS
  refine ⟨⟨s1, s2, s3⟩, fun _ => s1, fun h => ?_, fun h => ?_⟩
  · rw [Bool.not_eq_true'] at h
    unfold flushM; rw [h]; exact post_val rfl rfl
  rw [Bool.not_eq_false'] at h
  unfold roomy at s1 s2 s3
  rw [joinW_eq]
  unfold lamplighterref04_Flush.L1
  refine loop1 (σ := Nat × Nat) (fun s => .int .i64 s.1) (fun s => [.box (memV vol per pend), .box (memV [] [] []), .box (.agg [.sl false (.ints .i64 vol), .sl false (.ints .i64 per), .sref false 3 s.2 0 s.1]), .row .own s.2 (.pends (flushP line (pend.take s.1)))]) (fun s => pend.length - s.1) (fun s => s.1 ≤ pend.length) (0, 0) rfl rfl (Nat.zero_le _) ?_
  rintro I back ⟨k, v⟩ hk
  simp only [] at hk ⊢
  have hfl : (flushP line (pend.take k)).length = k := by unfold flushP; simp; omega
  have hsn : ∀ p : Pend, flushP line [p] = [⟨p.at_, p.val, p.fl || decide (lineOf p.at_ = line)⟩] := fun p => by
    unfold flushP
    by_cases e : lineOf p.at_ = line <;> simp [e]
  have happ : ∀ a b : List Pend, flushP line (a ++ b) = flushP line a ++ flushP line b := fun a b => by unfold flushP; simp
  simp only [go_sem, Nat.reduceEqDiff, Nat.reduceLT, Nat.reduceAdd, Nat.reduceSub, Nat.reduceLeDiff, List.reduceReplicate, Int.reduceToNat, hfl]
  refine ⟨fun hlt => ⟨by omega, fun _ => by decide, ?_⟩, fun hge => ?_⟩
  · have hkl : k < pend.length := by omega
    have hnx : flushP line (pend.take (k + 1)) = flushP line (pend.take k) ++ [⟨(pend.getD k ⟨0, 0, false⟩).at_, (pend.getD k ⟨0, 0, false⟩).val, (pend.getD k ⟨0, 0, false⟩).fl || decide (lineOf (pend.getD k ⟨0, 0, false⟩).at_ = line)⟩] := by
      rw [take_next pend k ⟨0, 0, false⟩ hkl, happ, hsn]
    have hl1 : (flushP line (pend.take (k + 1))).length = k + 1 := by unfold flushP; simp; omega
    unfold lineOf at hnx
    rw [← hnx, hl1]
    exact ⟨by unfold roomy; omega, back (k + 1, v + 1) (by show _ - (k + 1) < _ - k; omega) (by rw [wnext (by omega)]) rfl (by omega)⟩
  · obtain rfl : k = pend.length := by omega
    rw [List.take_length] at hfl ⊢
    unfold flushM
    simp only [h, if_true]
    refine post_val ?_ rfl
    simp only [go_sem, Nat.reduceEqDiff, Nat.reduceLT, Nat.reduceAdd, Nat.reduceSub, Nat.reduceLeDiff, List.reduceReplicate, Int.reduceToNat, take_len _ (Nat.le_of_eq hfl)]
def keptB : List Bool → List Pend → List Pend
  | true :: bs, p :: ps => p :: keptB bs ps
  | false :: bs, p :: ps => keptB bs ps
  | _, _ => []
def restB : List Bool → List Pend → List Pend
  | true :: bs, p :: ps => restB bs ps
  | false :: bs, p :: ps => p :: restB bs ps
  | _, _ => []
theorem keptB_map (f : Pend → Bool) : ∀ l : List Pend, keptB (l.map f) l = l.filter f
  | [] => rfl
  | p :: r => by
    have ih := keptB_map f r
    cases h : f p <;> simp [h, keptB, ih]
theorem restB_map (f : Pend → Bool) : ∀ l : List Pend, restB (l.map f) l = keepP f l
  | [] => rfl
  | p :: r => by
    have ih := restB_map f r
    unfold keepP at ih ⊢
    cases h : f p <;> simp [h, restB, ih]
theorem kept_snoc (b : Bool) (p : Pend) : ∀ (bs : List Bool) (l : List Pend), bs.length = l.length → keptB (bs ++ [b]) (l ++ [p]) = (match b with | true => keptB bs l ++ [p] | false => keptB bs l) ∧ restB (bs ++ [b]) (l ++ [p]) = (match b with | true => restB bs l | false => restB bs l ++ [p])
  | [], [], _ => by cases b <;> exact ⟨rfl, rfl⟩
  | [], _ :: _, h => by cases h
  | _ :: _, [], h => by cases h
  | c :: bs, q :: l, h => by
    have ih := kept_snoc b p bs l (by simpa using h)
    cases c <;> cases b <;> simp [keptB, restB, ih.1, ih.2]
theorem restB_len : ∀ (bs : List Bool) (l : List Pend), (restB bs l).length ≤ l.length
  | [], l => by simp [restB]
  | b :: bs, [] => by simp [restB]
  | b :: bs, p :: l => by
    have := restB_len bs l
    cases b <;> simp [restB] <;> omega
def lamplighterref04_keep.C : Contract
  | [.agg [.sl false (.ints .i64 vol), .sl false (.ints .i64 per), .sl false (.pends pend)], .sl _ (.bools those)] => some (false, pD (smallM vol per pend ∧ those.length = pend.length ∧ ∀ p ∈ pend, 0 ≤ p.at_ ∧ p.at_ < (per.length : Int)) (memV vol (app (keptB those pend) per) (restB those pend)))
  | _ => none
set_option maxRecDepth 20000 in
theorem lamplighterref04_keep.spec : FSpec Try.prog 43 lamplighterref04_keep.C := by
  refine FSpec.of (ctx_ok (F := [(41, lamplighterref04_set.C)]) (S := []) (by simpa using lamplighterref04_set.spec) (by simp) lamplighterref04_keep.loops) lamplighterref04_keep.at lamplighterref04_keep.nm lamplighterref04_keep.bd ?_
  intro vs b S v news e hS
  unfold lamplighterref04_keep.C at e
  split at e
  rotate_left
  · cases e
  cases e
  rw [lamplighterref04_keep.eq]
  unfold lamplighterref04_keep.H
  simp (maxSteps := 4000000) only [go_sem, Nat.reduceEqDiff, Nat.reduceLT, Nat.reduceAdd, Nat.reduceSub, Nat.reduceLeDiff, List.reduceReplicate, Int.reduceToNat, lamplighterref04_set.C]
  rename_i vol per pend _ those
  obtain ⟨⟨s1, s2, s3⟩, hl, hrange⟩ := hS
  unfold roomy at s1 s2 s3
  rw [joinW_eq]
  unfold lamplighterref04_keep.L1
  refine loop1 (σ := Nat × Nat) (fun s => .int .i64 s.1) (fun s => [.box (memV vol per pend), .box (memV [] [] []), .box (.agg [.sl false (.ints .i64 vol), .sl false (.ints .i64 (app (keptB (those.take s.1) (pend.take s.1)) per)), .sref false 3 s.2 0 (restB (those.take s.1) (pend.take s.1)).length]), .row .own s.2 (.pends (restB (those.take s.1) (pend.take s.1)))]) (fun s => pend.length - s.1)
    (fun s => s.1 ≤ pend.length) (0, 0) rfl ?_ (Nat.zero_le _) ?_
  · simp only [List.take_zero]; rfl
  rintro I back ⟨k, v⟩ hk
  simp only [] at hk ⊢
  have hrl := restB_len (those.take k) (pend.take k)
  rw [List.length_take] at hrl
  simp only [go_sem, Nat.reduceEqDiff, Nat.reduceLT, Nat.reduceAdd, Nat.reduceSub, Nat.reduceLeDiff, List.reduceReplicate, Int.reduceToNat, app_len]
  refine ⟨fun hlt => ⟨by omega, ?_⟩, fun hge => ?_⟩
  · have hkl : k < pend.length := by omega
    have hr := hrange _ (getD_mem pend k ⟨0, 0, false⟩ hkl)
    have hs := kept_snoc (those.getD k false) (pend.getD k ⟨0, 0, false⟩) (those.take k) (pend.take k) (by simp; omega)
    rw [← take_next pend k ⟨0, 0, false⟩ hkl, ← take_next those k false (by omega)] at hs
    generalize pend.getD k ⟨0, 0, false⟩ = p at *
    generalize those.getD k false = b at *
    rw [joinW_eq]
    refine ⟨fun hb => ⟨by omega, by omega, ?_⟩, fun hb => ⟨by omega, ?_, ?_⟩⟩
    · subst hb
      simp only [lamplighterref04_set.C, go_sem, Nat.reduceEqDiff, Nat.reduceLT, Nat.reduceAdd, Nat.reduceSub, Nat.reduceLeDiff, List.reduceReplicate, Int.reduceToNat, app_len]
      refine ⟨⟨hr.1, hr.2, s2⟩, back (k + 1, v) (by show _ - (k + 1) < _ - k; omega) (by rw [wnext (by omega)]) ?_ (by show k + 1 ≤ _; omega)⟩
      simp only [hs, app_append, app, memV]
    · unfold roomy; simp; omega
    · subst hb
      simp only [go_sem, Nat.reduceEqDiff, Nat.reduceLT, Nat.reduceAdd, Nat.reduceSub, Nat.reduceLeDiff, List.reduceReplicate, Int.reduceToNat]
      refine back (k + 1, v + 1) (by show _ - (k + 1) < _ - k; omega) (by rw [wnext (by omega)]) ?_ (by show k + 1 ≤ _; omega)
      simp only [hs, memV]
  · obtain rfl : k = pend.length := by omega
    rw [List.take_length, ← hl, List.take_length]
    refine post_val ?_ rfl
    simp only [go_sem, Nat.reduceEqDiff, Nat.reduceLT, Nat.reduceAdd, Nat.reduceSub, Nat.reduceLeDiff, List.reduceReplicate, Int.reduceToNat, List.take_length]
theorem placeB_line {vol per : List Int} {pend : List Pend} {line : Int} (hs : smallM vol per pend) : (!checkB vol per pend || !(decide (0 ≤ line) && decide (line < ((vol.length / 8 : Nat) : Int)))) = !placeB vol per pend (firstI vol line) := place_first hs line
def lamplighterref04_Fence.C : Contract
  | [.agg [.sl false (.ints .i64 vol), .sl false (.ints .i64 per), .sl false (.pends pend)]] => some (false, pD (smallM vol per pend) (fenceM fFl (checkB vol per pend) vol per pend))
  | _ => none
set_option maxRecDepth 20000 in
theorem lamplighterref04_Fence.spec : FSpec Try.prog 21 lamplighterref04_Fence.C := by
  refine FSpec.of (ctx_ok (F := [(28, lamplighterref04_Check.C), (43, lamplighterref04_keep.C)]) (S := []) (by simpa using ⟨lamplighterref04_Check.spec, lamplighterref04_keep.spec⟩) (by simp) lamplighterref04_Fence.loops) lamplighterref04_Fence.at lamplighterref04_Fence.nm lamplighterref04_Fence.bd ?_
  intro vs b S v news e hS
  unfold lamplighterref04_Fence.C at e
  split at e
  rotate_left
  · cases e
  cases e
  rw [lamplighterref04_Fence.eq]
  unfold lamplighterref04_Fence.H
  simp (maxSteps := 4000000) only [go_sem, Nat.reduceEqDiff, Nat.reduceLT, Nat.reduceAdd, Nat.reduceSub, Nat.reduceLeDiff, List.reduceReplicate, Int.reduceToNat, lamplighterref04_Check.C, lamplighterref04_keep.C]
  rename_i vol per pend
  refine ⟨hS, fun h => ?_, fun h => ?_⟩
  · unfold fenceM; rw [h]; exact post_val rfl rfl
  have hrange := check_range h
  obtain ⟨s1, s2, s3⟩ := hS
  unfold roomy at s1 s2 s3
  rw [joinW_eq]
  unfold lamplighterref04_Fence.L1
  refine loop2 (σ := Nat × Nat) (fun s => .sref false 2 s.2 0 s.1) (fun s => .int .i64 s.1) (fun s => [.box (memV vol per pend), .box (memV [] [] []), .row .own s.2 (.bools ((pend.take s.1).map (fFl)))]) (fun s => pend.length - s.1) (fun s => s.1 ≤ pend.length) (0, 0) rfl rfl (Nat.zero_le _) ?_
  rintro I back ⟨k, v⟩ hk
  simp only [] at hk ⊢
  have hml : ((pend.take k).map (fFl)).length = k := by simp; omega
  simp only [go_sem, Nat.reduceEqDiff, Nat.reduceLT, Nat.reduceAdd, Nat.reduceSub, Nat.reduceLeDiff, List.reduceReplicate, Int.reduceToNat, hml]
  refine ⟨fun hlt => ?_, fun hge => ?_⟩
  · have hkl : k < pend.length := by omega
    have hnx : (pend.take (k + 1)).map (fFl) = (pend.take k).map (fFl) ++ [(fFl) (pend.getD k ⟨0, 0, false⟩)] := by rw [take_next pend k ⟨0, 0, false⟩ hkl, List.map_append]; rfl
    have hl1 : ((pend.take (k + 1)).map (fFl)).length = k + 1 := by simp; omega
    refine ⟨by omega, ?_, ?_⟩
    · unfold roomy; simp; omega
    · refine back (k + 1, v + 1) (by show _ - (k + 1) < _ - k; omega) ?_ ?_ (by show k + 1 ≤ _; omega)
      · rw [wnext (by omega)]; simp; omega
      · rw [hnx]; rfl
  · obtain rfl : k = pend.length := by omega
    rw [List.take_length] at *
    simp only [lamplighterref04_keep.C, go_sem, Nat.reduceEqDiff, Nat.reduceLT, Nat.reduceAdd, Nat.reduceSub, Nat.reduceLeDiff, List.reduceReplicate, Int.reduceToNat, take_len _ (Nat.le_of_eq hml), hml]
    refine ⟨⟨⟨s1, s2, s3⟩, hrange⟩, ?_⟩
    unfold fenceM; simp only [h, if_true]
    rw [keptB_map, restB_map, ← keepW_app]
    exact post_val rfl rfl
def lamplighterref04_Evict.C : Contract
  | [.agg [.sl false (.ints .i64 vol), .sl false (.ints .i64 per), .sl false (.pends pend)], .int .i64 line] => some (false, pD (smallM vol per pend) (fenceM (fLn line) (placeB vol per pend (firstI vol line)) vol per pend))
  | _ => none
set_option maxRecDepth 20000 in
theorem lamplighterref04_Evict.spec : FSpec Try.prog 22 lamplighterref04_Evict.C := by
  refine FSpec.of (ctx_ok (F := [(28, lamplighterref04_Check.C), (42, lamplighterref04_line.C), (43, lamplighterref04_keep.C)]) (S := []) (by simpa using ⟨lamplighterref04_Check.spec, lamplighterref04_line.spec, lamplighterref04_keep.spec⟩) (by simp) lamplighterref04_Evict.loops) lamplighterref04_Evict.at lamplighterref04_Evict.nm lamplighterref04_Evict.bd ?_
  intro vs b S v news e hS
  unfold lamplighterref04_Evict.C at e
  split at e
  rotate_left
  · cases e
  cases e
  rw [lamplighterref04_Evict.eq]
  unfold lamplighterref04_Evict.H
  simp (maxSteps := 4000000) only [go_sem, Nat.reduceEqDiff, Nat.reduceLT, Nat.reduceAdd, Nat.reduceSub, Nat.reduceLeDiff, List.reduceReplicate, Int.reduceToNat, lamplighterref04_Check.C, lamplighterref04_line.C, lamplighterref04_keep.C]
  rename_i vol per pend line
  rw [place_first hS]
  refine ⟨hS, fun _ => hS.1, fun h => ?_, fun h => ?_⟩
  · rw [Bool.not_eq_true'] at h
    unfold fenceM; rw [h]; exact post_val rfl rfl
  rw [Bool.not_eq_false'] at h
  have hrange := check_range (place_check h)
  obtain ⟨s1, s2, s3⟩ := hS
  unfold roomy at s1 s2 s3
  rw [joinW_eq]
  unfold lamplighterref04_Evict.L1
  refine loop2 (σ := Nat × Nat) (fun s => .sref false 2 s.2 0 s.1) (fun s => .int .i64 s.1) (fun s => [.box (memV vol per pend), .box (memV [] [] []), .row .own s.2 (.bools ((pend.take s.1).map (fLn line)))]) (fun s => pend.length - s.1) (fun s => s.1 ≤ pend.length) (0, 0) rfl rfl (Nat.zero_le _) ?_
  rintro I back ⟨k, v⟩ hk
  simp only [] at hk ⊢
  have hml : ((pend.take k).map (fLn line)).length = k := by simp; omega
  simp only [go_sem, Nat.reduceEqDiff, Nat.reduceLT, Nat.reduceAdd, Nat.reduceSub, Nat.reduceLeDiff, List.reduceReplicate, Int.reduceToNat, hml]
  refine ⟨fun hlt => ?_, fun hge => ?_⟩
  · have hkl : k < pend.length := by omega
    have hnx : (pend.take (k + 1)).map (fLn line) = (pend.take k).map (fLn line) ++ [(fLn line) (pend.getD k ⟨0, 0, false⟩)] := by rw [take_next pend k ⟨0, 0, false⟩ hkl, List.map_append]; rfl
    have hl1 : ((pend.take (k + 1)).map (fLn line)).length = k + 1 := by simp; omega
    refine ⟨by omega, by decide, ?_, ?_⟩
    · unfold roomy; simp; omega
    · refine back (k + 1, v + 1) (by show _ - (k + 1) < _ - k; omega) ?_ ?_ (by show k + 1 ≤ _; omega)
      · rw [wnext (by omega)]; simp; omega
      · rw [hnx]; rfl
  · obtain rfl : k = pend.length := by omega
    rw [List.take_length] at *
    simp only [lamplighterref04_keep.C, go_sem, Nat.reduceEqDiff, Nat.reduceLT, Nat.reduceAdd, Nat.reduceSub, Nat.reduceLeDiff, List.reduceReplicate, Int.reduceToNat, take_len _ (Nat.le_of_eq hml), hml]
    refine ⟨⟨⟨s1, s2, s3⟩, hrange⟩, ?_⟩
    unfold fenceM; simp only [h, if_true]
    rw [keptB_map, restB_map, ← keepW_app]
    exact post_val rfl rfl
def lamplighterref04_Sync.C : Contract
  | [.agg [.sl false (.ints .i64 vol), .sl false (.ints .i64 per), .sl false (.pends pend)]] => some (false, pD (smallM vol per pend) (fenceM fAll (checkB vol per pend) vol per pend))
  | _ => none
set_option maxRecDepth 20000 in
theorem lamplighterref04_Sync.spec : FSpec Try.prog 24 lamplighterref04_Sync.C := by
  refine FSpec.of (ctx_ok (F := [(28, lamplighterref04_Check.C)]) (S := []) (by simpa using lamplighterref04_Check.spec) (by simp) lamplighterref04_Sync.loops) lamplighterref04_Sync.at lamplighterref04_Sync.nm lamplighterref04_Sync.bd ?_
  intro vs b S v news e hS
  unfold lamplighterref04_Sync.C at e
  split at e
  rotate_left
  · cases e
  cases e
  rw [lamplighterref04_Sync.eq]
  unfold lamplighterref04_Sync.H
  simp (maxSteps := 4000000) only [go_sem, Nat.reduceEqDiff, Nat.reduceLT, Nat.reduceAdd, Nat.reduceSub, Nat.reduceLeDiff, List.reduceReplicate, Int.reduceToNat, lamplighterref04_Check.C]
  rename_i vol per pend
  refine ⟨hS, fun h => ?_, fun h => ?_⟩
  · unfold fenceM; rw [h]; exact post_val rfl rfl
  have e1 : keepW fAll pend per = vol := by
    rw [keepW_app, show pend.filter fAll = pend from List.filter_eq_self.2 fun _ _ => rfl]; exact (check_iff.1 h).eq
  have e2 : keepP fAll pend = [] := List.filter_eq_nil_iff.2 fun _ _ => by simp [fAll]
  unfold fenceM; simp only [h, if_true, e1, e2]
  exact post_val rfl rfl
/-- how many of a line -/
def cntL (L : Int) (l : List Pend) : Nat := (l.filter (fLn L)).length
theorem cntL_snoc (L : Int) (l : List Pend) (p : Pend) : cntL L (l ++ [p]) = cntL L l + (if lineOf p.at_ = L then 1 else 0) := by
  unfold cntL fLn
  rw [List.filter_append, List.length_append]
  by_cases e : lineOf p.at_ = L <;> simp [e]
/-- those that a crash keeps, told one by one -/
def thoseL (keep : List Int) : List Pend → List Pend → List Bool
  | _, [] => []
  | pre, p :: r => decide ((cntL (lineOf p.at_) pre : Int) < leftF keep (lineOf p.at_)) :: thoseL keep (pre ++ [p]) r
theorem thoseL_len (keep : List Int) : ∀ (r pre : List Pend), (thoseL keep pre r).length = r.length
  | [], _ => rfl
  | p :: r, pre => by simp [thoseL, thoseL_len keep r]
theorem thoseL_crash (keep : List Int) : ∀ (r pre : List Pend) (left : Int → Int), (∀ j, (left j).toNat = (leftF keep j).toNat - cntL j pre) → keptB (thoseL keep pre r) r = crashK r left
  | [], _, _, _ => rfl
  | p :: r, pre, left, h => by
    have ih := thoseL_crash keep r (pre ++ [p]) (lessL p left) fun j => by
      rw [cntL_snoc]
      have := h j
      unfold lessL
      by_cases e : lineOf p.at_ = j
      · subst e
        rw [if_pos rfl, if_pos rfl]
        split <;> omega
      · rw [if_neg (fun h => e h.symm), if_neg e]; omega
    have hb : decide ((cntL (lineOf p.at_) pre : Int) < leftF keep (lineOf p.at_)) = decide (0 < left (lineOf p.at_)) := by
      have := h (lineOf p.at_)
      exact decide_eq_decide.2 ⟨fun h => by omega, fun h => by omega⟩
    rw [thoseL, crashK, hb]
    cases decide (0 < left (lineOf p.at_)) <;> simp [keptB, ih]
theorem thoseL_append (keep : List Int) : ∀ (a b pre : List Pend), thoseL keep pre (a ++ b) = thoseL keep pre a ++ thoseL keep (pre ++ a) b
  | [], b, pre => by simp [thoseL]
  | p :: a, b, pre => by
    rw [List.cons_append, thoseL, thoseL_append keep a b, thoseL, List.cons_append, List.append_assoc]; rfl
def lamplighterref04_Crash.C : Contract
  | [.agg [.sl false (.ints .i64 vol), .sl false (.ints .i64 per), .sl false (.pends pend)], .sl _ (.ints .i64 keep)] => some (false, pD (smallM vol per pend ∧ roomy keep.length) (crashM (checkB vol per pend) keep per pend))
  | _ => none
set_option maxRecDepth 20000 in
theorem lamplighterref04_Crash.spec : FSpec Try.prog 25 lamplighterref04_Crash.C := by
  refine FSpec.of (ctx_ok (F := [(28, lamplighterref04_Check.C), (43, lamplighterref04_keep.C)]) (S := []) (by simpa using ⟨lamplighterref04_Check.spec, lamplighterref04_keep.spec⟩) (by simp) lamplighterref04_Crash.loops) lamplighterref04_Crash.at lamplighterref04_Crash.nm lamplighterref04_Crash.bd ?_
  intro vs b S v news e hS
  unfold lamplighterref04_Crash.C at e
  split at e
  rotate_left
  · cases e
  cases e
  rw [lamplighterref04_Crash.eq]
  unfold lamplighterref04_Crash.H
  simp (maxSteps := 4000000) only [go_sem, Nat.reduceEqDiff, Nat.reduceLT, Nat.reduceAdd, Nat.reduceSub, Nat.reduceLeDiff, List.reduceReplicate, Int.reduceToNat, lamplighterref04_Check.C, lamplighterref04_keep.C]
  rename_i vol per pend _ keep
  obtain ⟨hS, hr⟩ := hS
  refine ⟨hS, fun h => ?_, fun h => ?_⟩
  · unfold crashM; rw [h]; exact post_val rfl rfl
  have hrange := check_range h
  have hsz := (check_iff.1 h).sz
  have hln := (check_iff.1 h).len
  obtain ⟨s1, s2, s3⟩ := hS
  unfold roomy at s1 s2 s3 hr
  rw [joinW_eq]
  unfold lamplighterref04_Crash.L1
  refine loop2 (σ := Nat × Nat) (fun s => .sref false 1 s.2 0 s.1) (fun s => .int .i64 s.1) (fun s => [.box (memV vol per pend), .row .own s.2 (.bools (thoseL keep [] (pend.take s.1)))]) (fun s => pend.length - s.1) (fun s => s.1 ≤ pend.length) (0, 0) rfl rfl (Nat.zero_le _) ?_
  rintro I back ⟨k, v⟩ hk
  simp only [] at hk ⊢
  have hml : (thoseL keep [] (pend.take k)).length = k := by rw [thoseL_len]; simp; omega
  simp only [go_sem, Nat.reduceEqDiff, Nat.reduceLT, Nat.reduceAdd, Nat.reduceSub, Nat.reduceLeDiff, List.reduceReplicate, Int.reduceToNat, hml]
  refine ⟨fun hlt => ?_, fun hge => ?_⟩
  · have hkl : k < pend.length := by omega
    have hrp := hrange _ (getD_mem pend k ⟨0, 0, false⟩ hkl)
    have hnx : thoseL keep [] (pend.take (k + 1)) = thoseL keep [] (pend.take k) ++ [decide ((cntL (lineOf (pend.getD k ⟨0, 0, false⟩).at_) (pend.take k) : Int) < leftF keep (lineOf (pend.getD k ⟨0, 0, false⟩).at_))] := by rw [take_next pend k ⟨0, 0, false⟩ hkl, thoseL_append]; rfl
    generalize pend.getD k ⟨0, 0, false⟩ = p at *
    refine ⟨by omega, by decide, ?_⟩
    rw [joinW_eq]
    unfold lamplighterref04_Crash.L2
    refine loop2 (σ := Nat) (fun j => .int .i64 (cntL (lineOf p.at_) (pend.take j) : Nat)) (fun j => .int .i64 j) (fun _ => [.box (memV vol per pend), .row .own v (.bools (thoseL keep [] (pend.take k)))]) (fun j => k - j) (fun j => j ≤ k) 0 rfl rfl (Nat.zero_le _) ?_
    rintro I2 back2 j hj
    simp only [go_sem, Nat.reduceEqDiff, Nat.reduceLT, Nat.reduceAdd, Nat.reduceSub, Nat.reduceLeDiff, List.reduceReplicate, Int.reduceToNat, hml]
    have hc0 : ∀ j, j ≤ pend.length → cntL (lineOf p.at_) (pend.take j) ≤ j := fun j hj => Nat.le_trans (List.length_filter_le _ _) (by simp; omega)
    refine ⟨fun hjk => ⟨by omega, by decide, ?_⟩, fun hjk => ?_⟩
    · have hcn := cntL_snoc (lineOf p.at_) (pend.take j) (pend.getD j ⟨0, 0, false⟩)
      rw [← take_next pend j ⟨0, 0, false⟩ (by omega)] at hcn
      have hcj := hc0 j (by omega)
      rw [joinW_eq]
      refine ⟨fun hl => ?_, fun hl => ?_⟩
      · have hl : lineOf (pend.getD j ⟨0, 0, false⟩).at_ = lineOf p.at_ := hl
        rw [if_pos hl] at hcn
        simp only [go_sem, Nat.reduceEqDiff, Nat.reduceLT, Nat.reduceAdd, Nat.reduceSub, Nat.reduceLeDiff, List.reduceReplicate, Int.reduceToNat]
        refine back2 (j + 1) (by omega) ?_ rfl (by omega)
        rw [wnext (by omega), wnext (by omega), hcn]
      · have hl : ¬ lineOf (pend.getD j ⟨0, 0, false⟩).at_ = lineOf p.at_ := hl
        rw [if_neg hl] at hcn
        simp only [go_sem, Nat.reduceEqDiff, Nat.reduceLT, Nat.reduceAdd, Nat.reduceSub, Nat.reduceLeDiff, List.reduceReplicate, Int.reduceToNat]
        refine back2 (j + 1) (by omega) ?_ rfl (by omega)
        rw [wnext (by omega), hcn]; rfl
    · obtain rfl : j = k := by omega
      have hL : lineOf p.at_ = p.at_ / 8 := lineOf_eq (by omega) (by omega)
      have hw : IntKind.i64.wrap ((keep.length : Int) - 1) = (keep.length : Int) - 1 := w64 (by omega) (by omega)
      have hdec : (decide (lineOf p.at_ < (keep.length : Int)) && decide ((cntL (lineOf p.at_) (pend.take j) : Int) < keep.getD (if (keep.length : Int) - 1 < lineOf p.at_ then (keep.length : Int) - 1 else lineOf p.at_).toNat 0)) = decide ((cntL (lineOf p.at_) (pend.take j) : Int) < leftF keep (lineOf p.at_)) := by
        unfold leftF
        have h0 : 0 ≤ lineOf p.at_ := by omega
        rw [if_pos h0]
        by_cases e : lineOf p.at_ < (keep.length : Int)
        · rw [if_neg (show ¬ (keep.length : Int) - 1 < lineOf p.at_ by omega), decide_eq_true e, Bool.true_and]
        · rw [decide_eq_false e, Bool.false_and, List.getD_eq_getElem?_getD, List.getElem?_eq_none (by omega)]
          exact (decide_eq_false (by simp)).symm
      rw [hw]
      have hl1 : (thoseL keep [] (pend.take (j + 1))).length = j + 1 := by rw [thoseL_len]; simp; omega
      have hfold : IntKind.i64.wrap (p.at_.tdiv 8) = lineOf p.at_ := rfl
      rw [hfold, hdec, ← hnx, hl1]
      refine ⟨fun hlt => ?_, by unfold roomy; omega, back (j + 1, v + 1) (by show _ - (j + 1) < _ - j; omega) (by rw [wnext (by omega)]) rfl (by show j + 1 ≤ _; omega)⟩
      rw [hL] at hlt ⊢
      split <;> omega
  · obtain rfl : k = pend.length := by omega
    rw [List.take_length] at *
    simp only [lamplighterref04_keep.C, go_sem, Nat.reduceEqDiff, Nat.reduceLT, Nat.reduceAdd, Nat.reduceSub, Nat.reduceLeDiff, List.reduceReplicate, Int.reduceToNat, take_len _ (Nat.le_of_eq hml), hml]
    refine ⟨⟨⟨s1, s2, s3⟩, hrange⟩, ?_⟩
    rw [thoseL_crash keep pend [] (leftF keep) fun j => rfl]
    unfold crashM; simp only [h, if_true]
    exact post_val rfl rfl
end Lam
namespace Lam
open Go Go.Proofs
set_option linter.unusedVariables false
def lamplighterlaw04_PmemStays.loops : Nat → LInfo
  | 2 => ⟨[], [], [], [(4, none), (3, some [27, 30])], []⟩
  | 12 => ⟨[20], [false], [1, 2, 4, 9, 10, 11, 12, 14, 15, 16, 18, 19], [], []⟩
  | 14 => ⟨[], [], [], [(3, none), (3, some [78, 81])], []⟩
  | 17 => ⟨[], [], [], [(6, none), (5, some [115, 120]), (2, none), (5, some [122, 127]), (2, none), (5, some [129, 134])], []⟩
  | 18 => ⟨[], [], [], [(2, none), (1, some [137, 138]), (2, none), (2, some [140, 142]), (2, none), (2, some [144, 146]), (2, none), (2, some [148, 150]), (2, none), (2, some [152, 154]), (2, none), (2, some [156, 158]), (2, none), (2, some [160, 162]), (2, none), (2, some [164, 166]), (2, none), (4, some [168, 172]), (2, none), (5, some [174, 179]), (2, none), (12, some [181, 193])], []⟩
  | _ => ⟨[], [], [], [], []⟩
def lamplighterlaw04_PmemStays.L1 (c : Ctx) (J2 : AV → AV → AV → AV → AV → AV → AV → AV → AV → AV → AV → List AObj → Prop) (K : AOut → List AObj → Prop) (lv : List AV) (h0 : List AObj) (n0 : Nat) (c1 : AV) (c2 : AV) (c4 : AV) (c9 : AV) (c10 : AV) (c11 : AV) (c12 : AV) (c14 : AV) (c15 : AV) (c16 : AV) (c18 : AV) (c19 : AV) : Prop :=
  ∃ I : Nat → List AV → List AObj → Prop, (∃ n, I n lv h0) ∧ ∀ n h, ∀ t20, I n [t20] h →
    runD (fieldAddrD T_api_Mem c4 0) h fun t70 h =>
    runD (fitD T_sl_int (loadD h t70)) h fun t71 h =>
    runD (lenD T_sl_int h t71) h fun t72 h =>
    runD (binD T_int .lss t20 t72) h fun t73 h =>
    condW t73
    (runD (binD T_api_Errno .eql c11 (.int .i64 0)) h fun t77 h =>
    joinW (fun (J3 : AV → AV → List AObj → Prop) =>
    guardW t77 true
    (runD (binD T_int .eql t20 c1) h fun t81 h =>
      J3 (.bool true) t81 h)
    (J3 (.bool false) .und h))
    (fun t78 t81 h => runD (pickD t78 t81 (.bool false)) h fun t82 h =>
    joinW (fun (J4 : AV → AV → List AObj → Prop) =>
    guardW t82 true
    (runD (fieldAddrD T_api_Mem c10 0) h fun t85 h =>
      runD (fitD T_sl_int (loadD h t85)) h fun t86 h =>
      runD (indexAddrD T_sl_int h t86 t20) h fun t88 h =>
      runD (fitD T_int (loadD h t88)) h fun t89 h =>
      runD (binD T_int .neq t89 c2) h fun t91 h =>
      J4 (.bool true) t91 h)
    (J4 (.bool false) .und h))
    (fun t84 t91 h => runD (pickD t84 t91 (.bool false)) h fun t92 h =>
    joinW (fun (J5 : AV → AV → List AObj → Prop) =>
    guardW t92 false
    (runD (unD .not t82) h fun t95 h =>
      joinW (fun (J6 : AV → AV → List AObj → Prop) =>
      guardW t95 true
      (runD (fieldAddrD T_api_Mem c10 0) h fun t97 h =>
        runD (fitD T_sl_int (loadD h t97)) h fun t98 h =>
        runD (indexAddrD T_sl_int h t98 t20) h fun t100 h =>
        runD (fitD T_int (loadD h t100)) h fun t101 h =>
        runD (fieldAddrD T_api_Mem c4 0) h fun t102 h =>
        runD (fitD T_sl_int (loadD h t102)) h fun t103 h =>
        runD (indexAddrD T_sl_int h t103 t20) h fun t105 h =>
        runD (fitD T_int (loadD h t105)) h fun t106 h =>
        runD (binD T_int .neq t101 t106) h fun t107 h =>
        J6 (.bool true) t107 h)
      (J6 (.bool false) .und h))
      (fun t96 t107 h => runD (pickD t96 t107 (.bool false)) h fun t108 h =>
      J5 (.bool false) t108 h))
    (J5 (.bool true) .und h))
    (fun t93 t108 h => runD (pickD t93 (.bool true) t108) h fun t109 h =>
    condW t109
    (K (.ret (.bool false)) h)
    (runD (binD T_int .add t20 (.int .i64 1)) h fun t75 h =>
    (∃ m, m < n ∧ I m (AV.norms n0 h [t75]) (normH n0 h)) ∧ AV.norms n0 h [c1, c2, c4, c9, c10, c11, c12, c14, c15, c16, c18, c19] = [c1, c2, c4, c9, c10, c11, c12, c14, c15, c16, c18, c19])))))
    (J2 c1 c4 c9 c10 c11 c12 c14 c15 c16 c18 c19 h)
def lamplighterlaw04_PmemStays.H (c : Ctx) (t0 : AV) (t1 : AV) (t2 : AV) (t3 : AV) (h : List AObj) (K : AOut → List AObj → Prop) : Prop :=
  boxW T_api_Mem t0 h fun t4 h =>
  callW c (.fn (.func 9) [] []) [] h (fun t23 h =>
  runD (fitD T_api_Mem (loadD h t4)) h fun t24 h =>
  callW c (.fn (.func 10) [] []) [t24] h (fun t25 h =>
  runD (unD .not t25) h fun t26 h =>
  joinW (fun (J1 : AV → AV → List AObj → Prop) =>
  guardW t26 false
  (runD (fitD T_api_Mem (loadD h t4)) h fun t28 h =>
    callW c (.fn (.func 11) [] []) [t28] h (fun t29 h =>
    runD (unD .not t29) h fun t30 h =>
    J1 (.bool false) t30 h)
    (fun v h => K (.pan v) h))
  (J1 (.bool true) .und h))
  (fun t27 t30 h => runD (pickD t27 (.bool true) t30) h fun t31 h =>
  condW t31
  (K (.ret t23) h)
  (runD (fitD T_api_Mem (loadD h t4)) h fun t34 h =>
  callW c (.fn (.func 18) [] []) [t34, t1, t2] h (fun t37 h =>
  runD (extractD t37 0) h fun t38 h =>
  runD (extractD t37 1) h fun t39 h =>
  allocW T_api_Mem h fun t10 h =>
  runH (storeH T_api_Mem h t10 t38) h fun _ h =>
  runD (fitD T_api_Mem (loadD h t4)) h fun t41 h =>
  callW c (.fn (.func 12) [] []) [t41, t3] h (fun t43 h =>
  runD (extractD t43 0) h fun t44 h =>
  runD (extractD t43 1) h fun t45 h =>
  allocW T_api_Mem h fun t12 h =>
  runH (storeH T_api_Mem h t12 t44) h fun _ h =>
  runD (fitD T_api_Mem (loadD h t12)) h fun t47 h =>
  callW c (.fn (.func 13) [] []) [t47] h (fun t48 h =>
  runD (extractD t48 0) h fun t49 h =>
  runD (extractD t48 1) h fun t50 h =>
  allocW T_api_Mem h fun t14 h =>
  runH (storeH T_api_Mem h t14 t49) h fun _ h =>
  runD (fitD T_api_Mem (loadD h t4)) h fun t52 h =>
  callW c (.fn (.func 14) [] []) [t52, t3] h (fun t54 h =>
  runD (extractD t54 0) h fun t55 h =>
  runD (extractD t54 1) h fun t56 h =>
  allocW T_api_Mem h fun t16 h =>
  runH (storeH T_api_Mem h t16 t55) h fun _ h =>
  runD (fitD T_api_Mem (loadD h t4)) h fun t58 h =>
  callW c (.fn (.func 23) [] []) [t58] h (fun t59 h =>
  runD (extractD t59 0) h fun t60 h =>
  runD (extractD t59 1) h fun t61 h =>
  allocW T_api_Mem h fun t18 h =>
  runH (storeH T_api_Mem h t18 t60) h fun _ h =>
  runD (fieldAddrD T_api_Mem t10 0) h fun t62 h =>
  runD (fitD T_sl_int (loadD h t62)) h fun t63 h =>
  runD (lenD T_sl_int h t63) h fun t64 h =>
  runD (fieldAddrD T_api_Mem t4 0) h fun t65 h =>
  runD (fitD T_sl_int (loadD h t65)) h fun t66 h =>
  runD (lenD T_sl_int h t66) h fun t67 h =>
  runD (binD T_int .neq t64 t67) h fun t68 h =>
  condW t68
  (K (.ret (.bool false)) h)
  (joinW (fun (J2 : AV → AV → AV → AV → AV → AV → AV → AV → AV → AV → AV → List AObj → Prop) =>
  promV [false] [(.int .i64 0)] h fun lv h => lamplighterlaw04_PmemStays.L1 c J2 K (AV.norms h.length h lv) (normH h.length h) h.length (AV.norm h.length h t1) (AV.norm h.length h t2) (AV.norm h.length h t4) (AV.norm h.length h t23) (AV.norm h.length h t10) (AV.norm h.length h t39) (AV.norm h.length h t12) (AV.norm h.length h t14) (AV.norm h.length h t50) (AV.norm h.length h t16) (AV.norm h.length h t18) (AV.norm h.length h t61))
  (fun t1 t4 t9 t10 t11 t12 t14 t15 t16 t18 t19 h => runD (fieldAddrD T_api_Mem t12 0) h fun t110 h =>
  runD (fitD T_sl_int (loadD h t110)) h fun t111 h =>
  runD (fieldAddrD T_api_Mem t4 0) h fun t112 h =>
  runD (fitD T_sl_int (loadD h t112)) h fun t113 h =>
  callW c (.fn (.func 16) [] []) [t111, t113] h (fun t114 h =>
  joinW (fun (J7 : AV → AV → List AObj → Prop) =>
  guardW t114 true
  (runD (fieldAddrD T_api_Mem t14 0) h fun t116 h =>
    runD (fitD T_sl_int (loadD h t116)) h fun t117 h =>
    runD (fieldAddrD T_api_Mem t4 0) h fun t118 h =>
    runD (fitD T_sl_int (loadD h t118)) h fun t119 h =>
    callW c (.fn (.func 16) [] []) [t117, t119] h (fun t120 h =>
    J7 (.bool true) t120 h)
    (fun v h => K (.pan v) h))
  (J7 (.bool false) .und h))
  (fun t115 t120 h => runD (pickD t115 t120 (.bool false)) h fun t121 h =>
  joinW (fun (J8 : AV → AV → List AObj → Prop) =>
  guardW t121 true
  (runD (fieldAddrD T_api_Mem t16 0) h fun t123 h =>
    runD (fitD T_sl_int (loadD h t123)) h fun t124 h =>
    runD (fieldAddrD T_api_Mem t4 0) h fun t125 h =>
    runD (fitD T_sl_int (loadD h t125)) h fun t126 h =>
    callW c (.fn (.func 16) [] []) [t124, t126] h (fun t127 h =>
    J8 (.bool true) t127 h)
    (fun v h => K (.pan v) h))
  (J8 (.bool false) .und h))
  (fun t122 t127 h => runD (pickD t122 t127 (.bool false)) h fun t128 h =>
  joinW (fun (J9 : AV → AV → List AObj → Prop) =>
  guardW t128 true
  (runD (fieldAddrD T_api_Mem t18 0) h fun t130 h =>
    runD (fitD T_sl_int (loadD h t130)) h fun t131 h =>
    runD (fieldAddrD T_api_Mem t4 0) h fun t132 h =>
    runD (fitD T_sl_int (loadD h t132)) h fun t133 h =>
    callW c (.fn (.func 16) [] []) [t131, t133] h (fun t134 h =>
    J9 (.bool true) t134 h)
    (fun v h => K (.pan v) h))
  (J9 (.bool false) .und h))
  (fun t129 t134 h => runD (pickD t129 t134 (.bool false)) h fun t135 h =>
  joinW (fun (J10 : AV → AV → List AObj → Prop) =>
  guardW t9 true
  (J10 (.bool true) t135 h)
  (J10 (.bool false) .und h))
  (fun t137 t138 h => runD (pickD t137 t138 (.bool false)) h fun t139 h =>
  joinW (fun (J11 : AV → AV → List AObj → Prop) =>
  guardW t139 true
  (runD (fitD T_api_Mem (loadD h t10)) h fun t141 h =>
    callW c (.fn (.func 11) [] []) [t141] h (fun t142 h =>
    J11 (.bool true) t142 h)
    (fun v h => K (.pan v) h))
  (J11 (.bool false) .und h))
  (fun t140 t142 h => runD (pickD t140 t142 (.bool false)) h fun t143 h =>
  joinW (fun (J12 : AV → AV → List AObj → Prop) =>
  guardW t143 true
  (runD (fitD T_api_Mem (loadD h t12)) h fun t145 h =>
    callW c (.fn (.func 11) [] []) [t145] h (fun t146 h =>
    J12 (.bool true) t146 h)
    (fun v h => K (.pan v) h))
  (J12 (.bool false) .und h))
  (fun t144 t146 h => runD (pickD t144 t146 (.bool false)) h fun t147 h =>
  joinW (fun (J13 : AV → AV → List AObj → Prop) =>
  guardW t147 true
  (runD (fitD T_api_Mem (loadD h t14)) h fun t149 h =>
    callW c (.fn (.func 11) [] []) [t149] h (fun t150 h =>
    J13 (.bool true) t150 h)
    (fun v h => K (.pan v) h))
  (J13 (.bool false) .und h))
  (fun t148 t150 h => runD (pickD t148 t150 (.bool false)) h fun t151 h =>
  joinW (fun (J14 : AV → AV → List AObj → Prop) =>
  guardW t151 true
  (runD (fitD T_api_Mem (loadD h t16)) h fun t153 h =>
    callW c (.fn (.func 11) [] []) [t153] h (fun t154 h =>
    J14 (.bool true) t154 h)
    (fun v h => K (.pan v) h))
  (J14 (.bool false) .und h))
  (fun t152 t154 h => runD (pickD t152 t154 (.bool false)) h fun t155 h =>
  joinW (fun (J15 : AV → AV → List AObj → Prop) =>
  guardW t155 true
  (runD (fitD T_api_Mem (loadD h t18)) h fun t157 h =>
    callW c (.fn (.func 11) [] []) [t157] h (fun t158 h =>
    J15 (.bool true) t158 h)
    (fun v h => K (.pan v) h))
  (J15 (.bool false) .und h))
  (fun t156 t158 h => runD (pickD t156 t158 (.bool false)) h fun t159 h =>
  joinW (fun (J16 : AV → AV → List AObj → Prop) =>
  guardW t159 true
  (runD (binD T_api_Errno .eql t15 (.int .i64 0)) h fun t162 h =>
    J16 (.bool true) t162 h)
  (J16 (.bool false) .und h))
  (fun t160 t162 h => runD (pickD t160 t162 (.bool false)) h fun t163 h =>
  joinW (fun (J17 : AV → AV → List AObj → Prop) =>
  guardW t163 true
  (runD (binD T_api_Errno .eql t19 (.int .i64 0)) h fun t166 h =>
    J17 (.bool true) t166 h)
  (J17 (.bool false) .und h))
  (fun t164 t166 h => runD (pickD t164 t166 (.bool false)) h fun t167 h =>
  joinW (fun (J18 : AV → AV → List AObj → Prop) =>
  guardW t167 true
  (runD (fieldAddrD T_api_Mem t18 2) h fun t169 h =>
    runD (fitD T_sl_api_Pending (loadD h t169)) h fun t170 h =>
    runD (lenD T_sl_api_Pending h t170) h fun t171 h =>
    runD (binD T_int .eql t171 (.int .i64 0)) h fun t172 h =>
    J18 (.bool true) t172 h)
  (J18 (.bool false) .und h))
  (fun t168 t172 h => runD (pickD t168 t172 (.bool false)) h fun t173 h =>
  joinW (fun (J19 : AV → AV → List AObj → Prop) =>
  guardW t173 true
  (runD (fieldAddrD T_api_Mem t18 1) h fun t175 h =>
    runD (fitD T_sl_int (loadD h t175)) h fun t176 h =>
    runD (fieldAddrD T_api_Mem t4 0) h fun t177 h =>
    runD (fitD T_sl_int (loadD h t177)) h fun t178 h =>
    callW c (.fn (.func 16) [] []) [t176, t178] h (fun t179 h =>
    J19 (.bool true) t179 h)
    (fun v h => K (.pan v) h))
  (J19 (.bool false) .und h))
  (fun t174 t179 h => runD (pickD t174 t179 (.bool false)) h fun t180 h =>
  joinW (fun (J20 : AV → AV → List AObj → Prop) =>
  guardW t180 true
  (runD (binD T_api_Errno .eql t11 (.int .i64 0)) h fun t183 h =>
    runD (binD T_int .geq t1 (.int .i64 0)) h fun t185 h =>
    joinW (fun (J21 : AV → AV → List AObj → Prop) =>
    guardW t185 true
    (runD (fieldAddrD T_api_Mem t4 0) h fun t188 h =>
      runD (fitD T_sl_int (loadD h t188)) h fun t189 h =>
      runD (lenD T_sl_int h t189) h fun t190 h =>
      runD (binD T_int .lss t1 t190) h fun t191 h =>
      J21 (.bool true) t191 h)
    (J21 (.bool false) .und h))
    (fun t186 t191 h => runD (pickD t186 t191 (.bool false)) h fun t192 h =>
    runD (binD T_bool .eql t183 t192) h fun t193 h =>
    J20 (.bool true) t193 h))
  (J20 (.bool false) .und h))
  (fun t181 t193 h => runD (pickD t181 t193 (.bool false)) h fun t194 h =>
  K (.ret t194) h)))))))))))))))
  (fun v h => K (.pan v) h))))
  (fun v h => K (.pan v) h))
  (fun v h => K (.pan v) h))
  (fun v h => K (.pan v) h))
  (fun v h => K (.pan v) h))
  (fun v h => K (.pan v) h))))
  (fun v h => K (.pan v) h))
  (fun v h => K (.pan v) h)
theorem lamplighterlaw04_PmemStays.eq (F : List (FuncId × Contract)) (S : List (FuncId × Con)) (t0 t1 t2 t3 : AV) (h : List AObj) (K : AOut → List AObj → Prop) : funW (ctx F S lamplighterlaw04_PmemStays.loops) Try.f8 [t0, t1, t2, t3] h K = lamplighterlaw04_PmemStays.H (ctx F S lamplighterlaw04_PmemStays.loops) t0 t1 t2 t3 h K := by kernel_rfl
theorem lamplighterlaw04_PmemStays.at : Try.prog.funcs[8]? = some Try.f8 := by kernel_rfl
theorem lamplighterlaw04_PmemStays.nm : (Try.f8.name == "runtime.NumGoroutine") = false := by kernel_rfl
theorem lamplighterlaw04_PmemStays.bd : Try.f8.body.isNone = false := by kernel_rfl
end Lam
namespace Lam
open Go Go.Proofs
set_option linter.unusedVariables false
set_option linter.unnecessarySimpa false
set_option linter.unusedSimpArgs false
abbrev PmemStays_ctx : Ctx := ctx [(9, lamplighterlaw04_awake.C), (10, lamplighterref04_Few.C), (11, pmem_Check.C), (12, pmem_Flush.C), (13, pmem_Fence.C), (14, pmem_Evict.C), (18, pmem_Put.C), (23, pmem_Sync.C), (16, lamplighterref02_Numbers.C)] [] lamplighterlaw04_PmemStays.loops
set_option maxRecDepth 20000 in
theorem PmemStays_vc (m_vol : List Int) (m_per : List Int) (m_pend : List Pend) (at_ : Int) (val : Int) (line : Int) (w_m_vol : wfL (.ints .i64 m_vol)) (n_m_vol : m_vol.length ≤ maxLen) (w_m_per : wfL (.ints .i64 m_per)) (n_m_per : m_per.length ≤ maxLen) (w_m_pend : wfL (.pends m_pend)) (n_m_pend : m_pend.length ≤ maxLen) (w_at_ : (Lit.int .i64 at_).wf = true) (w_val : (Lit.int .i64 val).wf = true) (w_line : (Lit.int .i64 line).wf = true) : lamplighterlaw04_PmemStays.H PmemStays_ctx (.agg [(.sl false (.ints .i64 m_vol)), (.sl false (.ints .i64 m_per)), (.sl false (.pends m_pend))]) (.int .i64 at_) (.int .i64 val) (.int .i64 line) [] Told := by
  unfold lamplighterlaw04_PmemStays.H
  simp (maxSteps := 4000000) only [go_sem, Nat.reduceEqDiff, Nat.reduceLT, Nat.reduceAdd, Nat.reduceSub, Nat.reduceLeDiff, List.reduceReplicate, Int.reduceToNat, lamplighterlaw04_awake.C, lamplighterref04_Few.C, pmem_Check.C, pmem_Flush.C, pmem_Fence.C, pmem_Evict.C, pmem_Put.C, pmem_Sync.C, lamplighterref02_Numbers.C]
  refine ⟨fun hf => ?_, fun _ => rfl, fun hg => ?_⟩
  · have := few_iff.1 hf
    unfold smallM roomy; omega
  simp only [Bool.or_eq_false_iff, Bool.not_eq_false', few_iff, check_iff] at hg
  obtain ⟨⟨f1, f2, f3⟩, ok⟩ := hg
  have sm := ok.small (by omega)
  have hlen := ok.len
  have eAll : keepW fAll m_pend m_per = m_vol := by
    rw [keepW_app, show m_pend.filter fAll = m_pend from List.filter_eq_self.2 fun _ _ => rfl]; exact ok.eq
  have eAll2 : keepP fAll m_pend = [] := List.filter_eq_nil_iff.2 fun _ _ => by simp [fAll]
  obtain ⟨avol, apend, e, ha, oka, la, he, hpt⟩ : ∃ avol apend, ∃ e : Int, putM m_vol m_per m_pend at_ val = .tup [memV avol m_per apend, .int .i64 e] ∧ OkM avol m_per apend ∧ apend.length ≤ 101 ∧ (e = 0 ↔ 0 ≤ at_ ∧ at_ < (m_vol.length : Int)) ∧ ∀ i : Nat, i < m_vol.length → avol.getD i 0 = if e = 0 ∧ (i : Int) = at_ then val else m_vol.getD i 0 := by
    cases hp : placeB m_vol m_per m_pend at_ with
    | true =>
      have h := (place_iff.1 hp).1
      refine ⟨_, _, _, putM_ok hp, ok.put h.1 h.2, by simp; omega, by simp [h], fun i hi => ?_⟩
      rw [getD_set]
      by_cases e : (i : Int) = at_
      · rw [if_pos ⟨by omega, by omega⟩, if_pos ⟨rfl, e⟩]
      · rw [if_neg (by omega), if_neg (by simp [e])]
    | false =>
      refine ⟨_, _, _, putM_no hp, ok, by omega, ⟨fun h => by simp at h, fun h => ?_⟩, fun i hi => by rw [if_neg (by simp)]⟩
      rw [place_iff.2 ⟨h, ok⟩] at hp; cases hp
  obtain ⟨bp, g, hb, okb, lb⟩ : ∃ bp, ∃ g : Int, flushM m_vol m_per m_pend line = .tup [memV m_vol m_per bp, .int .i64 g] ∧ OkM m_vol m_per bp ∧ bp.length ≤ 100 := by
    cases hq : placeB m_vol m_per m_pend (firstI m_vol line) with
    | true => exact ⟨_, _, flushM_ok hq, ok.flush line, by rw [flushP_len]; omega⟩
    | false => exact ⟨_, _, flushM_no hq, ok, f3⟩
  obtain ⟨dper, dp, g2, hd, okd, ld⟩ : ∃ dper dp, ∃ g : Int, fenceM (fLn line) (placeB m_vol m_per m_pend (firstI m_vol line)) m_vol m_per m_pend = .tup [memV m_vol dper dp, .int .i64 g] ∧ OkM m_vol dper dp ∧ dp.length ≤ 100 := by
    cases hq : placeB m_vol m_per m_pend (firstI m_vol line) with
    | true => exact ⟨_, _, _, fenceM_ok, ok.evict line, Nat.le_trans (keepP_len _ _) f3⟩
    | false => exact ⟨_, _, _, fenceM_no, ok, f3⟩
  have okc := okb.fence
  have lc := keepP_len fFl bp
  have oks : OkM m_vol m_vol [] := ⟨rfl, ok.sz, ok.md, fun p hp => (by cases hp), (by simp [LineWise]), rfl⟩
  simp only [ha, hb, hd, fenceM_ok, check_iff.2 okb, check_iff.2 ok, eAll, eAll2, go_sem, Nat.reduceEqDiff, Nat.reduceLT, Nat.reduceAdd, Nat.reduceSub, Nat.reduceLeDiff, List.reduceReplicate, Int.reduceToNat, pmem_Flush.C, pmem_Fence.C, pmem_Evict.C, pmem_Sync.C]
  have sc := okc.small (by omega)
  generalize keepW fFl bp m_per = cper at *
  generalize keepP fFl bp = cp at *
  have hal : avol.length = m_vol.length := by have := oka.len; omega
  have sa := oka.small (by omega)
  have sb := okb.small (by omega)
  have sd := okd.small (by omega)
  have ss := oks.small (by simp)
  refine ⟨⟨sm, by unfold roomy; omega⟩, sm, sb, sm, sm, fun h => absurd hal (by omega), fun _ => ?_⟩
  rw [joinW_eq]
  unfold lamplighterlaw04_PmemStays.L1
  refine loop1 (σ := Nat) (fun k => .int .i64 k) (fun k => [.box (memV m_vol m_per m_pend), .box (memV avol m_per apend), .box (memV m_vol m_per bp), .box (memV m_vol cper cp), .box (memV m_vol dper dp), .box (memV m_vol m_vol [])]) (fun k => m_vol.length - k) (fun k => k ≤ m_vol.length) 0 rfl rfl (Nat.zero_le _) ?_
  intro I back k hk
  simp only [go_sem, Nat.reduceEqDiff, Nat.reduceLT, Nat.reduceAdd, Nat.reduceSub, Nat.reduceLeDiff, List.reduceReplicate, Int.reduceToNat]
  refine ⟨fun hlt => ?_, fun hge => ?_⟩
  · have hkk := hpt k (by omega)
    rw [hkk, hal]
    by_cases hc : e = 0 ∧ (k : Int) = at_
    · rw [if_pos hc, decide_eq_true hc.1, decide_eq_true hc.2]
      simp only [decide_true, joinW_eq, guard_tt, guard_tf, guard_ft, guard_ff, Int.reduceEq, Int.reduceLT, Int.reduceLE, decide_false, decide_true, Bool.not_false, Bool.not_true, Bool.not_not, not_true_eq_false, not_false_eq_true, true_implies, false_implies, implies_true, and_true, true_and, reduceCtorEq, Bool.and_self, Bool.or_self, Bool.and_true, Bool.true_and, Bool.false_eq_true, if_true, if_false, go_sem, Nat.reduceEqDiff, Nat.reduceLT, Nat.reduceAdd, Nat.reduceSub, Nat.reduceLeDiff, List.reduceReplicate, Int.reduceToNat]
      exact ⟨by omega, back (k + 1) (by omega) (by rw [wnext (by omega)]) rfl (by omega)⟩
    · have : (decide (e = 0) && decide ((k : Int) = at_)) = false := by
        rw [Bool.and_eq_false_iff, decide_eq_false_iff_not, decide_eq_false_iff_not]; omega
      rw [if_neg hc, this]
      simp only [decide_true, joinW_eq, guard_tt, guard_tf, guard_ft, guard_ff, Int.reduceEq, Int.reduceLT, Int.reduceLE, decide_false, decide_true, Bool.not_false, Bool.not_true, Bool.not_not, not_true_eq_false, not_false_eq_true, true_implies, false_implies, implies_true, and_true, true_and, reduceCtorEq, Bool.and_self, Bool.or_self, Bool.and_true, Bool.true_and, Bool.false_eq_true, if_true, if_false, go_sem, Nat.reduceEqDiff, Nat.reduceLT, Nat.reduceAdd, Nat.reduceSub, Nat.reduceLeDiff, List.reduceReplicate, Int.reduceToNat]
      exact ⟨⟨by omega, by omega⟩, back (k + 1) (by omega) (by rw [wnext (by omega)]) rfl (by omega)⟩
  · have r1 : roomy m_vol.length := by unfold roomy; omega
    simp only [pmem_Check.C, lamplighterref02_Numbers.C, check_iff.2 oka, check_iff.2 okb, check_iff.2 okc, check_iff.2 okd, check_iff.2 oks, List.length_nil, joinW_eq, guard_tt, guard_tf, guard_ft, guard_ff, Int.reduceEq, Int.reduceLT, Int.reduceLE, decide_false, decide_true, Bool.not_false, Bool.not_true, Bool.not_not, not_true_eq_false, not_false_eq_true, true_implies, false_implies, implies_true, and_true, true_and, reduceCtorEq, Bool.and_self, Bool.or_self, Bool.and_true, Bool.true_and, Bool.false_eq_true, if_true, if_false, go_sem, Nat.reduceEqDiff, Nat.reduceLT, Nat.reduceAdd, Nat.reduceSub, Nat.reduceLeDiff, List.reduceReplicate, Int.reduceToNat]
    refine ⟨r1, r1, r1, r1, sa, sb, sc, sd, ss, r1, ?_⟩
    have hd0 : decide (e = 0) = (decide (0 ≤ at_) && decide (at_ < (m_vol.length : Int))) := by
      rw [Bool.eq_iff_iff]; simp only [Bool.and_eq_true, Bool.or_eq_true, Bool.not_eq_true', Bool.not_eq_false', Bool.not_eq_true, decide_eq_true_eq, decide_eq_false_iff_not, Bool.or_eq_false_iff, Bool.and_eq_false_iff, beq_iff_eq]; exact he
    rw [hd0]
    cases decide (0 ≤ at_) <;> cases decide (at_ < (m_vol.length : Int)) <;> simp only [guard_tt, guard_ft] <;> rfl
theorem PmemStays_ok : Ok Try.prog PmemStays_ctx := ctx_ok (by simpa using ⟨lamplighterlaw04_awake.spec, lamplighterref04_Few.spec, pmem_Check.spec, pmem_Flush.spec, pmem_Fence.spec, pmem_Evict.spec, pmem_Put.spec, pmem_Sync.spec, lamplighterref02_Numbers.spec⟩) (by simp) _
theorem PmemStays_law (m : AV) (at_ : Int) (val : Int) (line : Int) (g_m : GoodV T_api_Mem m) (w_at_ : (Lit.int .i64 at_).wf = true) (w_val : (Lit.int .i64 val).wf = true) (w_line : (Lit.int .i64 line).wf = true) : funW PmemStays_ctx Try.f8 [m, (.int .i64 at_), (.int .i64 val), (.int .i64 line)] [] Told := by
  obtain ⟨_, rfl, _, _, rfl, ⟨m_vol, rfl, k_m_vol, w_m_vol, n_m_vol⟩, _, _, rfl, ⟨m_per, rfl, k_m_per, w_m_per, n_m_per⟩, _, _, rfl, ⟨m_pend, rfl, k_m_pend, w_m_pend, n_m_pend⟩, rfl⟩ := g_m
  obtain ⟨m_vol, rfl⟩ := gkind_ints k_m_vol
  obtain ⟨m_per, rfl⟩ := gkind_ints k_m_per
  obtain ⟨m_pend, rfl⟩ := gkind_pends k_m_pend
  rw [PmemStays_ctx, lamplighterlaw04_PmemStays.eq]
  exact PmemStays_vc m_vol m_per m_pend at_ val line w_m_vol n_m_vol w_m_per n_m_per w_m_pend n_m_pend w_at_ w_val w_line
end Lam
