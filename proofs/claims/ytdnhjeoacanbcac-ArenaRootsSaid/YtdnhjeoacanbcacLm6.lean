/- What functions of the program come to, each proved from its code. -/
import Derived.Test.YtdnhjeoacanbcacLm5
namespace Lam
open Go Go.Proofs
set_option linter.unusedVariables false
set_option linter.unnecessarySimpa false
set_option linter.unusedSimpArgs false
def micro_may.C : Contract
  | [.agg [.int .i64 k, .int .i64 a, .int .i64 w], .int .i64 n] => some (false, pD True (.bool (mmay ⟨k, a, w⟩ n)))
  | _ => none
set_option maxRecDepth 20000 in
theorem micro_may.spec : FSpec Try.prog 131 micro_may.C := by
  refine FSpec.of (ctx_ok (F := []) (S := []) (by simp) (by simp) micro_may.loops) micro_may.at micro_may.nm micro_may.bd ?_
  intro vs b S v news e hS
  unfold micro_may.C at e
  split at e
  rotate_left
  · cases e
  cases e
  rw [micro_may.eq]
  unfold micro_may.H
  simp (maxSteps := 4000000) only [go_sem, Nat.reduceEqDiff, Nat.reduceLT, Nat.reduceAdd, Nat.reduceSub, Nat.reduceLeDiff, List.reduceReplicate, Int.reduceToNat]
  refine ⟨by decide, ?_⟩
  exact post_val rfl rfl
def micro_Check_1.K : Con := fun args h K => match args with
  | [a0, a1] => micro_Check_1.H (ctx [(131, micro_may.C)] [] micro_Check_1.loops) a0 a1 h K
  | _ => False
theorem micro_Check_1.spec : SSpec Try.prog 130 micro_Check_1.K := by
  refine SSpec.of (ctx_ok (F := [(131, micro_may.C)]) (S := []) (by simpa using micro_may.spec) (by simp) micro_Check_1.loops) micro_Check_1.at micro_Check_1.nm micro_Check_1.bd ?_
  intro args h K hC
  unfold micro_Check_1.K at hC
  split at hC
  · rw [micro_Check_1.eq]; exact hC
  · exact hC.elim
def slices_IndexFunc_sl_api_Micro_api_Micro.K : Con := fun args h K => match args with
  | [a0, a1] => slices_IndexFunc_sl_api_Micro_api_Micro.H (ctx [] [(130, micro_Check_1.K)] slices_IndexFunc_sl_api_Micro_api_Micro.loops) a0 a1 h K
  | _ => False
theorem slices_IndexFunc_sl_api_Micro_api_Micro.spec : SSpec Try.prog 146 slices_IndexFunc_sl_api_Micro_api_Micro.K := by
  refine SSpec.of (ctx_ok (F := []) (S := [(130, micro_Check_1.K)]) (by simp) (by simpa using micro_Check_1.spec) slices_IndexFunc_sl_api_Micro_api_Micro.loops) slices_IndexFunc_sl_api_Micro_api_Micro.at slices_IndexFunc_sl_api_Micro_api_Micro.nm slices_IndexFunc_sl_api_Micro_api_Micro.bd ?_
  intro args h K hC
  unfold slices_IndexFunc_sl_api_Micro_api_Micro.K at hC
  split at hC
  · rw [slices_IndexFunc_sl_api_Micro_api_Micro.eq]; exact hC
  · exact hC.elim
def slices_ContainsFunc_sl_api_Micro_api_Micro.K : Con := fun args h K => match args with
  | [a0, a1] => slices_ContainsFunc_sl_api_Micro_api_Micro.H (ctx [] [(146, slices_IndexFunc_sl_api_Micro_api_Micro.K)] slices_ContainsFunc_sl_api_Micro_api_Micro.loops) a0 a1 h K
  | _ => False
theorem slices_ContainsFunc_sl_api_Micro_api_Micro.spec : SSpec Try.prog 129 slices_ContainsFunc_sl_api_Micro_api_Micro.K := by
  refine SSpec.of (ctx_ok (F := []) (S := [(146, slices_IndexFunc_sl_api_Micro_api_Micro.K)]) (by simp) (by simpa using slices_IndexFunc_sl_api_Micro_api_Micro.spec) slices_ContainsFunc_sl_api_Micro_api_Micro.loops) slices_ContainsFunc_sl_api_Micro_api_Micro.at slices_ContainsFunc_sl_api_Micro_api_Micro.nm slices_ContainsFunc_sl_api_Micro_api_Micro.bd ?_
  intro args h K hC
  unfold slices_ContainsFunc_sl_api_Micro_api_Micro.K at hC
  split at hC
  · rw [slices_ContainsFunc_sl_api_Micro_api_Micro.eq]; exact hC
  · exact hC.elim

theorem micro_Check_1_vc (x : Mic) (n : Int) (h : List AObj) (K : AOut → List AObj → Prop) (id : Nat) (hid : h[id]? = some (.box (.int .i64 n)))
    (hK : K (.ret (.bool (!mmay x n))) (h ++ [.box (encMic x)])) : micro_Check_1.K [.agg [.int .i64 x.kind, .int .i64 x.at_, .int .i64 x.val], .ptr id []] h K := by
  have hlt : id < h.length := (List.getElem?_eq_some_iff.1 hid).1
  have hid' : ∀ r, (h ++ r)[id]? = some (.box (.int .i64 n)) := fun r => by rw [List.getElem?_append_left hlt]; exact hid
  have hlen : ∀ o r, (h ++ o :: r)[h.length]? = some o := fun o r => by simp
  unfold micro_Check_1.K
  simp only
  unfold micro_Check_1.H
  simp only [go_sem, Nat.reduceEqDiff, Nat.reduceLT, Nat.reduceAdd, Nat.reduceSub, Nat.reduceLeDiff, List.reduceReplicate, Int.reduceToNat, hid', hlen, micro_may.C]
  exact hK

theorem index_vc (l : List Mic) (n : Int) (K : AOut → List AObj → Prop) (x : Bool) (hr : roomy l.length) (h : List AObj) (hh : h = [.box (.int .i64 n)])
    (hK : ∀ r h', (r = -1 ∧ (∀ y ∈ l, mmay y n = true)) ∨ (0 ≤ r ∧ ∃ y ∈ l, mmay y n = false) → K (.ret (.int .i64 r)) h') :
    slices_IndexFunc_sl_api_Micro_api_Micro.K [.sl x (.mics l), .fn (.func 130) [] [.ptr 0 []]] h K := by
  unfold roomy at hr
  unfold slices_IndexFunc_sl_api_Micro_api_Micro.K
  simp only
  unfold slices_IndexFunc_sl_api_Micro_api_Micro.H
  subst hh
  simp only [go_sem, Nat.reduceEqDiff, Nat.reduceLT, Nat.reduceAdd, Nat.reduceSub, Nat.reduceLeDiff, List.reduceReplicate, Int.reduceToNat, joinW_eq]
  unfold slices_IndexFunc_sl_api_Micro_api_Micro.L1
  refine ⟨fun m lv h' => ∃ k : Nat, k + m = l.length ∧ lv = [.int .i64 k] ∧ h' = [.box (.int .i64 n)] ∧ ∀ y ∈ l.take k, mmay y n = true, ⟨l.length, 0, by omega, rfl, rfl, by simp⟩, ?_⟩
  rintro m h' t8 ⟨k, hk, hlv, rfl, hall⟩
  simp only [List.cons.injEq, and_true] at hlv
  subst hlv
  simp only [go_sem, Nat.reduceEqDiff, Nat.reduceLT, Nat.reduceAdd, Nat.reduceSub, Nat.reduceLeDiff, List.reduceReplicate, Int.reduceToNat]
  refine ⟨fun hlt => ⟨by omega, ?_⟩, fun hge => ?_⟩
  · have hkl : k < l.length := by omega
    apply micro_Check_1_vc _ n _ _ 0 rfl
    simp only [go_sem, Nat.reduceEqDiff, Nat.reduceLT, Nat.reduceAdd, Nat.reduceSub, Nat.reduceLeDiff, List.reduceReplicate, Int.reduceToNat]
    refine ⟨fun h => hK _ _ (.inr ⟨by omega, _, getD_mem l k _ hkl, by simpa using h⟩), fun h => ?_⟩
    refine ⟨m - 1, by omega, k + 1, by omega, by rw [w64 (by omega) (by omega)]; rfl, ?_⟩
    intro y hy
    rw [take_next l k ⟨0, 0, 0⟩ hkl] at hy
    rcases List.mem_append.1 hy with hy | hy
    · exact hall y hy
    · rw [List.mem_singleton.1 hy]; simpa using h
  · have : k = l.length := by omega
    subst this
    rw [List.take_length] at hall
    exact hK _ _ (.inl ⟨rfl, hall⟩)

theorem contains_vc (l : List Mic) (n : Int) (K : AOut → List AObj → Prop) (x : Bool) (hr : roomy l.length) (h : List AObj) (hh : h = [.box (.int .i64 n)])
    (hK : ∀ h', K (.ret (.bool (!l.all (mmay · n)))) h') :
    slices_ContainsFunc_sl_api_Micro_api_Micro.K [.sl x (.mics l), .fn (.func 130) [] [.ptr 0 []]] h K := by
  unfold slices_ContainsFunc_sl_api_Micro_api_Micro.K
  simp only
  unfold slices_ContainsFunc_sl_api_Micro_api_Micro.H
  subst hh
  simp only [go_sem, Nat.reduceEqDiff, Nat.reduceLT, Nat.reduceAdd, Nat.reduceSub, Nat.reduceLeDiff, List.reduceReplicate, Int.reduceToNat]
  apply index_vc l n _ x hr _ rfl
  intro r h' hcase
  simp only [go_sem, Nat.reduceEqDiff, Nat.reduceLT, Nat.reduceAdd, Nat.reduceSub, Nat.reduceLeDiff, List.reduceReplicate, Int.reduceToNat]
  have : decide (0 ≤ r) = !l.all (mmay · n) := by
    rcases hcase with ⟨rfl, h⟩ | ⟨h0, y, hy, h⟩
    · have : l.all (mmay · n) = true := List.all_eq_true.2 h
      rw [this]; rfl
    · have : l.all (mmay · n) = false := by
        rw [List.all_eq_false]; exact ⟨y, hy, by simp [h]⟩
      rw [this]; simpa using h0
  rw [this]; exact hK h'

def micro_Check.C : Contract
  | [.sl _ (.mics l), .int .i64 n] => some (false, pD (roomy l.length) (.bool (sizedB n && l.all (mmay · n))))
  | _ => none
set_option maxRecDepth 20000 in
theorem micro_Check.spec : FSpec Try.prog 107 micro_Check.C := by
  refine FSpec.of (ctx_ok (F := []) (S := [(129, slices_ContainsFunc_sl_api_Micro_api_Micro.K)]) (by simp) (by simpa using slices_ContainsFunc_sl_api_Micro_api_Micro.spec) micro_Check.loops) micro_Check.at micro_Check.nm micro_Check.bd ?_
  intro vs b S v news e hS
  unfold micro_Check.C at e
  split at e
  rotate_left
  · cases e
  cases e
  rw [micro_Check.eq]
  unfold micro_Check.H
  simp (maxSteps := 4000000) only [go_sem, Nat.reduceEqDiff, Nat.reduceLT, Nat.reduceAdd, Nat.reduceSub, Nat.reduceLeDiff, List.reduceReplicate, Int.reduceToNat]
  refine ⟨by simp, ?_⟩
  rw [joinW_eq]
  simp only [guardW_bool]
  refine ⟨fun hs => ?_, fun hs => ?_⟩
  · apply contains_vc _ _ _ _ hS _ rfl
    intro h'
    simp only [go_sem, Nat.reduceEqDiff, Nat.reduceLT, Nat.reduceAdd, Nat.reduceSub, Nat.reduceLeDiff, List.reduceReplicate, Int.reduceToNat, Bool.not_not]
    exact post_val (by rw [show sizedB _ = true from hs, Bool.true_and]; rfl) rfl
  · simp only [go_sem, Nat.reduceEqDiff, Nat.reduceLT, Nat.reduceAdd, Nat.reduceSub, Nat.reduceLeDiff, List.reduceReplicate, Int.reduceToNat]
    exact post_val (by rw [show sizedB _ = false from hs, Bool.false_and]; rfl) rfl


def micro_doer_store.K : Con := fun args h K => match args with
  | [a0, a1] => micro_doer_store.H (ctx [(156, pmem_Put.C)] [] micro_doer_store.loops) a0 a1 h K
  | _ => False
theorem micro_doer_store.spec : SSpec Try.prog 152 micro_doer_store.K := by
  refine SSpec.of (ctx_ok (F := [(156, pmem_Put.C)]) (S := []) (by simpa using pmem_Put.spec) (by simp) micro_doer_store.loops) micro_doer_store.at micro_doer_store.nm micro_doer_store.bd ?_
  intro args h K hC
  unfold micro_doer_store.K at hC
  split at hC
  · rw [micro_doer_store.eq]; exact hC
  · exact hC.elim
def micro_doer_persist.K : Con := fun args h K => match args with
  | [a0, a1] => micro_doer_persist.H (ctx [(157, pmem_Flush.C), (158, pmem_Fence.C)] [] micro_doer_persist.loops) a0 a1 h K
  | _ => False
theorem micro_doer_persist.spec : SSpec Try.prog 153 micro_doer_persist.K := by
  refine SSpec.of (ctx_ok (F := [(157, pmem_Flush.C), (158, pmem_Fence.C)]) (S := []) (by simpa using ⟨pmem_Flush.spec, pmem_Fence.spec⟩) (by simp) micro_doer_persist.loops) micro_doer_persist.at micro_doer_persist.nm micro_doer_persist.bd ?_
  intro args h K hC
  unfold micro_doer_persist.K at hC
  split at hC
  · rw [micro_doer_persist.eq]; exact hC
  · exact hC.elim
def micro_kinds.K : Con := fun args h K => match args with
  | [] => micro_kinds.H (ctx [] [] micro_kinds.loops)  h K
  | _ => False
theorem micro_kinds.spec : SSpec Try.prog 148 micro_kinds.K := by
  refine SSpec.of (ctx_ok (F := []) (S := []) (by simp) (by simp) micro_kinds.loops) micro_kinds.at micro_kinds.nm micro_kinds.bd ?_
  intro args h K hC
  unfold micro_kinds.K at hC
  split at hC
  · rw [micro_kinds.eq]; exact hC
  · exact hC.elim
def micro_first.C : Contract
  | [.agg [.sl false (.ints .i64 vol), .sl false (.ints .i64 per), .sl false (.pends pend)], .sl _ (.mics l), .int .i64 n] => some (false, pD (Mm.ok ⟨vol, per, pend⟩ ∧ (∀ x ∈ l, MayN x vol.length) ∧ pend.length + l.length ≤ 1000000 ∧ 0 ≤ n ∧ n ≤ (l.length : Int)) (runS ⟨vol, per, pend⟩ (l.take n.toNat)).V)
  | _ => none
set_option maxRecDepth 20000 in
theorem micro_first.spec : FSpec Try.prog 133 micro_first.C := by
  refine FSpec.of (ctx_ok (F := []) (S := [(148, micro_kinds.K), (152, micro_doer_store.K), (153, micro_doer_persist.K)]) (by simp) (by simpa using ⟨micro_kinds.spec, micro_doer_store.spec, micro_doer_persist.spec⟩) micro_first.loops) micro_first.at micro_first.nm micro_first.bd ?_
  intro vs b S v news e hS
  unfold micro_first.C at e
  split at e
  rotate_left
  · cases e
  cases e
  rw [micro_first.eq]
  unfold micro_first.H
  simp (maxSteps := 4000000) only [go_sem, Nat.reduceEqDiff, Nat.reduceLT, Nat.reduceAdd, Nat.reduceSub, Nat.reduceLeDiff, List.reduceReplicate, Int.reduceToNat, micro_kinds.K, micro_kinds.H]
  rename_i vol per pend _ l n
  obtain ⟨ok, hl, hsz, hn0, hn1⟩ := hS
  rw [joinW_eq]
  unfold micro_first.L1
  refine loop1 (σ := Nat) (fun k => .int .i64 k) (fun k => [.box (memV vol per pend), .box (memV [] [] []), .box (.agg [(runS ⟨vol, per, pend⟩ (l.take k)).V]), .map (.ifn fun j => if j = 2 then some 153 else if j = 1 then some 152 else none)]) (fun k => n.toNat - k) (fun k => k ≤ n.toNat) 0 rfl rfl (Nat.zero_le _) ?_
  intro I back k hk
  have okk := runS_ok (l.take k) ok fun x hx => hl x ((List.take_sublist _ _).subset hx)
  have lenk := runS_len (l.take k) ⟨vol, per, pend⟩
  have pendk := runS_pend_le (l.take k) ⟨vol, per, pend⟩
  rw [List.length_take] at pendk
  simp only [] at lenk pendk
  simp only [go_sem, Nat.reduceEqDiff, Nat.reduceLT, Nat.reduceAdd, Nat.reduceSub, Nat.reduceLeDiff, List.reduceReplicate, Int.reduceToNat]
  refine ⟨fun hlt => ?_, fun hge => ?_⟩
  · have hkl : k < l.length := by omega
    have hnx : runS ⟨vol, per, pend⟩ (l.take (k + 1)) = stepM (runS ⟨vol, per, pend⟩ (l.take k)) (l.getD k ⟨0, 0, 0⟩) := by
      rw [take_next l k ⟨0, 0, 0⟩ hkl, runS_append]; rfl
    have hx := hl _ (getD_mem l k ⟨0, 0, 0⟩ hkl)
    generalize l.getD k ⟨0, 0, 0⟩ = x at *
    generalize runS ⟨vol, per, pend⟩ (l.take k) = m at *
    have hsm : smallM m.vol m.per m.pend := OkM.small okk (by omega)
    refine ⟨by omega, ?_⟩
    rcases hx with ⟨hkd, h0, h1⟩ | ⟨hkd, h0, h1, _⟩
    · have hp : placeB m.vol m.per m.pend x.at_ = true := place_iff.2 ⟨⟨h0, by omega⟩, okk⟩
      have hst : stepM m x = store m x.at_ x.val := by unfold stepM; rw [if_pos hkd]
      have e : (if x.kind = 2 then some 153 else if x.kind = 1 then some 152 else none : Option Nat) = some 152 := by rw [if_neg (by omega), if_pos hkd]
      simp only [e, micro_doer_store.K, micro_doer_store.H, pmem_Put.C, putM_ok hp, go_sem, Nat.reduceEqDiff, Nat.reduceLT, Nat.reduceAdd, Nat.reduceSub, Nat.reduceLeDiff, List.reduceReplicate, Int.reduceToNat]
      refine ⟨by omega, ⟨hsm, by unfold roomy; omega⟩, back (k + 1) (by omega) (by rw [wnext (by omega)]) ?_ (by omega)⟩
      rw [hnx, hst]; rfl
    · have hp : placeB m.vol m.per m.pend (firstI m.vol x.at_) = true := (OkM.first okk h0 (by omega)).2
      have hst : stepM m x = persist m x.at_ := by unfold stepM; rw [if_neg (by omega)]
      have e : (if x.kind = 2 then some 153 else if x.kind = 1 then some 152 else none : Option Nat) = some 153 := by rw [if_pos hkd]
      have okf := okk.flush x.at_
      simp only [e, micro_doer_persist.K, micro_doer_persist.H, pmem_Flush.C, flushM_ok hp, fenceM_ok, check_iff.2 okf, pmem_Fence.C, go_sem, Nat.reduceEqDiff, Nat.reduceLT, Nat.reduceAdd, Nat.reduceSub, Nat.reduceLeDiff, List.reduceReplicate, Int.reduceToNat]
      refine ⟨by omega, hsm, OkM.small okf (by rw [flushP_len]; omega), back (k + 1) (by omega) (by rw [wnext (by omega)]) ?_ (by omega)⟩
      rw [hnx, hst]; rfl
  · have : k = n.toNat := by omega
    subst this
    refine post_val ?_ rfl
    simp only [go_sem, Nat.reduceEqDiff, Nat.reduceLT, Nat.reduceAdd, Nat.reduceSub, Nat.reduceLeDiff, List.reduceReplicate, Int.reduceToNat]

def soundB (m : Mm) (l : List Mic) : Bool := m.okB && stepsB l m.vol.length
def micro_sound.C : Contract
  | [.agg [.sl false (.ints .i64 vol), .sl false (.ints .i64 per), .sl false (.pends pend)], .sl _ (.mics l)] => some (false, pD (smallM vol per pend ∧ roomy l.length) (.bool (soundB ⟨vol, per, pend⟩ l)))
  | _ => none
set_option maxRecDepth 20000 in
theorem micro_sound.spec : FSpec Try.prog 132 micro_sound.C := by
  refine FSpec.of (ctx_ok (F := [(147, pmem_Check.C), (107, micro_Check.C)]) (S := []) (by simpa using ⟨pmem_Check.spec, micro_Check.spec⟩) (by simp) micro_sound.loops) micro_sound.at micro_sound.nm micro_sound.bd ?_
  intro vs b S v news e hS
  unfold micro_sound.C at e
  split at e
  rotate_left
  · cases e
  cases e
  rw [micro_sound.eq]
  unfold micro_sound.H
  simp (maxSteps := 4000000) only [go_sem, Nat.reduceEqDiff, Nat.reduceLT, Nat.reduceAdd, Nat.reduceSub, Nat.reduceLeDiff, List.reduceReplicate, Int.reduceToNat, pmem_Check.C, micro_Check.C]
  exact ⟨hS.1, fun _ => hS.2, post_val rfl rfl⟩
/-- steps that may be, on a memory that may be -/
theorem sound_iff {m : Mm} {l : List Mic} : soundB m l = true ↔ m.ok ∧ ∀ x ∈ l, MayN x m.vol.length := by
  unfold soundB stepsB
  rw [Bool.and_eq_true, Bool.and_eq_true, Mm.ok_iff, List.all_eq_true]
  constructor
  · rintro ⟨h1, _, h2⟩
    exact ⟨h1, fun x hx => (mmay_iff h1.sz).1 (h2 x hx)⟩
  · rintro ⟨h1, h2⟩
    have hmd := h1.md
    have hsz := h1.sz
    refine ⟨h1, ?_, fun x hx => (mmay_iff h1.sz).2 (h2 x hx)⟩
    unfold sizedB
    simp only [Bool.and_eq_true, decide_eq_true_eq]
    refine ⟨⟨by omega, by omega⟩, ?_⟩
    rw [Int.tmod_eq_emod_of_nonneg (by omega)]; omega
def runV (m : Mm) (l : List Mic) : AV := if soundB m l = true then .tup [(runS m l).V, .int .i64 0] else .tup [m.V, .int .i64 40]
theorem runV_ok {m : Mm} {l : List Mic} (h : soundB m l = true) : runV m l = .tup [(runS m l).V, .int .i64 0] := by unfold runV; simp only [h, if_true]
theorem runV_no {m : Mm} {l : List Mic} (h : soundB m l = false) : runV m l = .tup [m.V, .int .i64 40] := by unfold runV; rw [h]; rfl
theorem runV_ex (m : Mm) (l : List Mic) : ∃ (A : Mm) (e : Int), runV m l = .tup [A.V, .int .i64 e] ∧ A.vol.length = m.vol.length ∧ A.per.length = m.per.length ∧ A.pend.length ≤ m.pend.length + l.length := by
  cases h : soundB m l with
  | true => exact ⟨_, _, runV_ok h, runS_len _ _, runS_per _ _, runS_pend_le _ _⟩
  | false => exact ⟨_, _, runV_no h, rfl, rfl, Nat.le_add_right _ _⟩
def micro_Run.C : Contract
  | [.agg [.sl false (.ints .i64 vol), .sl false (.ints .i64 per), .sl false (.pends pend)], .sl _ (.mics l)] => some (false, pD (smallM vol per pend ∧ pend.length + l.length ≤ 1000000) (runV ⟨vol, per, pend⟩ l))
  | _ => none
set_option maxRecDepth 20000 in
theorem micro_Run.spec : FSpec Try.prog 108 micro_Run.C := by
  refine FSpec.of (ctx_ok (F := [(132, micro_sound.C), (133, micro_first.C)]) (S := []) (by simpa using ⟨micro_sound.spec, micro_first.spec⟩) (by simp) micro_Run.loops) micro_Run.at micro_Run.nm micro_Run.bd ?_
  intro vs b S v news e hS
  unfold micro_Run.C at e
  split at e
  rotate_left
  · cases e
  cases e
  rw [micro_Run.eq]
  unfold micro_Run.H
  simp (maxSteps := 4000000) only [go_sem, Nat.reduceEqDiff, Nat.reduceLT, Nat.reduceAdd, Nat.reduceSub, Nat.reduceLeDiff, List.reduceReplicate, Int.reduceToNat, micro_sound.C, micro_first.C]
  rename_i vol per pend _ l
  obtain ⟨hs, hz⟩ := hS
  refine ⟨⟨hs, by unfold roomy; omega⟩, fun h => ?_, fun h => ?_⟩
  · unfold runV; rw [h]; exact post_val rfl rfl
  · obtain ⟨ok, hl⟩ := sound_iff.1 h
    refine ⟨⟨ok, hl, hz, by omega, by omega⟩, ?_⟩
    unfold runV; simp only [h, if_true]
    refine post_val ?_ rfl
    simp only [go_sem, Nat.reduceEqDiff, Nat.reduceLT, Nat.reduceAdd, Nat.reduceSub, Nat.reduceLeDiff, List.reduceReplicate, Int.reduceToNat, Int.toNat_natCast, List.take_length]
def micro_Do.C : Contract
  | [.agg [.sl false (.ints .i64 vol), .sl false (.ints .i64 per), .sl false (.pends pend)], .agg [.int .i64 a, .int .i64 b, .int .i64 c]] => some (false, pD (smallM vol per pend ∧ pend.length + 1 ≤ 1000000) (runV ⟨vol, per, pend⟩ [⟨a, b, c⟩]))
  | _ => none
set_option maxRecDepth 20000 in
theorem micro_Do.spec : FSpec Try.prog 79 micro_Do.C := by
  refine FSpec.of (ctx_ok (F := [(108, micro_Run.C)]) (S := []) (by simpa using micro_Run.spec) (by simp) micro_Do.loops) micro_Do.at micro_Do.nm micro_Do.bd ?_
  intro vs b S v news e hS
  unfold micro_Do.C at e
  split at e
  rotate_left
  · cases e
  cases e
  rw [micro_Do.eq]
  unfold micro_Do.H
  simp (maxSteps := 4000000) only [go_sem, Nat.reduceEqDiff, Nat.reduceLT, Nat.reduceAdd, Nat.reduceSub, Nat.reduceLeDiff, List.reduceReplicate, Int.reduceToNat, micro_Run.C]
  rename_i vol per pend a b c
  unfold runV
  cases h : soundB ⟨vol, per, pend⟩ [⟨a, b, c⟩]
  · simp only [joinW_eq, guard_tt, guard_tf, guard_ft, guard_ff, Int.reduceEq, Int.reduceLT, Int.reduceLE, decide_false, decide_true, Bool.not_false, Bool.not_true, Bool.not_not, not_true_eq_false, not_false_eq_true, true_implies, false_implies, implies_true, and_true, true_and, reduceCtorEq, Bool.and_self, Bool.or_self, Bool.and_true, Bool.true_and, Bool.false_eq_true, if_true, if_false, go_sem, Nat.reduceEqDiff, Nat.reduceLT, Nat.reduceAdd, Nat.reduceSub, Nat.reduceLeDiff, List.reduceReplicate, Int.reduceToNat]
    exact ⟨⟨hS.1, by omega⟩, post_val rfl rfl⟩
  · simp only [joinW_eq, guard_tt, guard_tf, guard_ft, guard_ff, Int.reduceEq, Int.reduceLT, Int.reduceLE, decide_false, decide_true, Bool.not_false, Bool.not_true, Bool.not_not, not_true_eq_false, not_false_eq_true, true_implies, false_implies, implies_true, and_true, true_and, reduceCtorEq, Bool.and_self, Bool.or_self, Bool.and_true, Bool.true_and, Bool.false_eq_true, if_true, if_false, go_sem, Nat.reduceEqDiff, Nat.reduceLT, Nat.reduceAdd, Nat.reduceSub, Nat.reduceLeDiff, List.reduceReplicate, Int.reduceToNat]
    exact ⟨⟨hS.1, by omega⟩, post_val rfl rfl⟩
def cutI (n : Int) (len : Nat) : Int := if (if (len : Int) < n then (len : Int) else n) > 0 then (if (len : Int) < n then (len : Int) else n) else 0
theorem cutI_range (n : Int) (len : Nat) : 0 ≤ cutI n len ∧ cutI n len ≤ (len : Int) := by unfold cutI; split <;> (try split) <;> omega
theorem cutI_nat {n len : Nat} (h : n ≤ len) : (cutI n len).toNat = n := by unfold cutI; split <;> (try split) <;> omega
def mcrashV (m : Mm) (l : List Mic) (n : Int) (keep : List Int) : AV := if soundB m l = true then .tup [.sl false (.ints .i64 (crashW keep (runS m (l.take (cutI n l.length).toNat)).per (runS m (l.take (cutI n l.length).toNat)).pend)), .int .i64 0] else .tup [.sl false (.ints .i64 []), .int .i64 40]
theorem mcrash_ok {m : Mm} {l : List Mic} {n : Int} {keep : List Int} (h : soundB m l = true) : mcrashV m l n keep = .tup [.sl false (.ints .i64 (crashW keep (runS m (l.take (cutI n l.length).toNat)).per (runS m (l.take (cutI n l.length).toNat)).pend)), .int .i64 0] := by unfold mcrashV; simp only [h, if_true]
theorem mcrash_no {m : Mm} {l : List Mic} {n : Int} {keep : List Int} (h : soundB m l = false) : mcrashV m l n keep = .tup [.sl false (.ints .i64 []), .int .i64 40] := by unfold mcrashV; rw [h]; rfl
theorem mcrash_ex (m : Mm) (l : List Mic) (n : Int) (keep : List Int) : ∃ (w : List Int) (e : Int), mcrashV m l n keep = .tup [.sl false (.ints .i64 w), .int .i64 e] ∧ w.length ≤ m.per.length := by
  cases h : soundB m l with
  | true => exact ⟨_, _, mcrash_ok h, by rw [crashW_len, runS_per]; exact Nat.le_refl _⟩
  | false => exact ⟨_, _, mcrash_no h, Nat.zero_le _⟩
def micro_Crash.C : Contract
  | [.agg [.sl false (.ints .i64 vol), .sl false (.ints .i64 per), .sl false (.pends pend)], .sl _ (.mics l), .int .i64 n, .sl _ (.ints .i64 keep)] => some (false, pD (smallM vol per pend ∧ pend.length + l.length ≤ 1000000 ∧ roomy keep.length ∧ i64s keep) (mcrashV ⟨vol, per, pend⟩ l n keep))
  | _ => none
end Lam
namespace Lam
open Go Go.Proofs
set_option linter.unusedVariables false
def super_Words.loops : Nat → LInfo
  | _ => ⟨[], [], [], [], [], []⟩
def super_Words.H (c : Ctx) (t0 : AV) (t1 : AV) (h : List AObj) (K : AOut → List AObj → Prop) : Prop :=
  callW false c (.fn (.func 80) [] []) [t0, t1] h (fun t10 h =>
  allocW T_super_head h fun t6 h =>
  runH (storeH T_super_head h t6 t10) h fun _ h =>
  runD (fitD T_super_head (loadD h t6)) h fun t11 h =>
  callW false c (.fn (.func 81) [] []) [t11] h (fun t12 h =>
  runD (unD .not t12) h fun t13 h =>
  condW t13
  (K (.ret (.tup [(.sl true (.ints .i64 [])), (.int .i64 1)])) h)
  (runD (makeSliceD T_sl_int (.int .i64 16) (.int .i64 16) h.length) h fun t14 h =>
  runD (fieldAddrD T_super_head t6 0) h fun t16 h =>
  runD (fitD T_int (loadD h t16)) h fun t17 h =>
  runD (fieldAddrD T_super_head t6 1) h fun t18 h =>
  runD (fitD T_int (loadD h t18)) h fun t19 h =>
  runD (fieldAddrD T_super_head t6 2) h fun t20 h =>
  runD (fitD T_int (loadD h t20)) h fun t21 h =>
  runD (fieldAddrD T_super_head t6 3) h fun t22 h =>
  runD (fitD T_int (loadD h t22)) h fun t23 h =>
  runD (buildSliceD T_sl_int 4 [(0, t17), (1, t19), (2, t21), (3, t23)] h.length) h fun t24 h =>
  runM (copyH T_sl_int h t14 t24) h fun t25 h =>
  K (.ret (.tup [t14, (.int .i64 0)])) h))
  (fun v h => K (.pan v) h))
  (fun v h => K (.pan v) h)
def super_Read.loops : Nat → LInfo
  | 6 => ⟨[47], [false], [5, 45, 46], [], [], []⟩
  | _ => ⟨[], [], [], [], [], []⟩
def super_Read.L1 (c : Ctx) (J1 : List AObj → Prop) (J4 : AV → List AObj → Prop) (K : AOut → List AObj → Prop) (lv : List AV) (h0 : List AObj) (n0 : Nat) (c5 : AV) (c45 : AV) (c46 : AV) : Prop :=
  ∃ I : Nat → List AV → List AObj → Prop, (∃ n, I n lv h0) ∧ ∀ n h, ∀ t47, I n [t47] h →
    runD (binD T_int .lss t47 c46) h fun t48 h =>
    condW t48
    (runD (indexAddrD T_sl_int h c45 t47) h fun t49 h =>
    runD (fitD T_int (loadD h t49)) h fun t50 h =>
    runD (binD T_int .neq t50 (.int .i64 0)) h fun t52 h =>
    condW t52
    (J1 h)
    (runD (binD T_int .add t47 (.int .i64 1)) h fun t53 h =>
    (∃ m, m < n ∧ I m (AV.norms n0 h [t53]) (normH n0 h)) ∧ AV.norms n0 h [c5, c45, c46] = [c5, c45, c46]))
    (J4 c5 h)
def super_Read.H (c : Ctx) (t0 : AV) (h : List AObj) (K : AOut → List AObj → Prop) : Prop :=
  joinW (fun (J1 : List AObj → Prop) =>
  allocW T_super_head h fun t5 h =>
  runD (lenD T_sl_int h t0) h fun t9 h =>
  runD (binD T_int .lss t9 (.int .i64 32)) h fun t10 h =>
  condW t10
  (J1 h)
  (runD (indexAddrD T_sl_int h t0 (.int .i64 0)) h fun t12 h =>
  runD (fitD T_int (loadD h t12)) h fun t13 h =>
  runD (indexAddrD T_sl_int h t0 (.int .i64 1)) h fun t15 h =>
  runD (fitD T_int (loadD h t15)) h fun t16 h =>
  runD (indexAddrD T_sl_int h t0 (.int .i64 2)) h fun t18 h =>
  runD (fitD T_int (loadD h t18)) h fun t19 h =>
  runD (indexAddrD T_sl_int h t0 (.int .i64 3)) h fun t21 h =>
  runD (fitD T_int (loadD h t21)) h fun t22 h =>
  runD (buildD T_super_head [(0, t13), (1, t16), (2, t19), (3, t22)]) h fun t23 h =>
  runH (storeH T_super_head h t5 t23) h fun _ h =>
  runD (fitD T_super_head (loadD h t5)) h fun t24 h =>
  runD (fieldAddrD T_super_head t5 1) h fun t25 h =>
  runD (fitD T_int (loadD h t25)) h fun t26 h =>
  runD (fieldAddrD T_super_head t5 3) h fun t27 h =>
  runD (fitD T_int (loadD h t27)) h fun t28 h =>
  callW false c.noS (.fn (.func 80) [] []) [t26, t28] h (fun t29 h =>
  runD (binD T_super_head .neq t24 t29) h fun t30 h =>
  joinW (fun (J2 : AV → AV → List AObj → Prop) =>
  guardW t30 false
  (runD (fitD T_super_head (loadD h t5)) h fun t32 h =>
    callW false c.noS (.fn (.func 81) [] []) [t32] h (fun t33 h =>
    runD (unD .not t33) h fun t34 h =>
    J2 (.bool false) t34 h)
    (fun _ _ => False))
  (J2 (.bool true) .und h))
  (fun t31 t34 h => runD (pickD t31 (.bool true) t34) h fun t35 h =>
  joinW (fun (J3 : AV → AV → List AObj → Prop) =>
  guardW t35 false
  (runD (fieldAddrD T_super_head t5 1) h fun t37 h =>
    runD (fitD T_int (loadD h t37)) h fun t38 h =>
    runD (lenD T_sl_int h t0) h fun t40 h =>
    runD (binD T_int .quo t40 (.int .i64 16)) h fun t41 h =>
    runD (binD T_int .neq t38 t41) h fun t42 h =>
    J3 (.bool false) t42 h)
  (J3 (.bool true) .und h))
  (fun t36 t42 h => runD (pickD t36 (.bool true) t42) h fun t43 h =>
  condW t43
  (J1 h)
  (runD (sliceD T_sl_int h t0 (some (.int .i64 4)) (some (.int .i64 16)) none) h fun t45 h =>
  runD (lenD T_sl_int h t45) h fun t46 h =>
  joinW (fun (J4 : AV → List AObj → Prop) =>
  promV [false] [(.int .i64 0)] h fun lv h => super_Read.L1 c J1 J4 K (AV.norms h.length h lv) (normH h.length h) h.length (AV.norm h.length h t5) (AV.norm h.length h t45) (AV.norm h.length h t46))
  (fun t5 h => runD (fieldAddrD T_super_head t5 1) h fun t54 h =>
  runD (fitD T_int (loadD h t54)) h fun t55 h =>
  runD (fieldAddrD T_super_head t5 3) h fun t56 h =>
  runD (fitD T_int (loadD h t56)) h fun t57 h =>
  K (.ret (.tup [t55, t57, (.int .i64 0)])) h)))))
  (fun _ _ => False)))
  (fun h => K (.ret (.tup [(.int .i64 0), (.int .i64 0), (.int .i64 80)])) h)
def super_of.loops : Nat → LInfo
  | _ => ⟨[], [], [], [], [], []⟩
def super_of.H (c : Ctx) (t0 : AV) (t1 : AV) (h : List AObj) (K : AOut → List AObj → Prop) : Prop :=
  allocW T_super_head h fun t4 h =>
  runD (buildSliceD T_sl_int 2 [(0, (.int .i64 7015)), (1, t0)] h.length) h fun t7 h =>
  callW false c (.fn (.func 109) [] []) [t7] h (fun t8 h =>
  runD (buildD T_super_head [(0, (.int .i64 7015)), (1, t0), (2, t8), (3, t1)]) h fun t10 h =>
  runH (storeH T_super_head h t4 t10) h fun _ h =>
  loadRes (fitD T_super_head (loadD h t4)) fun r0 => K (.ret r0) h)
  (fun v h => K (.pan v) h)
def super_head_may.loops : Nat → LInfo
  | 1 => ⟨[], [], [], [(4, none), (3, some [6, 9]), (2, none), (3, some [11, 14]), (2, none), (5, some [16, 21])], [], []⟩
  | _ => ⟨[], [], [], [], [], []⟩
def super_head_may.H (c : Ctx) (t0 : AV) (h : List AObj) (K : AOut → List AObj → Prop) : Prop :=
  boxW T_super_head t0 h fun t1 h =>
  runD (fieldAddrD T_super_head t1 1) h fun t3 h =>
  runD (fitD T_int (loadD h t3)) h fun t4 h =>
  runD (binD T_int .geq t4 (.int .i64 2)) h fun t5 h =>
  joinW (fun (J1 : AV → AV → List AObj → Prop) =>
  guardW t5 true
  (runD (fieldAddrD T_super_head t1 1) h fun t7 h =>
    runD (fitD T_int (loadD h t7)) h fun t8 h =>
    runD (binD T_int .leq t8 (.int .i64 256)) h fun t9 h =>
    J1 (.bool true) t9 h)
  (J1 (.bool false) .und h))
  (fun t6 t9 h => runD (pickD t6 t9 (.bool false)) h fun t10 h =>
  joinW (fun (J2 : AV → AV → List AObj → Prop) =>
  guardW t10 true
  (runD (fieldAddrD T_super_head t1 3) h fun t12 h =>
    runD (fitD T_int (loadD h t12)) h fun t13 h =>
    runD (binD T_int .geq t13 (.int .i64 1)) h fun t14 h =>
    J2 (.bool true) t14 h)
  (J2 (.bool false) .und h))
  (fun t11 t14 h => runD (pickD t11 t14 (.bool false)) h fun t15 h =>
  joinW (fun (J3 : AV → AV → List AObj → Prop) =>
  guardW t15 true
  (runD (fieldAddrD T_super_head t1 3) h fun t17 h =>
    runD (fitD T_int (loadD h t17)) h fun t18 h =>
    runD (fieldAddrD T_super_head t1 1) h fun t19 h =>
    runD (fitD T_int (loadD h t19)) h fun t20 h =>
    runD (binD T_int .lss t18 t20) h fun t21 h =>
    J3 (.bool true) t21 h)
  (J3 (.bool false) .und h))
  (fun t16 t21 h => runD (pickD t16 t21 (.bool false)) h fun t22 h =>
  K (.ret t22) h)))
theorem super_Words.eq (F : List (FuncId × Contract)) (S : List (FuncId × Con)) (t0 t1 : AV) (h : List AObj) (K : AOut → List AObj → Prop) : funW (ctx F S super_Words.loops) Try.f48 [t0, t1] h K = super_Words.H (ctx F S super_Words.loops) t0 t1 h K := by kernel_rfl
theorem super_Read.eq (F : List (FuncId × Contract)) (S : List (FuncId × Con)) (t0 : AV) (h : List AObj) (K : AOut → List AObj → Prop) : funW (ctx F S super_Read.loops) Try.f54 [t0] h K = super_Read.H (ctx F S super_Read.loops) t0 h K := by kernel_rfl
theorem super_of.eq (F : List (FuncId × Contract)) (S : List (FuncId × Con)) (t0 t1 : AV) (h : List AObj) (K : AOut → List AObj → Prop) : funW (ctx F S super_of.loops) Try.f80 [t0, t1] h K = super_of.H (ctx F S super_of.loops) t0 t1 h K := by kernel_rfl
theorem super_head_may.eq (F : List (FuncId × Contract)) (S : List (FuncId × Con)) (t0 : AV) (h : List AObj) (K : AOut → List AObj → Prop) : funW (ctx F S super_head_may.loops) Try.f81 [t0] h K = super_head_may.H (ctx F S super_head_may.loops) t0 h K := by kernel_rfl
theorem super_Words.at : Try.prog.funcs[48]? = some Try.f48 := by kernel_rfl
theorem super_Words.nm : (Try.f48.name == "runtime.NumGoroutine") = false := by kernel_rfl
theorem super_Words.bd : Try.f48.body.isNone = false := by kernel_rfl
theorem super_Read.at : Try.prog.funcs[54]? = some Try.f54 := by kernel_rfl
theorem super_Read.nm : (Try.f54.name == "runtime.NumGoroutine") = false := by kernel_rfl
theorem super_Read.bd : Try.f54.body.isNone = false := by kernel_rfl
theorem super_of.at : Try.prog.funcs[80]? = some Try.f80 := by kernel_rfl
theorem super_of.nm : (Try.f80.name == "runtime.NumGoroutine") = false := by kernel_rfl
theorem super_of.bd : Try.f80.body.isNone = false := by kernel_rfl
theorem super_head_may.at : Try.prog.funcs[81]? = some Try.f81 := by kernel_rfl
theorem super_head_may.nm : (Try.f81.name == "runtime.NumGoroutine") = false := by kernel_rfl
theorem super_head_may.bd : Try.f81.body.isNone = false := by kernel_rfl
end Lam
namespace Lam
open Go Go.Proofs
set_option linter.unusedVariables false
set_option linter.unnecessarySimpa false
set_option linter.unusedSimpArgs false
def headV (b r : Int) : AV := .agg [.int .i64 7015, .int .i64 b, .int .i64 (sumOf [7015, b]), .int .i64 r]
def super_of.C : Contract
  | [.int .i64 b, .int .i64 r] => some (false, pD True (headV b r))
  | _ => none
set_option maxRecDepth 20000 in
theorem super_of.spec : FSpec Try.prog 80 super_of.C := by
  refine FSpec.of (ctx_ok (F := [(109, sum_Of.C)]) (S := []) (by simpa using sum_Of.spec) (by simp) super_of.loops) super_of.at super_of.nm super_of.bd ?_
  intro vs b S v news e hS
  unfold super_of.C at e
  split at e
  rotate_left
  · cases e
  cases e
  rw [super_of.eq]
  unfold super_of.H
  simp (maxSteps := 4000000) only [go_sem, Nat.reduceEqDiff, Nat.reduceLT, Nat.reduceAdd, Nat.reduceSub, Nat.reduceLeDiff, List.reduceReplicate, Int.reduceToNat, sum_Of.C]
  exact ⟨by unfold roomy; decide, post_val rfl rfl⟩
def mayB (b r : Int) : Bool := decide (2 ≤ b) && decide (b ≤ 256) && decide (1 ≤ r) && decide (r < b)
def super_head_may.C : Contract
  | [.agg [.int .i64 _, .int .i64 b, .int .i64 _, .int .i64 r]] => some (false, pD True (.bool (mayB b r)))
  | _ => none
set_option maxRecDepth 20000 in
theorem super_head_may.spec : FSpec Try.prog 81 super_head_may.C := by
  refine FSpec.of (ctx_ok (F := []) (S := []) (by simp) (by simp) super_head_may.loops) super_head_may.at super_head_may.nm super_head_may.bd ?_
  intro vs b S v news e hS
  unfold super_head_may.C at e
  split at e
  rotate_left
  · cases e
  cases e
  rw [super_head_may.eq]
  unfold super_head_may.H
  simp (maxSteps := 4000000) only [go_sem, Nat.reduceEqDiff, Nat.reduceLT, Nat.reduceAdd, Nat.reduceSub, Nat.reduceLeDiff, List.reduceReplicate, Int.reduceToNat]
  exact post_val rfl rfl
def superW (b r : Int) : List Int := [7015, b, sumOf [7015, b], r] ++ List.replicate 12 0
def super_Words.C : Contract
  | [.int .i64 b, .int .i64 r] => some (false, pD True (if mayB b r = true then .tup [.sl false (.ints .i64 (superW b r)), .int .i64 0] else .tup [.sl false (.ints .i64 []), .int .i64 1]))
  | _ => none
set_option maxRecDepth 20000 in
theorem super_Words.spec : FSpec Try.prog 48 super_Words.C := by
  refine FSpec.of (ctx_ok (F := [(80, super_of.C), (81, super_head_may.C)]) (S := []) (by simpa using ⟨super_of.spec, super_head_may.spec⟩) (by simp) super_Words.loops) super_Words.at super_Words.nm super_Words.bd ?_
  intro vs b S v news e hS
  unfold super_Words.C at e
  split at e
  rotate_left
  · cases e
  cases e
  rw [super_Words.eq]
  unfold super_Words.H
  simp (maxSteps := 4000000) only [go_sem, Nat.reduceEqDiff, Nat.reduceLT, Nat.reduceAdd, Nat.reduceSub, Nat.reduceLeDiff, List.reduceReplicate, Int.reduceToNat, super_of.C, super_head_may.C, headV]
  refine ⟨fun h => ?_, fun h => ?_⟩
  · simp only [h, Bool.false_eq_true, if_false]; exact post_val rfl rfl
  · refine ⟨by unfold roomy; decide, ?_⟩
    simp only [h, if_true]; exact post_val rfl rfl

def super_Root.C : Contract
  | [.int .i64 b, .int .i64 r] => some (false, pD True (if mayB b r = true then .tup [.sl false (.mics [⟨1, 3, r⟩, ⟨2, 0, 0⟩]), .int .i64 0] else .tup [.sl false (.mics []), .int .i64 1]))
  | _ => none
def headB (l : List Int) : Bool := decide (l.getD 0 0 = 7015) && decide (l.getD 2 0 = sumOf [7015, l.getD 1 0]) && mayB (l.getD 1 0) (l.getD 3 0) && decide (l.getD 1 0 = ((l.length / 16 : Nat) : Int))
def readB (l : List Int) : Bool := decide (32 ≤ l.length) && headB l && ((l.drop 4).take 12).all (fun w => decide (w = 0))
theorem bnot3 (a b m d : Bool) : (!(a && b) || !m || !d) = !(a && b && m && d) := by cases a <;> cases b <;> cases m <;> cases d <;> rfl
def sreadV (l : List Int) : AV := if readB l = true then .tup [.int .i64 (l.getD 1 0), .int .i64 (l.getD 3 0), .int .i64 0] else .tup [.int .i64 0, .int .i64 0, .int .i64 80]
@[go_sem] theorem sreadV_noSl (l : List Int) : (sreadV l).noSl = true := by unfold sreadV; split <;> rfl
def super_Read.C : Contract
  | [.sl _ (.ints .i64 l)] => some (false, pD (roomy l.length) (sreadV l))
  | _ => none
theorem read_bad (l : List Int) (hb : readB l = false) (h : List AObj) : Post false (sreadV l) [] (.ret (.tup [.int .i64 0, .int .i64 0, .int .i64 80])) h := by
  unfold sreadV; rw [hb]; exact post_val rfl rfl
set_option maxRecDepth 20000 in
theorem super_Read.spec : FSpec Try.prog 54 super_Read.C := by
  refine FSpec.of (ctx_ok (F := [(80, super_of.C), (81, super_head_may.C)]) (S := []) (by simpa using ⟨super_of.spec, super_head_may.spec⟩) (by simp) super_Read.loops) super_Read.at super_Read.nm super_Read.bd ?_
  intro vs b S v news e hS
  unfold super_Read.C at e
  split at e
  rotate_left
  · cases e
  cases e
  rw [super_Read.eq]
  unfold super_Read.H
  simp (maxSteps := 4000000) only [go_sem, Nat.reduceEqDiff, Nat.reduceLT, Nat.reduceAdd, Nat.reduceSub, Nat.reduceLeDiff, List.reduceReplicate, Int.reduceToNat, super_of.C, super_head_may.C, headV]
  rename_i l
  unfold roomy at hS
  have hw : IntKind.i64.wrap ((l.length : Int).tdiv 16) = ((l.length / 16 : Nat) : Int) := by rw [tdiv16]; apply w64 <;> omega
  rw [joinW_eq]
  refine ⟨fun h => ?_, fun h => ?_⟩
  · apply read_bad
    have : ¬ 32 ≤ l.length := by omega
    simp [readB, this]
  refine ⟨by omega, by omega, by omega, by omega, by simp, ?_⟩
  rw [hw, bnot3]
  refine ⟨fun hc => read_bad l ?_ _, fun hc => ⟨by omega, ?_⟩⟩
  · have hc : headB l = false := by rw [Bool.not_eq_true'] at hc; exact hc
    simp [readB, hc]
  · have hc : headB l = true := by rw [Bool.not_eq_false'] at hc; exact hc
    have h32 : 32 ≤ l.length := by omega
    have hlen : ((l.drop 4).take 12).length = 12 := by simp; omega
    rw [joinW_eq]
    unfold super_Read.L1
    generalize hz : (l.drop 4).take 12 = z at *
    refine ⟨fun m lv h' => ∃ k : Nat, k + m = z.length ∧ lv = [.int .i64 k] ∧ h' = [.box (.agg [.int .i64 (l.getD 0 0), .int .i64 (l.getD 1 0), .int .i64 (l.getD 2 0), .int .i64 (l.getD 3 0)])] ∧ ∀ y ∈ z.take k, y = 0, ⟨z.length, 0, by omega, rfl, rfl, by simp⟩, ?_⟩
    rintro m h' t8 ⟨k, hk, hlv, rfl, hall⟩
    simp only [List.cons.injEq, and_true] at hlv
    subst hlv
    simp only [go_sem, Nat.reduceEqDiff, Nat.reduceLT, Nat.reduceAdd, Nat.reduceSub, Nat.reduceLeDiff, List.reduceReplicate, Int.reduceToNat]
    refine ⟨fun hlt => ⟨by omega, fun h0 => ?_, fun h0 => ?_⟩, fun hge => ?_⟩
    · apply read_bad
      have hkz : k < z.length := by omega
      have : z.all (fun w => decide (w = 0)) = false := by
        rw [List.all_eq_false]; exact ⟨_, getD_mem z k 0 hkz, by simpa using h0⟩
      simp [readB, hz, this]
    · have hkz : k < z.length := by omega
      refine ⟨m - 1, by omega, k + 1, by omega, by rw [w64 (by omega) (by omega)]; rfl, ?_⟩
      intro y hy
      rw [take_next z k 0 hkz] at hy
      rcases List.mem_append.1 hy with hy | hy
      · exact hall y hy
      · rw [List.mem_singleton.1 hy]; exact h0
    · have : k = z.length := by omega
      subst this
      rw [List.take_length] at hall
      have ha : z.all (fun w => decide (w = 0)) = true := by
        rw [List.all_eq_true]; intro y hy; simpa using hall y hy
      have hb : readB l = true := by simp [readB, hz, ha, hc, h32]
      unfold sreadV
      rw [if_pos hb]
      exact post_val rfl rfl

end Lam
namespace Lam
open Go Go.Proofs
set_option linter.unusedVariables false
set_option linter.unnecessarySimpa false
set_option linter.unusedSimpArgs false
def fast_node.C : Contract
  | [.int .i64 b] => some (false, pD True (.bool (nodeB b)))
  | _ => none
set_option maxRecDepth 20000 in
theorem fast_node.spec : FSpec Try.prog 88 fast_node.C := by
  refine FSpec.of (ctx_ok (F := []) (S := []) (by simp) (by simp) fast_node.loops) fast_node.at fast_node.nm fast_node.bd ?_
  intro vs b S v news e hS
  unfold fast_node.C at e
  split at e
  rotate_left
  · cases e
  cases e
  rw [fast_node.eq]
  unfold fast_node.H
  simp (maxSteps := 4000000) only [go_sem, Nat.reduceEqDiff, Nat.reduceLT, Nat.reduceAdd, Nat.reduceSub, Nat.reduceLeDiff, List.reduceReplicate, Int.reduceToNat]
  exact ⟨fun _ => by decide, post_val rfl rfl⟩
def fast_Place.C : Contract
  | [.int .i64 b, .int .i64 s] => some (false, pD True (.int .i64 (placeI b s)))
  | _ => none
set_option maxRecDepth 20000 in
theorem fast_Place.spec : FSpec Try.prog 63 fast_Place.C := by
  refine FSpec.of (ctx_ok (F := [(88, fast_node.C)]) (S := []) (by simpa using fast_node.spec) (by simp) fast_Place.loops) fast_Place.at fast_Place.nm fast_Place.bd ?_
  intro vs b S v news e hS
  unfold fast_Place.C at e
  split at e
  rotate_left
  · cases e
  cases e
  rw [fast_Place.eq]
  unfold fast_Place.H
  simp (maxSteps := 4000000) only [go_sem, Nat.reduceEqDiff, Nat.reduceLT, Nat.reduceAdd, Nat.reduceSub, Nat.reduceLeDiff, List.reduceReplicate, Int.reduceToNat, fast_node.C]
  rename_i b s
  have e : (!nodeB b || decide (s < 0) || decide (13 ≤ s)) = !(nodeB b && decide (0 ≤ s) && decide (s < 13)) := by
    cases nodeB b
    · rfl
    · rw [Bool.eq_iff_iff]; simp only [Bool.and_eq_true, Bool.or_eq_true, Bool.not_eq_true', Bool.not_eq_false', Bool.not_eq_true, decide_eq_true_eq, decide_eq_false_iff_not, Bool.or_eq_false_iff, Bool.and_eq_false_iff, beq_iff_eq]; simp <;> omega
  rw [e]
  unfold placeI
  refine ⟨fun h => ?_, fun h => ?_⟩
  · rw [Bool.not_eq_true'] at h
    rw [h]; exact post_val rfl rfl
  · rw [Bool.not_eq_false'] at h
    rw [h]; exact post_val rfl rfl
def fast_Slots.C : Contract
  | [.sl _ (.ints .i64 l), .int .i64 b] => some (false, pD (roomy l.length ∧ b ≤ 1099511627776) (.sl false (.ints .i64 (slotsOf l b))))
  | _ => none
set_option maxRecDepth 20000 in
theorem fast_Slots.spec : FSpec Try.prog 58 fast_Slots.C := by
  refine FSpec.of (ctx_ok (F := [(88, fast_node.C), (89, slices_IndexFunc_sl_int_int.C), (64, slices_Clone_sl_int_int.C)]) (S := []) (by simpa using ⟨fast_node.spec, slices_IndexFunc_sl_int_int.spec, slices_Clone_sl_int_int.spec⟩) (by simp) fast_Slots.loops) fast_Slots.at fast_Slots.nm fast_Slots.bd ?_
  intro vs b S v news e hS
  unfold fast_Slots.C at e
  split at e
  rotate_left
  · cases e
  cases e
  rw [fast_Slots.eq]
  unfold fast_Slots.H
  simp (maxSteps := 4000000) only [go_sem, Nat.reduceEqDiff, Nat.reduceLT, Nat.reduceAdd, Nat.reduceSub, Nat.reduceLeDiff, List.reduceReplicate, Int.reduceToNat, fast_node.C, slices_IndexFunc_sl_int_int.C, slices_Clone_sl_int_int.C]
  rename_i _ l b
  obtain ⟨hr, hb⟩ := hS
  unfold roomy at hr
  cases hn : nodeB b with
  | false =>
    refine ⟨fun h => ?_, fun h => by simp at h⟩
    unfold slotsOf; rw [hn]; exact post_val rfl rfl
  | true =>
    have hbb := (node_iff hb).1 hn
    have e1 : IntKind.i64.wrap (b + 16) = b + 16 := w64 (by omega) (by omega)
    have e2 : IntKind.i64.wrap (b + 3) = b + 3 := w64 (by omega) (by omega)
    rw [e1, e2]
    by_cases hlt : (l.length : Int) < b + 16
    · refine ⟨fun h => ?_, fun h => by simp at h; omega⟩
      unfold slotsOf; rw [hn, decide_eq_false (by omega)]; exact post_val rfl rfl
    · refine ⟨fun h => by simp at h; omega, fun h => ⟨by omega, ?_⟩⟩
      have e3 : (b + 16).toNat - (b + 3).toNat = 13 := by omega
      have e4 : (b + 3).toNat = b.toNat + 3 := by omega
      have hsl : slotsOf l b = upTo ((l.drop (b.toNat + 3)).take 13) := by
        unfold slotsOf; rw [hn, decide_eq_true (by omega)]; rfl
      rw [e3, e4, hsl]
      have hlen : ((l.drop (b.toNat + 3)).take 13).length = 13 := by simp; omega
      generalize (l.drop (b.toNat + 3)).take 13 = z at *
      have hu := upTo_idx z
      have hir := idxI_range lt1 z
      have hul : (upTo z).length ≤ z.length := by rw [← hu]; exact List.length_take_le' _ _
      refine ⟨by unfold roomy; omega, ?_⟩
      rw [joinW_eq]
      refine ⟨fun h => ?_, fun h => ?_⟩
      · rw [if_pos h] at hu
        rw [Int.toNat_natCast, List.take_length] at hu
        simp only [slices_Clone_sl_int_int.C, Int.toNat_natCast, List.take_length, go_sem, Nat.reduceEqDiff, Nat.reduceLT, Nat.reduceAdd, Nat.reduceSub, Nat.reduceLeDiff, List.reduceReplicate, Int.reduceToNat]
        refine ⟨by omega, by unfold roomy; omega, post_val ?_ rfl⟩
        simp only [go_sem, Nat.reduceEqDiff, Nat.reduceLT, Nat.reduceAdd, Nat.reduceSub, Nat.reduceLeDiff, List.reduceReplicate, Int.reduceToNat, List.take_length]
        rw [← hu]
      · rw [if_neg h] at hu
        simp only [slices_Clone_sl_int_int.C, hu, go_sem, Nat.reduceEqDiff, Nat.reduceLT, Nat.reduceAdd, Nat.reduceSub, Nat.reduceLeDiff, List.reduceReplicate, Int.reduceToNat]
        refine ⟨by omega, by unfold roomy; omega, post_val ?_ rfl⟩
        simp only [go_sem, Nat.reduceEqDiff, Nat.reduceLT, Nat.reduceAdd, Nat.reduceSub, Nat.reduceLeDiff, List.reduceReplicate, Int.reduceToNat, List.take_length]
def slices_Compact_sl_int_int.K : Con := fun args h K => match args with
  | [a0] => slices_Compact_sl_int_int.H (ctx [] [] slices_Compact_sl_int_int.loops) a0 h K
  | _ => False
theorem slices_Compact_sl_int_int.spec : SSpec Try.prog 111 slices_Compact_sl_int_int.K := by
  refine SSpec.of (ctx_ok (F := []) (S := []) (by simp) (by simp) slices_Compact_sl_int_int.loops) slices_Compact_sl_int_int.at slices_Compact_sl_int_int.nm slices_Compact_sl_int_int.bd ?_
  intro args h K hC
  unfold slices_Compact_sl_int_int.K at hC
  split at hC
  · rw [slices_Compact_sl_int_int.eq]; exact hC
  · exact hC.elim
theorem compact_vc (l : List Int) (hr : roomy l.length) (K : AOut → List AObj → Prop)
    (hK : ∀ x v l' k, k ≤ l'.length → l'.take k = plain l → K (.ret (.sref x 0 v 0 k)) [.row .own v (.ints .i64 l')]) :
    slices_Compact_sl_int_int.K [.sref false 0 0 0 l.length] [.row .own 0 (.ints .i64 l)] K := by
  unfold roomy at hr
  unfold slices_Compact_sl_int_int.K
  simp only
  unfold slices_Compact_sl_int_int.H
  simp only [go_sem, Nat.reduceEqDiff, Nat.reduceLT, Nat.reduceAdd, Nat.reduceSub, Nat.reduceLeDiff, List.reduceReplicate, Int.reduceToNat]
  refine ⟨fun h => ?_, fun h => ?_⟩
  · refine hK _ _ _ _ (Nat.le_refl _) ?_
    rw [List.take_length]
    rcases l with _ | ⟨a, _ | ⟨b, r⟩⟩
    · rfl
    · rfl
    · simp at h; omega
  rw [joinW_eq]
  unfold slices_Compact_sl_int_int.L1
  refine loop1 (σ := Nat) (fun k => .int .i64 k) (fun k => [.row .own 0 (.ints .i64 l)]) (fun k => l.length - k) (fun k => 0 < k ∧ k ≤ l.length ∧ ∀ i, 0 < i → i < k → l.getD i 0 ≠ l.getD (i - 1) 0) 1 rfl rfl ⟨by omega, by omega, fun i h1 h2 => by omega⟩ ?_
  rintro I back k ⟨h0, hk, hall⟩
  simp only [go_sem, Nat.reduceEqDiff, Nat.reduceLT, Nat.reduceAdd, Nat.reduceSub, Nat.reduceLeDiff, List.reduceReplicate, Int.reduceToNat]
  refine ⟨fun hlt => ?_, fun hge => ?_⟩
  · have e1 : IntKind.i64.wrap ((k : Int) - 1) = ((k - 1 : Nat) : Int) := by rw [w64 (by omega) (by omega)]; omega
    rw [joinW_eq, e1, Int.toNat_natCast]
    refine ⟨by omega, by omega, by omega, by omega, fun heq => ⟨by omega, ?_⟩, fun hne => ?_⟩
    · rw [joinW_eq]
      unfold slices_Compact_sl_int_int.L2
      have hp0 : plain (l.take (k + 1)) = l.take k := by
        rw [plain_take h0 (by omega), if_pos heq, plain_same]
        intro i hi0 hi
        rw [List.length_take] at hi
        have := hall i hi0 (by omega)
        rw [List.getD_eq_getElem?_getD, List.getD_eq_getElem?_getD, List.getElem?_take, List.getElem?_take, if_pos (by omega), if_pos (by omega), ← List.getD_eq_getElem?_getD, ← List.getD_eq_getElem?_getD]
        exact this
      refine loop2 (σ := Nat × Nat × List Int) (fun s => .int .i64 s.1) (fun s => .int .i64 s.2.1) (fun s => [.row .own 0 (.ints .i64 s.2.2)]) (fun s => l.length - k - s.2.1)
        (fun s => k ≤ s.1 ∧ s.1 ≤ k + s.2.1 - 1 ∧ 1 ≤ s.2.1 ∧ s.2.1 ≤ l.length - k ∧ s.2.2.length = l.length ∧ s.2.2.take s.1 = plain (l.take (k + s.2.1)) ∧ ∀ j, k + s.2.1 - 1 ≤ j → s.2.2.getD j 0 = l.getD j 0) (k, 1, l) rfl rfl
        ⟨Nat.le_refl _, by simp, Nat.le_refl _, by simp only; omega, rfl, hp0.symm, fun j _ => rfl⟩ ?_
      rintro I2 back2 ⟨w, q, R⟩ ⟨hw0, hw1, hq0, hq1, hRl, hRt, hRd⟩
      simp only [] at hw0 hw1 hq0 hq1 hRl hRt hRd ⊢
      simp only [go_sem, Nat.reduceEqDiff, Nat.reduceLT, Nat.reduceAdd, Nat.reduceSub, Nat.reduceLeDiff, List.reduceReplicate, Int.reduceToNat, hRl]
      have e2 : IntKind.i64.wrap ((q : Int) - 1) = ((q - 1 : Nat) : Int) := by rw [w64 (by omega) (by omega)]; omega
      refine ⟨fun hql => ?_, fun hql => ?_⟩
      · have hnext := plain_take (l := l) (k := k + q) (by omega) (by omega)
        rw [e2, Int.toNat_natCast, hRd (k + q) (by omega), hRd (k + (q - 1)) (by omega)]
        have e3 : k + q - 1 = k + (q - 1) := by omega
        rw [e3] at hnext
        refine ⟨by omega, by omega, by omega, by omega, ?_⟩
        rw [joinW_eq]
        refine ⟨fun hc => ⟨by omega, by omega, by omega, by omega, ?_⟩, fun hc => ?_⟩
        · simp only [go_sem, Nat.reduceEqDiff, Nat.reduceLT, Nat.reduceAdd, Nat.reduceSub, Nat.reduceLeDiff, List.reduceReplicate, Int.reduceToNat]
          rw [if_neg hc] at hnext
          refine back2 (w + 1, q + 1, R.set w (l.getD (k + q) 0)) (by show _ - (q + 1) < _ - q; omega) (by rw [wnext (by omega), wnext (by omega)]) rfl ⟨by show k ≤ w + 1; omega, by show w + 1 ≤ k + (q + 1) - 1; omega, by show 1 ≤ q + 1; omega, by show q + 1 ≤ _; omega, by show (R.set _ _).length = _; rw [List.length_set]; exact hRl, ?_, fun j hj => ?_⟩
          · show (R.set w _).take (w + 1) = plain (l.take (k + (q + 1)))
            rw [show k + (q + 1) = k + q + 1 from by omega, hnext, ← hRt, take_next _ w 0 (by rw [List.length_set]; omega), getD_set, if_pos ⟨rfl, by omega⟩, List.take_set_of_le (Nat.le_refl _)]
          · show (R.set w _).getD j 0 = _
            have hj : k + (q + 1) - 1 ≤ j := hj
            rw [getD_set, if_neg (by omega), hRd j (by omega)]
        · simp only [go_sem, Nat.reduceEqDiff, Nat.reduceLT, Nat.reduceAdd, Nat.reduceSub, Nat.reduceLeDiff, List.reduceReplicate, Int.reduceToNat]
          rw [if_pos hc] at hnext
          refine back2 (w, q + 1, R) (by show _ - (q + 1) < _ - q; omega) (by rw [wnext (by omega)]) rfl ⟨hw0, by show w ≤ k + (q + 1) - 1; omega, by show 1 ≤ q + 1; omega, by show q + 1 ≤ _; omega, hRl, ?_, fun j hj => hRd j (by have hj : k + (q + 1) - 1 ≤ j := hj; omega)⟩
          show R.take w = plain (l.take (k + (q + 1)))
          rw [show k + (q + 1) = k + q + 1 from by omega, hnext, hRt]
      · obtain rfl : q = l.length - k := by omega
        rw [show k + (l.length - k) = l.length from by omega, List.take_length] at hRt
        have hov : clearH (.slice (.int .i64)) [.row .own 0 (.ints .i64 R)] (.sref false 0 0 w (l.length - w)) = some (True, .tup [], 0, .row .own 0 (.ints .i64 (R.take w ++ List.replicate (l.length - w) 0))) := by
          have e4 : l.length - (w + (l.length - w)) = 0 := by omega
          simp [clearH, clearO, Lst.over, Lst.cut, Lst.app, LK.zeros, Lst.kind, rowKind, TyD.fitsRow, Lst.len, hRl, e4]
        rw [hov]
        simp only [go_sem, Nat.reduceEqDiff, Nat.reduceLT, Nat.reduceAdd, Nat.reduceSub, Nat.reduceLeDiff, List.reduceReplicate, Int.reduceToNat]
        have hl2 : (R.take w ++ List.replicate (l.length - w) 0).length = l.length := by simp [hRl]; omega
        refine ⟨⟨by omega, by omega⟩, ⟨by omega, by omega⟩, ?_⟩
        refine hK _ _ _ _ (by omega) ?_
        rw [List.take_append_of_le_length (by rw [List.length_take]; omega), List.take_take, Nat.min_self, hRt]
    · simp only [go_sem, Nat.reduceEqDiff, Nat.reduceLT, Nat.reduceAdd, Nat.reduceSub, Nat.reduceLeDiff, List.reduceReplicate, Int.reduceToNat]
      refine back (k + 1) (by omega) (by rw [wnext (by omega)]) rfl ⟨by omega, by omega, fun i hi0 hi => ?_⟩
      by_cases e : i = k
      · subst e; exact hne
      · exact hall i hi0 (by omega)
  · obtain rfl : k = l.length := by omega
    refine hK _ _ _ _ (Nat.le_refl _) ?_
    rw [List.take_length, plain_same l hall]
def fast_Plain.C : Contract
  | [.sl _ (.ints .i64 l)] => some (false, pD (roomy l.length) (.sl false (.ints .i64 (plain l))))
  | _ => none
set_option maxRecDepth 20000 in
theorem fast_Plain.spec : FSpec Try.prog 84 fast_Plain.C := by
  refine FSpec.of (ctx_ok (F := [(64, slices_Clone_sl_int_int.C)]) (S := [(111, slices_Compact_sl_int_int.K)]) (by simpa using slices_Clone_sl_int_int.spec) (by simpa using slices_Compact_sl_int_int.spec) fast_Plain.loops) fast_Plain.at fast_Plain.nm fast_Plain.bd ?_
  intro vs b S v news e hS
  unfold fast_Plain.C at e
  split at e
  rotate_left
  · cases e
  cases e
  rw [fast_Plain.eq]
  unfold fast_Plain.H
  simp (maxSteps := 4000000) only [go_sem, Nat.reduceEqDiff, Nat.reduceLT, Nat.reduceAdd, Nat.reduceSub, Nat.reduceLeDiff, List.reduceReplicate, Int.reduceToNat, slices_Clone_sl_int_int.C]
  rename_i _ l
  refine ⟨hS, compact_vc l hS _ fun x v l' k hk he => ?_⟩
  simp only [go_sem, Nat.reduceEqDiff, Nat.reduceLT, Nat.reduceAdd, Nat.reduceSub, Nat.reduceLeDiff, List.reduceReplicate, Int.reduceToNat]
  refine post_val ?_ rfl
  simp only [go_sem, Nat.reduceEqDiff, Nat.reduceLT, Nat.reduceAdd, Nat.reduceSub, Nat.reduceLeDiff, List.reduceReplicate, Int.reduceToNat, he]
def fmayB (b : Int) (l : List Int) : Bool := nodeB b && decide (l.length ≤ 13) && !l.any lt1
def fast_may.C : Contract
  | [.int .i64 b, .sl _ (.ints .i64 l)] => some (false, pD (roomy l.length) (.bool (fmayB b l)))
  | _ => none
set_option maxRecDepth 20000 in
theorem fast_may.spec : FSpec Try.prog 76 fast_may.C := by
  refine FSpec.of (ctx_ok (F := [(88, fast_node.C), (99, slices_ContainsFunc_sl_int_int.C)]) (S := []) (by simpa using ⟨fast_node.spec, slices_ContainsFunc_sl_int_int.spec⟩) (by simp) fast_may.loops) fast_may.at fast_may.nm fast_may.bd ?_
  intro vs b S v news e hS
  unfold fast_may.C at e
  split at e
  rotate_left
  · cases e
  cases e
  rw [fast_may.eq]
  unfold fast_may.H
  simp (maxSteps := 4000000) only [go_sem, Nat.reduceEqDiff, Nat.reduceLT, Nat.reduceAdd, Nat.reduceSub, Nat.reduceLeDiff, List.reduceReplicate, Int.reduceToNat, fast_node.C, slices_ContainsFunc_sl_int_int.C]
  rename_i b _ l
  have e3 : decide ((l.length : Int) ≤ 13) = decide (l.length ≤ 13) := decide_eq_decide.2 (by omega)
  unfold fmayB
  rw [e3]
  cases (nodeB b && decide (l.length ≤ 13)) with
  | false => simp only [joinW_eq, guard_tt, guard_tf, guard_ft, guard_ff, Int.reduceEq, Int.reduceLT, Int.reduceLE, decide_false, decide_true, Bool.not_false, Bool.not_true, Bool.not_not, not_true_eq_false, not_false_eq_true, true_implies, false_implies, implies_true, and_true, true_and, reduceCtorEq, Bool.and_self, Bool.or_self, Bool.and_true, Bool.true_and, Bool.false_eq_true, if_true, if_false, go_sem, Nat.reduceEqDiff, Nat.reduceLT, Nat.reduceAdd, Nat.reduceSub, Nat.reduceLeDiff, List.reduceReplicate, Int.reduceToNat]; exact post_val rfl rfl
  | true => simp only [joinW_eq, guard_tt, guard_tf, guard_ft, guard_ff, Int.reduceEq, Int.reduceLT, Int.reduceLE, decide_false, decide_true, Bool.not_false, Bool.not_true, Bool.not_not, not_true_eq_false, not_false_eq_true, true_implies, false_implies, implies_true, and_true, true_and, reduceCtorEq, Bool.and_self, Bool.or_self, Bool.and_true, Bool.true_and, Bool.false_eq_true, if_true, if_false, go_sem, Nat.reduceEqDiff, Nat.reduceLT, Nat.reduceAdd, Nat.reduceSub, Nat.reduceLeDiff, List.reduceReplicate, Int.reduceToNat]; exact ⟨hS, post_val rfl rfl⟩
def fast_stored.C : Contract
  | [.int .i64 b, .sl _ (.slots l)] => some (false, pD (l.length ≤ 1000) (.sl false (.mics (storedV b l))))
  | _ => none
set_option maxRecDepth 20000 in
theorem fast_stored.spec : FSpec Try.prog 77 fast_stored.C := by
  refine FSpec.of (ctx_ok (F := [(63, fast_Place.C), (107, micro_Check.C)]) (S := []) (by simpa using ⟨fast_Place.spec, micro_Check.spec⟩) (by simp) fast_stored.loops) fast_stored.at fast_stored.nm fast_stored.bd ?_
  intro vs b S v news e hS
  unfold fast_stored.C at e
  split at e
  rotate_left
  · cases e
  cases e
  rw [fast_stored.eq]
  unfold fast_stored.H
  simp (maxSteps := 4000000) only [go_sem, Nat.reduceEqDiff, Nat.reduceLT, Nat.reduceAdd, Nat.reduceSub, Nat.reduceLeDiff, List.reduceReplicate, Int.reduceToNat, fast_Place.C, micro_Check.C]
  rename_i b _ l
  rw [joinW_eq]
  unfold fast_stored.L1
  refine loop2 (σ := Nat × Nat) (fun s => .sref false 0 s.2 0 (storedN b l s.1).length) (fun s => .int .i64 s.1) (fun s => [.row .own s.2 (.mics (storedN b l s.1))]) (fun s => l.length - s.1) (fun s => s.1 ≤ l.length) (0, 0) rfl rfl (Nat.zero_le _) ?_
  rintro I back ⟨k, v⟩ hk
  simp only [] at hk ⊢
  have hsl := storedN_len b l k
  simp only [fast_Place.C, go_sem, Nat.reduceEqDiff, Nat.reduceLT, Nat.reduceAdd, Nat.reduceSub, Nat.reduceLeDiff, List.reduceReplicate, Int.reduceToNat]
  refine ⟨fun hlt => ⟨by omega, ?_⟩, fun hge => ?_⟩
  · have ew : IntKind.i64.wrap ((k : Int) + 1) = ((k + 1 : Nat) : Int) := wnext (by omega)
    have hdec : (decide (((k + 1 : Nat) : Int) = (l.length : Int)) || !decide (IntKind.i64.wrap ((placeI b (l.getD (k + 1) ⟨0, 0⟩).at_).tdiv 8) = IntKind.i64.wrap ((placeI b (l.getD k ⟨0, 0⟩).at_).tdiv 8))) = lastB b l k := by
      unfold lastB
      have : decide (((k + 1 : Nat) : Int) = (l.length : Int)) = decide (k + 1 = l.length) := decide_eq_decide.2 (by omega)
      rw [this]; rfl
    have hnx : storedN b l (k + 1) = storedN b l k ++ ⟨1, placeI b (l.getD k ⟨0, 0⟩).at_, (l.getD k ⟨0, 0⟩).val⟩ :: (if lastB b l k = true then [⟨2, sLine b (l.getD k ⟨0, 0⟩), 0⟩] else []) := rfl
    have hl1 := storedN_len b l (k + 1)
    rw [ew, Int.toNat_natCast, hdec]
    refine ⟨by unfold roomy; simp; omega, fun h => ⟨by omega, by decide⟩, ?_⟩
    rw [joinW_eq]
    refine ⟨fun h => ⟨by decide, ?_, ?_⟩, fun h => ?_⟩
    · rw [h] at hnx
      have : storedN b l (k + 1) = storedN b l k ++ [⟨1, placeI b (l.getD k ⟨0, 0⟩).at_, (l.getD k ⟨0, 0⟩).val⟩, ⟨2, IntKind.i64.wrap ((placeI b (l.getD k ⟨0, 0⟩).at_).tdiv 8), 0⟩] := hnx
      rw [← this]; unfold roomy; omega
    · rw [h] at hnx
      have : storedN b l (k + 1) = storedN b l k ++ [⟨1, placeI b (l.getD k ⟨0, 0⟩).at_, (l.getD k ⟨0, 0⟩).val⟩, ⟨2, IntKind.i64.wrap ((placeI b (l.getD k ⟨0, 0⟩).at_).tdiv 8), 0⟩] := hnx
      rw [← this]
      simp only [go_sem, Nat.reduceEqDiff, Nat.reduceLT, Nat.reduceAdd, Nat.reduceSub, Nat.reduceLeDiff, List.reduceReplicate, Int.reduceToNat]
      exact back (k + 1, v + 1 + 1) (by show _ - (k + 1) < _ - k; omega) rfl rfl (by show k + 1 ≤ _; omega)
    · rw [h] at hnx
      have : storedN b l (k + 1) = storedN b l k ++ [⟨1, placeI b (l.getD k ⟨0, 0⟩).at_, (l.getD k ⟨0, 0⟩).val⟩] := hnx
      rw [← this]
      simp only [go_sem, Nat.reduceEqDiff, Nat.reduceLT, Nat.reduceAdd, Nat.reduceSub, Nat.reduceLeDiff, List.reduceReplicate, Int.reduceToNat]
      exact back (k + 1, v + 1) (by show _ - (k + 1) < _ - k; omega) rfl rfl (by show k + 1 ≤ _; omega)
  · obtain rfl : k = l.length := by omega
    have hst : (sizedB 4096 && (storedN b l l.length).all fun x => mmay x 4096) = stepsB (storedN b l l.length) 4096 := rfl
    simp only [micro_Check.C, hst, List.take_length, go_sem, Nat.reduceEqDiff, Nat.reduceLT, Nat.reduceAdd, Nat.reduceSub, Nat.reduceLeDiff, List.reduceReplicate, Int.reduceToNat]
    unfold storedV
    refine ⟨by unfold roomy; omega, fun h => ?_, fun h => ?_⟩
    · rw [h]; exact post_val rfl rfl
    · rw [h]
      refine post_val ?_ rfl
      simp only [go_sem, Nat.reduceEqDiff, Nat.reduceLT, Nat.reduceAdd, Nat.reduceSub, Nat.reduceLeDiff, List.reduceReplicate, Int.reduceToNat, List.take_length, if_true]
def insertV (b : Int) (l : List Int) (pos ref : Int) : AV :=
  if (fmayB b l && decide (1 ≤ ref) && decide (0 ≤ pos) && decide (pos ≤ (l.length : Int))) = true then (if l.length = 13 then .tup [.sl false (.mics []), .int .i64 100] else .tup [.sl false (.mics (storedV b (insS l pos.toNat ref))), .int .i64 0]) else .tup [.sl false (.mics []), .int .i64 1]
def deleteV (b : Int) (l : List Int) (pos : Int) : AV :=
  if (fmayB b l && decide (0 ≤ pos) && decide (pos < (l.length : Int))) = true then .tup [.sl false (.mics (storedV b (delS l pos.toNat))), .int .i64 0] else .tup [.sl false (.mics []), .int .i64 1]
def swapV (b : Int) (l : List Int) (pos ref : Int) : AV :=
  if (fmayB b l && decide (1 ≤ ref) && decide (0 ≤ pos) && decide (pos < (l.length : Int))) = true then .tup [.sl false (.mics (storedV b [⟨pos, ref⟩])), .int .i64 0] else .tup [.sl false (.mics []), .int .i64 1]
def cutV (b : Int) (l : List Int) (n : Int) : AV :=
  if (fmayB b l && decide (0 ≤ n) && decide (n ≤ (l.length : Int))) = true then .tup [.sl false (.mics (storedV b (cutK l (l.length - n.toNat)))), .int .i64 0] else .tup [.sl false (.mics []), .int .i64 1]
def fast_Insert.C : Contract
  | [.int .i64 b, .sl _ (.ints .i64 l), .int .i64 pos, .int .i64 ref] => some (false, pD (roomy l.length) (insertV b l pos ref))
  | _ => none
set_option maxRecDepth 20000 in
theorem fast_Insert.spec : FSpec Try.prog 44 fast_Insert.C := by
  refine FSpec.of (ctx_ok (F := [(76, fast_may.C), (77, fast_stored.C)]) (S := []) (by simpa using ⟨fast_may.spec, fast_stored.spec⟩) (by simp) fast_Insert.loops) fast_Insert.at fast_Insert.nm fast_Insert.bd ?_
  intro vs b S v news e hS
  unfold fast_Insert.C at e
  split at e
  rotate_left
  · cases e
  cases e
  rw [fast_Insert.eq]
  unfold fast_Insert.H
  simp (maxSteps := 4000000) only [go_sem, Nat.reduceEqDiff, Nat.reduceLT, Nat.reduceAdd, Nat.reduceSub, Nat.reduceLeDiff, List.reduceReplicate, Int.reduceToNat, fast_may.C, fast_stored.C]
  rename_i b _ l pos ref
  have e : (!fmayB b l || decide (ref < 1) || decide (pos < 0) || decide ((l.length : Int) < pos)) = !(fmayB b l && decide (1 ≤ ref) && decide (0 ≤ pos) && decide (pos ≤ (l.length : Int))) := by
    rw [Bool.eq_iff_iff]; cases fmayB b l <;> simp <;> omega
  rw [e]
  refine ⟨hS, fun h => ?_, fun h => ⟨fun h13 => ?_, fun h13 => ?_⟩⟩
  · unfold insertV; rw [Bool.not_eq_true'] at h; rw [h]; exact post_val rfl rfl
  · unfold insertV; rw [Bool.not_eq_false'] at h; rw [if_pos h, if_pos (by omega)]; exact post_val rfl rfl
  · rw [Bool.not_eq_false'] at h
    have hv : insertV b l pos ref = .tup [.sl false (.mics (storedV b (insS l pos.toNat ref))), .int .i64 0] := by
      unfold insertV; rw [if_pos h, if_neg (by omega)]
    simp only [Bool.and_eq_true, decide_eq_true_eq, fmayB] at h
    have hl : l.length ≤ 13 := h.1.1.1.1.2
    obtain ⟨p, rfl⟩ := Int.eq_ofNat_of_zero_le h.1.2
    have hp : p ≤ l.length := by have := h.2; omega
    rw [w64 (n := (l.length : Int) - (p : Nat)) (by omega) (by omega), hv]
    rw [joinW_eq]
    unfold fast_Insert.L1
    refine loop2 (σ := Nat × Nat) (fun s => .sref false 0 s.2 0 s.1) (fun s => .int .i64 s.1) (fun s => [.row .own s.2 (.slots (insK l s.1))]) (fun s => l.length - p - s.1) (fun s => s.1 ≤ l.length - p) (0, 0) rfl rfl (Nat.zero_le _) ?_
    rintro I back ⟨k, v⟩ hk
    simp only [] at hk ⊢
    have hkl := insK_len l k
    simp only [go_sem, Nat.reduceEqDiff, Nat.reduceLT, Nat.reduceAdd, Nat.reduceSub, Nat.reduceLeDiff, List.reduceReplicate, Int.reduceToNat, hkl]
    refine ⟨fun hlt => ?_, fun hge => ?_⟩
    · rw [w64 (n := (l.length : Int) - k) (by omega) (by omega), w64 (n := (l.length : Int) - k - 1) (by omega) (by omega)]
      have e1 : ((l.length : Int) - k - 1).toNat = l.length - k - 1 := by omega
      have e2 : (l.length : Int) - k = (l.length - k : Nat) := by omega
      rw [e1, e2, ← insK_next, insK_len]
      refine ⟨by omega, by unfold roomy; omega, ?_⟩
      exact back (k + 1, v + 1) (by show _ - (k + 1) < _ - k; omega) (by rw [wnext (by omega)]) rfl (by show k + 1 ≤ _; omega)
    · obtain rfl : k = l.length - p := by omega
      have e3 : insK l (l.length - p) ++ [⟨(p : Int), ref⟩] = insS l p ref := rfl
      rw [e3]
      have hlen : (insS l p ref).length = l.length - p + 1 := by unfold insS; rw [List.length_append, insK_len]; rfl
      simp only [fast_stored.C, go_sem, Nat.reduceEqDiff, Nat.reduceLT, Nat.reduceAdd, Nat.reduceSub, Nat.reduceLeDiff, List.reduceReplicate, Int.reduceToNat]
      exact ⟨by unfold roomy; omega, by omega, post_val rfl rfl⟩
def fast_Delete.C : Contract
  | [.int .i64 b, .sl _ (.ints .i64 l), .int .i64 pos] => some (false, pD (roomy l.length) (deleteV b l pos))
  | _ => none
set_option maxRecDepth 20000 in
theorem fast_Delete.spec : FSpec Try.prog 39 fast_Delete.C := by
  refine FSpec.of (ctx_ok (F := [(76, fast_may.C), (77, fast_stored.C)]) (S := []) (by simpa using ⟨fast_may.spec, fast_stored.spec⟩) (by simp) fast_Delete.loops) fast_Delete.at fast_Delete.nm fast_Delete.bd ?_
  intro vs b S v news e hS
  unfold fast_Delete.C at e
  split at e
  rotate_left
  · cases e
  cases e
  rw [fast_Delete.eq]
  unfold fast_Delete.H
  simp (maxSteps := 4000000) only [go_sem, Nat.reduceEqDiff, Nat.reduceLT, Nat.reduceAdd, Nat.reduceSub, Nat.reduceLeDiff, List.reduceReplicate, Int.reduceToNat, fast_may.C, fast_stored.C]
  rename_i b _ l pos
  have e : (!fmayB b l || decide (pos < 0) || decide ((l.length : Int) ≤ pos)) = !(fmayB b l && decide (0 ≤ pos) && decide (pos < (l.length : Int))) := by
    rw [Bool.eq_iff_iff]; cases fmayB b l <;> simp <;> omega
  rw [e]
  refine ⟨hS, fun h => ?_, fun h => ?_⟩
  · unfold deleteV; rw [Bool.not_eq_true'] at h; rw [h]; exact post_val rfl rfl
  · rw [Bool.not_eq_false'] at h
    have hv : deleteV b l pos = .tup [.sl false (.mics (storedV b (delS l pos.toNat))), .int .i64 0] := by
      unfold deleteV; rw [if_pos h]
    simp only [Bool.and_eq_true, decide_eq_true_eq, fmayB] at h
    have hl : l.length ≤ 13 := h.1.1.1.2
    obtain ⟨p, rfl⟩ := Int.eq_ofNat_of_zero_le h.1.2
    have hp : p < l.length := by have := h.2; omega
    rw [w64 (n := (l.length : Int) - 1) (by omega) (by omega), w64 (n := (l.length : Int) - 1 - (p : Nat)) (by omega) (by omega), hv]
    rw [joinW_eq]
    unfold fast_Delete.L1
    refine loop2 (σ := Nat × Nat) (fun s => .sref false 0 s.2 0 s.1) (fun s => .int .i64 s.1) (fun s => [.row .own s.2 (.slots (delK l p s.1))]) (fun s => l.length - 1 - p - s.1) (fun s => s.1 ≤ l.length - 1 - p) (0, 0) rfl rfl (Nat.zero_le _) ?_
    rintro I back ⟨k, v⟩ hk
    simp only [] at hk ⊢
    have hkl := delK_len l p k
    simp only [go_sem, Nat.reduceEqDiff, Nat.reduceLT, Nat.reduceAdd, Nat.reduceSub, Nat.reduceLeDiff, List.reduceReplicate, Int.reduceToNat, hkl]
    refine ⟨fun hlt => ?_, fun hge => ?_⟩
    · rw [w64 (n := (p : Int) + k) (by omega) (by omega), w64 (n := (p : Int) + k + 1) (by omega) (by omega)]
      have e1 : ((p : Int) + k + 1).toNat = p + k + 1 := by omega
      have e2 : (p : Int) + k = (p + k : Nat) := by omega
      rw [e1, e2, ← delK_next, delK_len]
      refine ⟨by omega, by unfold roomy; omega, ?_⟩
      exact back (k + 1, v + 1) (by show _ - (k + 1) < _ - k; omega) (by rw [wnext (by omega)]) rfl (by show k + 1 ≤ _; omega)
    · obtain rfl : k = l.length - 1 - p := by omega
      have e2 : (l.length : Int) - 1 = (l.length - 1 : Nat) := by omega
      rw [w64 (n := (l.length : Int) - 1) (by omega) (by omega), e2]
      have e3 : delK l p (l.length - 1 - p) ++ [⟨((l.length - 1 : Nat) : Int), 0⟩] = delS l p := rfl
      rw [e3]
      have hlen : (delS l p).length = l.length - 1 - p + 1 := by unfold delS; rw [List.length_append, delK_len]; rfl
      simp only [fast_stored.C, go_sem, Nat.reduceEqDiff, Nat.reduceLT, Nat.reduceAdd, Nat.reduceSub, Nat.reduceLeDiff, List.reduceReplicate, Int.reduceToNat]
      exact ⟨by unfold roomy; omega, by omega, post_val rfl rfl⟩
def fast_Swap.C : Contract
  | [.int .i64 b, .sl _ (.ints .i64 l), .int .i64 pos, .int .i64 ref] => some (false, pD (roomy l.length) (swapV b l pos ref))
  | _ => none
set_option maxRecDepth 20000 in
theorem fast_Swap.spec : FSpec Try.prog 47 fast_Swap.C := by
  refine FSpec.of (ctx_ok (F := [(76, fast_may.C), (77, fast_stored.C)]) (S := []) (by simpa using ⟨fast_may.spec, fast_stored.spec⟩) (by simp) fast_Swap.loops) fast_Swap.at fast_Swap.nm fast_Swap.bd ?_
  intro vs b S v news e hS
  unfold fast_Swap.C at e
  split at e
  rotate_left
  · cases e
  cases e
  rw [fast_Swap.eq]
  unfold fast_Swap.H
  simp (maxSteps := 4000000) only [go_sem, Nat.reduceEqDiff, Nat.reduceLT, Nat.reduceAdd, Nat.reduceSub, Nat.reduceLeDiff, List.reduceReplicate, Int.reduceToNat, fast_may.C, fast_stored.C]
  rename_i b _ l pos ref
  have e : (!fmayB b l || decide (ref < 1) || decide (pos < 0) || decide ((l.length : Int) ≤ pos)) = !(fmayB b l && decide (1 ≤ ref) && decide (0 ≤ pos) && decide (pos < (l.length : Int))) := by
    rw [Bool.eq_iff_iff]; cases fmayB b l <;> simp <;> omega
  rw [e]
  refine ⟨hS, fun h => ?_, fun h => ?_⟩
  · unfold swapV; rw [Bool.not_eq_true'] at h; rw [h]; exact post_val rfl rfl
  · rw [Bool.not_eq_false'] at h
    unfold swapV; rw [if_pos h]
    exact post_val rfl rfl
def fast_Cut.C : Contract
  | [.int .i64 b, .sl _ (.ints .i64 l), .int .i64 n] => some (false, pD (roomy l.length) (cutV b l n))
  | _ => none
set_option maxRecDepth 20000 in
theorem fast_Cut.spec : FSpec Try.prog 46 fast_Cut.C := by
  refine FSpec.of (ctx_ok (F := [(76, fast_may.C), (77, fast_stored.C)]) (S := []) (by simpa using ⟨fast_may.spec, fast_stored.spec⟩) (by simp) fast_Cut.loops) fast_Cut.at fast_Cut.nm fast_Cut.bd ?_
  intro vs b S v news e hS
  unfold fast_Cut.C at e
  split at e
  rotate_left
  · cases e
  cases e
  rw [fast_Cut.eq]
  unfold fast_Cut.H
  simp (maxSteps := 4000000) only [go_sem, Nat.reduceEqDiff, Nat.reduceLT, Nat.reduceAdd, Nat.reduceSub, Nat.reduceLeDiff, List.reduceReplicate, Int.reduceToNat, fast_may.C, fast_stored.C]
  rename_i b _ l n
  have e : (!fmayB b l || decide (n < 0) || decide ((l.length : Int) < n)) = !(fmayB b l && decide (0 ≤ n) && decide (n ≤ (l.length : Int))) := by
    rw [Bool.eq_iff_iff]; cases fmayB b l <;> simp <;> omega
  rw [e]
  refine ⟨hS, fun h => ?_, fun h => ?_⟩
  · unfold cutV; rw [Bool.not_eq_true'] at h; rw [h]; exact post_val rfl rfl
  · rw [Bool.not_eq_false'] at h
    have hv : cutV b l n = .tup [.sl false (.mics (storedV b (cutK l (l.length - n.toNat)))), .int .i64 0] := by
      unfold cutV; rw [if_pos h]
    simp only [Bool.and_eq_true, decide_eq_true_eq, fmayB] at h
    have hl : l.length ≤ 13 := h.1.1.1.2
    obtain ⟨p, rfl⟩ := Int.eq_ofNat_of_zero_le h.1.2
    have hp : p ≤ l.length := by have := h.2; omega
    rw [w64 (n := (l.length : Int) - (p : Nat)) (by omega) (by omega), hv]
    rw [joinW_eq]
    unfold fast_Cut.L1
    refine loop2 (σ := Nat × Nat) (fun s => .sref false 0 s.2 0 s.1) (fun s => .int .i64 s.1) (fun s => [.row .own s.2 (.slots (cutK l s.1))]) (fun s => l.length - p - s.1) (fun s => s.1 ≤ l.length - p) (0, 0) rfl rfl (Nat.zero_le _) ?_
    rintro I back ⟨k, v⟩ hk
    simp only [] at hk ⊢
    have hkl := cutK_len l k
    simp only [go_sem, Nat.reduceEqDiff, Nat.reduceLT, Nat.reduceAdd, Nat.reduceSub, Nat.reduceLeDiff, List.reduceReplicate, Int.reduceToNat, hkl]
    refine ⟨fun hlt => ?_, fun hge => ?_⟩
    · rw [w64 (n := (l.length : Int) - 1) (by omega) (by omega), w64 (n := (l.length : Int) - 1 - k) (by omega) (by omega)]
      have e2 : (l.length : Int) - 1 - k = (l.length - 1 - k : Nat) := by omega
      rw [e2, ← cutK_next, cutK_len]
      refine ⟨by unfold roomy; omega, ?_⟩
      exact back (k + 1, v + 1) (by show _ - (k + 1) < _ - k; omega) (by rw [wnext (by omega)]) rfl (by show k + 1 ≤ _; omega)
    · obtain rfl : k = l.length - p := by omega
      have e4 : (cutK l (l.length - p)).take (l.length - p) = cutK l (l.length - p) := List.take_of_length_le (by rw [cutK_len]; exact Nat.le_refl _)
      rw [e4]
      simp only [fast_stored.C, go_sem, Nat.reduceEqDiff, Nat.reduceLT, Nat.reduceAdd, Nat.reduceSub, Nat.reduceLeDiff, List.reduceReplicate, Int.reduceToNat]
      exact ⟨by rw [cutK_len]; omega, post_val rfl rfl⟩
end Lam
namespace Lam
open Go Go.Proofs
set_option linter.unusedVariables false
set_option linter.unnecessarySimpa false
set_option linter.unusedSimpArgs false
def node_Check.C : Contract
  | [.agg [.int .i64 a, .int .i64 b, .int .i64 c, .int .i64 d, .sl false (.ints .i64 l)]] => some (false, pD True (.bool (ndB ⟨a, b, c, d, l⟩)))
  | _ => none
set_option maxRecDepth 20000 in
theorem node_Check.spec : FSpec Try.prog 71 node_Check.C := by
  refine FSpec.of (ctx_ok (F := [(98, node_block.C), (99, slices_ContainsFunc_sl_int_int.C)]) (S := []) (by simpa using ⟨node_block.spec, slices_ContainsFunc_sl_int_int.spec⟩) (by simp) node_Check.loops) node_Check.at node_Check.nm node_Check.bd ?_
  intro vs b S v news e hS
  unfold node_Check.C at e
  split at e
  rotate_left
  · cases e
  cases e
  rw [node_Check.eq]
  unfold node_Check.H
  simp (maxSteps := 4000000) only [go_sem, Nat.reduceEqDiff, Nat.reduceLT, Nat.reduceAdd, Nat.reduceSub, Nat.reduceLeDiff, List.reduceReplicate, Int.reduceToNat, node_block.C, slices_ContainsFunc_sl_int_int.C]
  rename_i a b c d l
  have h1 : (a < 0 ∨ 9 < a ∨ b < 0 ∨ 1099511627776 < b ∨ blockB c = false ∨ blockB d = false ∨ 13 < (l.length : Int)) → ndB ⟨a, b, c, d, l⟩ = false := by
    intro h
    rw [Bool.eq_false_iff]
    intro hh
    obtain ⟨q1, q2, q3, q4, q5, q6, q7, q8⟩ := nd_iff.1 hh
    simp only at q1 q2 q3 q4 q5 q6 q7 q8
    unfold blockB at h
    simp only [Bool.and_eq_false_iff, decide_eq_false_iff_not] at h
    omega
  have h2 : ¬ (a < 0 ∨ 9 < a ∨ b < 0 ∨ 1099511627776 < b ∨ blockB c = false ∨ blockB d = false ∨ 13 < (l.length : Int)) → ndB ⟨a, b, c, d, l⟩ = !l.any noBlock := by
    intro h
    simp only [not_or, Bool.not_eq_false] at h
    obtain ⟨q1, q2, q3, q4, q5, q6, q7⟩ := h
    unfold ndB
    rw [decide_eq_true (show 0 ≤ a by omega), decide_eq_true (show a ≤ 9 by omega), decide_eq_true (show 0 ≤ b by omega), decide_eq_true (show b ≤ 1099511627776 by omega), q5, q6, decide_eq_true (show l.length ≤ 13 by omega)]
    rfl
  generalize ndB ⟨a, b, c, d, l⟩ = R at *
  simp only [node_block.C, slices_ContainsFunc_sl_int_int.C, joinW_eq, guard_tt, guard_tf, guard_ft, guard_ff, Int.reduceEq, Int.reduceLT, Int.reduceLE, decide_false, decide_true, Bool.not_false, Bool.not_true, Bool.not_not, not_true_eq_false, not_false_eq_true, true_implies, false_implies, implies_true, and_true, true_and, reduceCtorEq, Bool.and_self, Bool.or_self, Bool.and_true, Bool.true_and, Bool.false_eq_true, if_true, if_false, go_sem, Nat.reduceEqDiff, Nat.reduceLT, Nat.reduceAdd, Nat.reduceSub, Nat.reduceLeDiff, List.reduceReplicate, Int.reduceToNat]
  repeat' (first | (with_reducible apply And.intro) | (with_reducible intro _))
  all_goals first
    | omega
    | (unfold roomy; omega)
    | (exfalso; simp_all; done)
    | (rw [h1 (by grind)]; exact post_val rfl rfl)
    | (rw [h2 (by grind)]; exact post_val rfl rfl)
    | skip
  all_goals trace_state
def node_first.C : Contract
  | [.agg [.int .i64 a, .int .i64 b, .int .i64 c, .int .i64 d, .sl false (.ints .i64 l)]] => some (false, pD (0 ≤ a ∧ a ≤ 9 ∧ 0 ≤ b ∧ b ≤ 1099511627776) (.int .i64 (firstN ⟨a, b, c, d, l⟩)))
  | _ => none
set_option maxRecDepth 20000 in
theorem node_first.spec : FSpec Try.prog 72 node_first.C := by
  refine FSpec.of (ctx_ok (F := []) (S := []) (by simp) (by simp) node_first.loops) node_first.at node_first.nm node_first.bd ?_
  intro vs b S v news e hS
  unfold node_first.C at e
  split at e
  rotate_left
  · cases e
  cases e
  rw [node_first.eq]
  unfold node_first.H
  simp (maxSteps := 4000000) only [go_sem, Nat.reduceEqDiff, Nat.reduceLT, Nat.reduceAdd, Nat.reduceSub, Nat.reduceLeDiff, List.reduceReplicate, Int.reduceToNat]
  rename_i a b c d l
  rw [first_bits hS.1 (by omega) hS.2.2.1 hS.2.2.2]
  exact ⟨by decide, post_val rfl rfl⟩
def wordsV (n : Nd) : AV := if ndB n = true then .tup [.sl false (.ints .i64 (wordsNd n)), .int .i64 0] else .tup [.sl false (.ints .i64 []), .int .i64 90]
def node_Words.C : Contract
  | [.agg [.int .i64 a, .int .i64 b, .int .i64 c, .int .i64 d, .sl false (.ints .i64 l)]] => some (false, pD True (wordsV ⟨a, b, c, d, l⟩))
  | _ => none
set_option maxRecDepth 20000 in
theorem node_Words.spec : FSpec Try.prog 35 node_Words.C := by
  refine FSpec.of (ctx_ok (F := [(71, node_Check.C), (72, node_first.C)]) (S := []) (by simpa using ⟨node_Check.spec, node_first.spec⟩) (by simp) node_Words.loops) node_Words.at node_Words.nm node_Words.bd ?_
  intro vs b S v news e hS
  unfold node_Words.C at e
  split at e
  rotate_left
  · cases e
  cases e
  rw [node_Words.eq]
  unfold node_Words.H
  simp (maxSteps := 4000000) only [go_sem, Nat.reduceEqDiff, Nat.reduceLT, Nat.reduceAdd, Nat.reduceSub, Nat.reduceLeDiff, List.reduceReplicate, Int.reduceToNat, node_Check.C, node_first.C]
  rename_i a b c d l
  refine ⟨fun h => ?_, fun h => ?_⟩
  · unfold wordsV; rw [h]; exact post_val rfl rfl
  · have hok := nd_iff.1 h
    obtain ⟨q1, q2, q3, q4, _, _, q7, _⟩ := hok
    simp only at q1 q2 q3 q4 q7
    have hw : firstN ⟨a, b, c, d, l⟩ :: c :: d :: (l.take 13 ++ List.take (16 - (3 + min 13 l.length)) (List.drop (3 + min 13 l.length) [firstN ⟨a, b, c, d, l⟩, c, d, 0, 0, 0, 0, 0, 0, 0, 0, 0, 0, 0, 0, 0])) = wordsNd ⟨a, b, c, d, l⟩ := by
      unfold wordsNd
      simp only
      rw [take_len l q7, Nat.min_eq_right q7]
      congr 4
      have : ∀ k, k ≤ 13 → List.take (16 - (3 + k)) (List.drop (3 + k) [firstN ⟨a, b, c, d, l⟩, c, d, 0, 0, 0, 0, 0, 0, 0, 0, 0, 0, 0, 0, 0]) = List.replicate (13 - k) 0 := by
        intro k hk
        rcases k with _|_|_|_|_|_|_|_|_|_|_|_|_|_|k <;> first | rfl | omega
      exact this _ q7
    rw [hw]
    unfold wordsV; simp only [h, if_true]
    refine ⟨⟨by decide, by decide, by unfold roomy; omega⟩, ⟨q1, q2, q3, q4⟩, ⟨by decide, by decide⟩, ⟨by decide, by decide⟩, ⟨by decide, by decide⟩, rfl, rfl, rfl, ⟨by decide, by decide⟩, post_val ?_ rfl⟩
    simp only [go_sem, Nat.reduceEqDiff, Nat.reduceLT, Nat.reduceAdd, Nat.reduceSub, Nat.reduceLeDiff, List.reduceReplicate, Int.reduceToNat]
    rw [take_len _ (Nat.le_of_eq (words_len (nd_iff.1 h)))]
def nextV (at_ next : Int) : AV := if (blockB at_ && blockB next) = true then .tup [.sl false (.mics [⟨1, 16 * at_ + 1, next⟩, ⟨2, 2 * at_, 0⟩]), .int .i64 0] else .tup [.sl false (.mics []), .int .i64 1]
def node_Next.C : Contract
  | [.int .i64 a, .int .i64 b] => some (false, pD True (nextV a b))
  | _ => none
def turnS (at_ : Int) (n : Nd) (down : Bool) : List Mic := if (blockB at_ && ndB n && !decide (decide (n.turn % 2 = 1) = down)) = true then [⟨1, 16 * at_, firstN (turnedN n)⟩] else []
def node_Turn.C : Contract
  | [.int .i64 t, .agg [.int .i64 a, .int .i64 b, .int .i64 c, .int .i64 d, .sl false (.ints .i64 l)], .bool down] => some (false, pD True (.sl false (.mics (turnS t ⟨a, b, c, d, l⟩ down))))
  | _ => none
def readV (words : List Int) (at_ : Int) : AV := if (decide (at_ < 0) || decide (((words.length / 16 : Nat) : Int) ≤ at_)) = true then .tup [zeroNd.V, .int .i64 1] else match readN (blockAt words at_.toNat) with
  | some n => .tup [n.V, .int .i64 0]
  | none => .tup [zeroNd.V, .int .i64 90]
def node_Read.C : Contract
  | [.sl _ (.ints .i64 l), .int .i64 k] => some (false, pD (roomy l.length) (readV l k))
  | _ => none
set_option maxRecDepth 20000 in
theorem node_Read.spec : FSpec Try.prog 23 node_Read.C := by
  refine FSpec.of (ctx_ok (F := [(58, fast_Slots.C), (35, node_Words.C), (59, slices_Equal_sl_int_int.C)]) (S := []) (by simpa using ⟨fast_Slots.spec, node_Words.spec, slices_Equal_sl_int_int.spec⟩) (by simp) node_Read.loops) node_Read.at node_Read.nm node_Read.bd ?_
  intro vs b S v news e hS
  unfold node_Read.C at e
  split at e
  rotate_left
  · cases e
  cases e
  rw [node_Read.eq]
  unfold node_Read.H
  simp (maxSteps := 4000000) only [go_sem, Nat.reduceEqDiff, Nat.reduceLT, Nat.reduceAdd, Nat.reduceSub, Nat.reduceLeDiff, List.reduceReplicate, Int.reduceToNat, fast_Slots.C, node_Words.C, slices_Equal_sl_int_int.C]
  rename_i l k
  have hrl := hS
  unfold roomy at hS
  have e0 : IntKind.i64.wrap ((l.length : Int).tdiv 16) = ((l.length / 16 : Nat) : Int) := by
    rw [Int.tdiv_eq_ediv_of_nonneg (by omega)]; exact w64 (by omega) (by omega)
  rw [e0]
  unfold readV
  refine ⟨fun _ => by decide, fun h => ?_, fun h => ?_⟩
  · rw [if_pos h]
    refine post_val ?_ rfl
    simp only [zeroNd, go_sem, Nat.reduceEqDiff, Nat.reduceLT, Nat.reduceAdd, Nat.reduceSub, Nat.reduceLeDiff, List.reduceReplicate, Int.reduceToNat]
  · rw [h]
    simp only [Bool.or_eq_false_iff, decide_eq_false_iff_not] at h
    obtain ⟨k, rfl⟩ := Int.eq_ofNat_of_zero_le (show 0 ≤ k by omega)
    have hk : 16 * k + 16 ≤ l.length := by omega
    have e1 : IntKind.i64.wrap (16 * (k : Int)) = 16 * (k : Int) := w64 (by omega) (by omega)
    have e2 : IntKind.i64.wrap ((k : Int) + 1) = (k : Int) + 1 := w64 (by omega) (by omega)
    have e3 : IntKind.i64.wrap (16 * ((k : Int) + 1)) = 16 * ((k : Int) + 1) := w64 (by omega) (by omega)
    have e4 : (16 * ((k : Int) + 1)).toNat - (16 * (k : Int)).toNat = 16 := by omega
    have e5 : (16 * (k : Int)).toNat = 16 * k := by omega
    have eb : (l.drop (16 * k)).take 16 = blockAt l k := rfl
    have hbl : (blockAt l k).length = 16 := by unfold blockAt; simp; omega
    rw [e2, e1, e3, e4, e5, eb, Int.toNat_natCast]
    generalize blockAt l k = w at *
    have hdp : (⟨andI .i64 (w.getD 0 0) 15, (andNotI .i64 (w.getD 0 0) 1152921504606846976).fdiv (2 ^ min 4 64), w.getD 1 0, w.getD 2 0, slotsOf w 0⟩ : Nd) = decP w := rfl
    have hV : (decP w).V = .agg [.int .i64 (andI .i64 (w.getD 0 0) 15), .int .i64 ((andNotI .i64 (w.getD 0 0) 1152921504606846976).fdiv (2 ^ min 4 64)), .int .i64 (w.getD 1 0), .int .i64 (w.getD 2 0), .sl false (.ints .i64 (slotsOf w 0))] := rfl
    rw [hdp, hbl, ← readP_eq]
    have hsr := slotsOf_roomy w 0
    refine ⟨by omega, by omega, by omega, by decide, by omega, by omega, ⟨by unfold roomy; omega, by decide⟩, ?_⟩
    unfold readBy wordsV
    cases hd : ndB (decP w) with
    | false =>
      simp only [Bool.false_eq_true, if_false, Bool.false_and, joinW_eq, joinW_eq, guard_tt, guard_tf, guard_ft, guard_ff, Int.reduceEq, Int.reduceLT, Int.reduceLE, decide_false, decide_true, Bool.not_false, Bool.not_true, Bool.not_not, not_true_eq_false, not_false_eq_true, true_implies, false_implies, implies_true, and_true, true_and, reduceCtorEq, Bool.and_self, Bool.or_self, Bool.and_true, Bool.true_and, Bool.false_eq_true, if_true, if_false, go_sem, Nat.reduceEqDiff, Nat.reduceLT, Nat.reduceAdd, Nat.reduceSub, Nat.reduceLeDiff, List.reduceReplicate, Int.reduceToNat]
      refine post_val ?_ rfl
      simp only [zeroNd, go_sem, Nat.reduceEqDiff, Nat.reduceLT, Nat.reduceAdd, Nat.reduceSub, Nat.reduceLeDiff, List.reduceReplicate, Int.reduceToNat]
    | true =>
      have hok := nd_iff.1 hd
      have hwl := words_len hok
      simp only [if_true, Bool.true_and, slices_Equal_sl_int_int.C, hwl, hbl, joinW_eq, guard_tt, guard_tf, guard_ft, guard_ff, Int.reduceEq, Int.reduceLT, Int.reduceLE, decide_false, decide_true, Bool.not_false, Bool.not_true, Bool.not_not, not_true_eq_false, not_false_eq_true, true_implies, false_implies, implies_true, and_true, true_and, reduceCtorEq, Bool.and_self, Bool.or_self, Bool.and_true, Bool.true_and, Bool.false_eq_true, if_true, if_false, go_sem, Nat.reduceEqDiff, Nat.reduceLT, Nat.reduceAdd, Nat.reduceSub, Nat.reduceLeDiff, List.reduceReplicate, Int.reduceToNat]
      refine ⟨by unfold roomy; omega, fun h => ?_, fun h => ?_⟩
      · rw [if_neg h]
        refine post_val ?_ rfl
        simp only [zeroNd, go_sem, Nat.reduceEqDiff, Nat.reduceLT, Nat.reduceAdd, Nat.reduceSub, Nat.reduceLeDiff, List.reduceReplicate, Int.reduceToNat]
      · rw [if_pos h]
        exact post_val rfl rfl
end Lam
namespace Lam
open Go Go.Proofs
set_option linter.unusedVariables false
def key_Text.loops : Nat → LInfo
  | 1 => ⟨[], [], [], [(3, none), (9, some [14, 23])], [], []⟩
  | 5 => ⟨[6, 31], [true, false], [1, 29, 30], [], [], []⟩
  | 7 => ⟨[], [], [], [(3, none), (2, some [37, 39])], [], []⟩
  | 10 => ⟨[6, 41], [true, false], [1, 8, 29, 30, 31], [], [], []⟩
  | 16 => ⟨[59], [false], [1, 6, 57, 58], [], [], []⟩
  | _ => ⟨[], [], [], [], [], []⟩
def key_Text.L2 (c : Ctx) (J5 : AV → AV → AV → AV → AV → List AObj → Prop) (K : AOut → List AObj → Prop) (lv : List AV) (h0 : List AObj) (n0 : Nat) (c1 : AV) (c8 : AV) (c29 : AV) (c30 : AV) (c31 : AV) : Prop :=
  ∃ I : Nat → List AV → List AObj → Prop, (∃ n, I n lv h0) ∧ ∀ n h, ∀ t6, ∀ t41, I n [t6, t41] h →
    runD (binD T_int .lss t41 (.int .i64 7)) h fun t42 h =>
    condW t42
    (runD (binD T_int .sub (.int .i64 6) t41) h fun t47 h =>
    runD (binD T_int .mul (.int .i64 8) t47) h fun t48 h =>
    runD (binD T_int .shr c8 t48) h fun t49 h =>
    runD (convD h T_int T_uint8 t49) h fun t50 h =>
    runD (buildSliceD T_sl_uint8 1 [(0, t50)] h.length) h fun t51 h =>
    runDM (appendD T_sl_uint8 h t6 t51 h.length) (appendH T_sl_uint8 h t6 t51) h fun t52 h =>
    runD (binD T_int .add t41 (.int .i64 1)) h fun t53 h =>
    (∃ m, m < n ∧ I m (AV.norms n0 h [t52, t53]) (normH n0 h)) ∧ AV.norms n0 h [c1, c8, c29, c30, c31] = [c1, c8, c29, c30, c31])
    (J5 c1 t6 c29 c30 c31 h)
def key_Text.L1 (c : Ctx) (J2 : AV → AV → List AObj → Prop) (K : AOut → List AObj → Prop) (lv : List AV) (h0 : List AObj) (n0 : Nat) (c1 : AV) (c29 : AV) (c30 : AV) : Prop :=
  ∃ I : Nat → List AV → List AObj → Prop, (∃ n, I n lv h0) ∧ ∀ n h, ∀ t6, ∀ t31, I n [t6, t31] h →
    runD (binD T_int .lss t31 c30) h fun t32 h =>
    condW t32
    (joinW (fun (J3 : AV → AV → AV → AV → AV → List AObj → Prop) =>
    runD (indexAddrD T_sl_int h c29 t31) h fun t33 h =>
    runD (fitD T_int (loadD h t33)) h fun t34 h =>
    runD (binD T_int .lss t34 (.int .i64 0)) h fun t36 h =>
    joinW (fun (J4 : AV → AV → List AObj → Prop) =>
    guardW t36 false
    (runD (binD T_int .geq t34 (.int .i64 72057594037927936)) h fun t39 h =>
      J4 (.bool false) t39 h)
    (J4 (.bool true) .und h))
    (fun t37 t39 h => runD (pickD t37 (.bool true) t39) h fun t40 h =>
    condW t40
    (K (.ret (.tup [(.str []), (.int .i64 20)])) h)
    (joinW (fun (J5 : AV → AV → AV → AV → AV → List AObj → Prop) =>
    promV [true, false] [t6, (.int .i64 0)] h fun lv h => key_Text.L2 c J5 K (AV.norms h.length h lv) (normH h.length h) h.length (AV.norm h.length h c1) (AV.norm h.length h t34) (AV.norm h.length h c29) (AV.norm h.length h c30) (AV.norm h.length h t31))
    (fun t1 t6 t29 t30 t31 h => J3 t1 t6 t29 t30 t31 h))))
    (fun t1 t6 t29 t30 t31 h => runD (binD T_int .add t31 (.int .i64 1)) h fun t54 h =>
    (∃ m, m < n ∧ I m (AV.norms n0 h [t6, t54]) (normH n0 h)) ∧ AV.norms n0 h [t1, t29, t30] = [c1, c29, c30]))
    (J2 c1 t6 h)
def key_Text.L3 (c : Ctx) (J6 : AV → AV → List AObj → Prop) (K : AOut → List AObj → Prop) (lv : List AV) (h0 : List AObj) (n0 : Nat) (c1 : AV) (c6 : AV) (c57 : AV) (c58 : AV) : Prop :=
  ∃ I : Nat → List AV → List AObj → Prop, (∃ n, I n lv h0) ∧ ∀ n h, ∀ t59, I n [t59] h →
    runD (binD T_int .lss t59 c58) h fun t60 h =>
    condW t60
    (runD (indexAddrD T_sl_uint8 h c57 t59) h fun t61 h =>
    runD (fitD T_uint8 (loadD h t61)) h fun t62 h =>
    runD (binD T_uint8 .neq t62 (.int .u8 0)) h fun t64 h =>
    condW t64
    (K (.ret (.tup [(.str []), (.int .i64 20)])) h)
    (runD (binD T_int .add t59 (.int .i64 1)) h fun t65 h =>
    (∃ m, m < n ∧ I m (AV.norms n0 h [t65]) (normH n0 h)) ∧ AV.norms n0 h [c1, c6, c57, c58] = [c1, c6, c57, c58]))
    (J6 c1 c6 h)
def key_Text.H (c : Ctx) (t0 : AV) (t1 : AV) (h : List AObj) (K : AOut → List AObj → Prop) : Prop :=
  runD (binD T_int .lss t1 (.int .i64 0)) h fun t13 h =>
  joinW (fun (J1 : AV → AV → List AObj → Prop) =>
  guardW t13 false
  (runD (lenD T_sl_int h t0) h fun t16 h =>
    runD (binD T_int .quo t1 (.int .i64 7)) h fun t18 h =>
    runD (binD T_int .rem t1 (.int .i64 7)) h fun t20 h =>
    runD (minD (.int .i64 1) t20) h fun t21 h =>
    runD (binD T_int .add t18 t21) h fun t22 h =>
    runD (binD T_int .neq t16 t22) h fun t23 h =>
    J1 (.bool false) t23 h)
  (J1 (.bool true) .und h))
  (fun t14 t23 h => runD (pickD t14 (.bool true) t23) h fun t24 h =>
  condW t24
  (K (.ret (.tup [(.str []), (.int .i64 20)])) h)
  (runD (lenD T_sl_int h t0) h fun t26 h =>
  runD (binD T_int .mul (.int .i64 7) t26) h fun t27 h =>
  runD (makeSliceD T_sl_uint8 (.int .i64 0) t27 h.length) h fun t28 h =>
  runD (lenD T_sl_int h t0) h fun t30 h =>
  joinW (fun (J2 : AV → AV → List AObj → Prop) =>
  promV [true, false] [t28, (.int .i64 0)] h fun lv h => key_Text.L1 c J2 K (AV.norms h.length h lv) (normH h.length h) h.length (AV.norm h.length h t1) (AV.norm h.length h t0) (AV.norm h.length h t30))
  (fun t1 t6 h => runD (sliceD T_sl_uint8 h t6 (some t1) none none) h fun t57 h =>
  runD (lenD T_sl_uint8 h t57) h fun t58 h =>
  joinW (fun (J6 : AV → AV → List AObj → Prop) =>
  promV [false] [(.int .i64 0)] h fun lv h => key_Text.L3 c J6 K (AV.norms h.length h lv) (normH h.length h) h.length (AV.norm h.length h t1) (AV.norm h.length h t6) (AV.norm h.length h t57) (AV.norm h.length h t58))
  (fun t1 t6 h => runD (sliceD T_sl_uint8 h t6 none (some t1) none) h fun t68 h =>
  runD (convD h T_sl_uint8 T_string t68) h fun t69 h =>
  K (.ret (.tup [t69, (.int .i64 0)])) h))))
def key_Check.loops : Nat → LInfo
  | 1 => ⟨[], [], [], [(3, none), (3, some [5, 8])], [], []⟩
  | _ => ⟨[], [], [], [], [], []⟩
def key_Check.H (c : Ctx) (t0 : AV) (h : List AObj) (K : AOut → List AObj → Prop) : Prop :=
  runD (binD T_string .neq t0 (.str [])) h fun t4 h =>
  joinW (fun (J1 : AV → AV → List AObj → Prop) =>
  guardW t4 true
  (runD (lenD T_string h t0) h fun t7 h =>
    runD (binD T_int .leq t7 (.int .i64 21)) h fun t8 h =>
    J1 (.bool true) t8 h)
  (J1 (.bool false) .und h))
  (fun t5 t8 h => runD (pickD t5 t8 (.bool false)) h fun t9 h =>
  K (.ret t9) h)
def key_CheckVal.loops : Nat → LInfo
  | _ => ⟨[], [], [], [], [], []⟩
def key_CheckVal.H (c : Ctx) (t0 : AV) (h : List AObj) (K : AOut → List AObj → Prop) : Prop :=
  runD (lenD T_string h t0) h fun t4 h =>
  runD (binD T_int .leq t4 (.int .i64 21)) h fun t5 h =>
  K (.ret t5) h
def key_Words.loops : Nat → LInfo
  | 2 => ⟨[], [], [], [], [2], []⟩
  | 5 => ⟨[4, 11], [false, false], [2, 3, 10], [], [], []⟩
  | _ => ⟨[], [], [], [], [], []⟩
def key_Words.L1 (c : Ctx) (id : Nat) (r : Loop) (J3 : AV → AV → List AObj → Prop) (K : AOut → List AObj → Prop) (lv : List AV) (h0 : List AObj) (n0 : Nat) (c2 : AV) (c3 : AV) (c10 : AV) : Prop :=
  ∃ I : Nat → List AV → List AObj → Prop, (∃ n, I n lv h0) ∧ ∀ n h, ∀ t4, ∀ t11, I n [t4, t11] h →
    runD (binD T_int .lss t11 c10) h fun t12 h =>
    condW t12
    (runD (indexD T_string c3 t11) h fun t17 h =>
    runD (convD h T_uint8 T_int t17) h fun t18 h =>
    runD (binD T_int .sub (.int .i64 6) t11) h fun t20 h =>
    runD (binD T_int .mul (.int .i64 8) t20) h fun t21 h =>
    runD (binD T_int .shl t18 t21) h fun t22 h =>
    runD (binD T_int .or t4 t22) h fun t23 h =>
    runD (binD T_int .add t11 (.int .i64 1)) h fun t24 h =>
    (∃ m, m < n ∧ I m (AV.norms n0 h [t23, t24]) (normH n0 h)) ∧ AV.norms n0 h [c2, c3, c10] = [c2, c3, c10])
    (J3 c2 t4 h)
def key_Words.H (c : Ctx) (t0 : AV) (h : List AObj) (K : AOut → List AObj → Prop) : Prop :=
  allocW T_sl_int h fun t2 h =>
  callW false c (.fn (.func 128) [] []) [t0] h (fun t7 h =>
  joinW (fun (J1 : AV → List AObj → Prop) =>
  rangeX c.iterS t7 (boxH [t2] h)
  (fun id r args h K => lpIs h id .ready r ∧ argX1 args fun t8 =>
  lpIs h id .ready r ∧
  joinW (fun (J2 : List AObj → Prop) =>
  runD (lenD T_string (List.set h id (.lp .busy none r)) t8) (List.set h id (.lp .busy none r)) fun t10 h =>
  joinW (fun (J3 : AV → AV → List AObj → Prop) =>
  promV [false, false] [(.int .i64 0), (.int .i64 0)] h fun lv h => key_Words.L1 c id r J3 K (AV.norms h.length h lv) (normH h.length h) h.length (AV.norm h.length h t2) (AV.norm h.length h t8) (AV.norm h.length h t10))
  (fun t2 t4 h => runD (fitD T_sl_int (loadD h t2)) h fun t25 h =>
  runD (buildSliceD T_sl_int 1 [(0, t4)] h.length) h fun t27 h =>
  runDM (appendD T_sl_int h t25 t27 h.length) (appendH T_sl_int h t25 t27) h fun t28 h =>
  runH (storeH T_sl_int h t2 t28) h fun _ h =>
  J2 h))
  (fun h => lpIs h id .busy r ∧ K (.ret (.bool true)) (List.set h id (.lp .ready none r))))
  (fun id r ao h => endX id r ao h
  (fun h => J1 t2 h)
  (fun h => loadRes (fitD T_sl_int (loadD h t2)) fun r0 => K (.ret r0) h)
  (fun i h => exitW i 0 (J1 t2 h) (False))
  (fun l h => False)
  (fun v h => K (.pan v) h)))
  (fun t2 h => runD (fitD T_sl_int (loadD h t2)) h fun t29 h =>
  runH (storeH T_sl_int h t2 t29) h fun _ h =>
  loadRes (fitD T_sl_int (loadD h t2)) fun r0 => K (.ret r0) h))
  (fun v h => K (.pan v) h)
def key_pieces.loops : Nat → LInfo
  | _ => ⟨[], [], [], [], [], []⟩
def key_pieces.H (c : Ctx) (t0 : AV) (h : List AObj) (K : AOut → List AObj → Prop) : Prop :=
  boxW T_string t0 h fun t1 h =>
  K (.ret (.fn (.func 145) [] [t1])) h
def key_pieces_1.loops : Nat → LInfo
  | 0 => ⟨[], [], [0, 1], [], [], []⟩
  | _ => ⟨[], [], [], [], [], []⟩
def key_pieces_1.L1 (c : Ctx) (J1 : List AObj → Prop) (K : AOut → List AObj → Prop) (lv : List AV) (h0 : List AObj) (n0 : Nat) (c0 : AV) (c1 : AV) : Prop :=
  ∃ I : Nat → List AV → List AObj → Prop, (∃ n, I n lv h0) ∧ ∀ n h, I n [] h →
    runD (fitD T_string (loadD h c1)) h fun t4 h =>
    runD (lenD T_string h t4) h fun t5 h =>
    runD (binD T_int .gtr t5 (.int .i64 0)) h fun t6 h =>
    condW t6
    (runD (fitD T_string (loadD h c1)) h fun t7 h =>
    runD (lenD T_string h t7) h fun t8 h =>
    runD (minD (.int .i64 7) t8) h fun t9 h =>
    runD (fitD T_string (loadD h c1)) h fun t11 h =>
    runD (sliceD T_string h t11 none (some t9) none) h fun t13 h =>
    callW false c c0 [t13] h (fun t14 h =>
    runD (unD .not t14) h fun t15 h =>
    condW t15
    (K (.ret (.tup [])) h)
    (runD (fitD T_string (loadD h c1)) h fun t16 h =>
    runD (sliceD T_string h t16 (some t9) none none) h fun t18 h =>
    runH (storeH T_string h c1 t18) h fun _ h =>
    (∃ m, m < n ∧ I m (AV.norms n0 h []) (normH n0 h)) ∧ AV.norms n0 h [c0, c1] = [c0, c1]))
    (fun v h => K (.pan v) h))
    (J1 h)
def key_pieces_1.H (c : Ctx) (t0 : AV) (t1 : AV) (h : List AObj) (K : AOut → List AObj → Prop) : Prop :=
  joinW (fun (J1 : List AObj → Prop) =>
  promV [] [] h fun lv h => key_pieces_1.L1 c J1 K (AV.norms h.length h lv) (normH h.length h) h.length (AV.norm h.length h t0) (AV.norm h.length h t1))
  (fun h => K (.ret (.tup [])) h)
theorem key_Text.eq (F : List (FuncId × Contract)) (S : List (FuncId × Con)) (t0 t1 : AV) (h : List AObj) (K : AOut → List AObj → Prop) : funW (ctx F S key_Text.loops) Try.f101 [t0, t1] h K = key_Text.H (ctx F S key_Text.loops) t0 t1 h K := by kernel_rfl
theorem key_Check.eq (F : List (FuncId × Contract)) (S : List (FuncId × Con)) (t0 : AV) (h : List AObj) (K : AOut → List AObj → Prop) : funW (ctx F S key_Check.loops) Try.f102 [t0] h K = key_Check.H (ctx F S key_Check.loops) t0 h K := by kernel_rfl
theorem key_CheckVal.eq (F : List (FuncId × Contract)) (S : List (FuncId × Con)) (t0 : AV) (h : List AObj) (K : AOut → List AObj → Prop) : funW (ctx F S key_CheckVal.loops) Try.f103 [t0] h K = key_CheckVal.H (ctx F S key_CheckVal.loops) t0 h K := by kernel_rfl
theorem key_Words.eq (F : List (FuncId × Contract)) (S : List (FuncId × Con)) (Is : List (FuncId × (Con → Con))) (t0 : AV) (h : List AObj) (K : AOut → List AObj → Prop) : funW (ctxI F S Is key_Words.loops) Try.f104 [t0] h K = key_Words.H (ctxI F S Is key_Words.loops) t0 h K := by kernel_rfl
theorem key_pieces.eq (F : List (FuncId × Contract)) (S : List (FuncId × Con)) (t0 : AV) (h : List AObj) (K : AOut → List AObj → Prop) : funW (ctx F S key_pieces.loops) Try.f128 [t0] h K = key_pieces.H (ctx F S key_pieces.loops) t0 h K := by kernel_rfl
theorem key_pieces_1.eq (F : List (FuncId × Contract)) (S : List (FuncId × Con)) (l : Nat) (Y : Con) (t0 t1 : AV) (h : List AObj) (K : AOut → List AObj → Prop) : funW ((ctx F S key_pieces_1.loops).withY l Y) Try.f145 [t0, t1] h K = key_pieces_1.H ((ctx F S key_pieces_1.loops).withY l Y) t0 t1 h K := by kernel_rfl
theorem key_Text.at : Try.prog.funcs[101]? = some Try.f101 := by kernel_rfl
theorem key_Text.nm : (Try.f101.name == "runtime.NumGoroutine") = false := by kernel_rfl
theorem key_Text.bd : Try.f101.body.isNone = false := by kernel_rfl
theorem key_Check.at : Try.prog.funcs[102]? = some Try.f102 := by kernel_rfl
theorem key_Check.nm : (Try.f102.name == "runtime.NumGoroutine") = false := by kernel_rfl
theorem key_Check.bd : Try.f102.body.isNone = false := by kernel_rfl
theorem key_CheckVal.at : Try.prog.funcs[103]? = some Try.f103 := by kernel_rfl
theorem key_CheckVal.nm : (Try.f103.name == "runtime.NumGoroutine") = false := by kernel_rfl
theorem key_CheckVal.bd : Try.f103.body.isNone = false := by kernel_rfl
theorem key_Words.at : Try.prog.funcs[104]? = some Try.f104 := by kernel_rfl
theorem key_Words.nm : (Try.f104.name == "runtime.NumGoroutine") = false := by kernel_rfl
theorem key_Words.bd : Try.f104.body.isNone = false := by kernel_rfl
theorem key_pieces.at : Try.prog.funcs[128]? = some Try.f128 := by kernel_rfl
theorem key_pieces.nm : (Try.f128.name == "runtime.NumGoroutine") = false := by kernel_rfl
theorem key_pieces.bd : Try.f128.body.isNone = false := by kernel_rfl
theorem key_pieces_1.at : Try.prog.funcs[145]? = some Try.f145 := by kernel_rfl
theorem key_pieces_1.nm : (Try.f145.name == "runtime.NumGoroutine") = false := by kernel_rfl
theorem key_pieces_1.bd : Try.f145.body.isNone = false := by kernel_rfl
end Lam
namespace Lam
open Go Go.Proofs
set_option linter.unusedVariables false
set_option linter.unnecessarySimpa false
set_option linter.unusedSimpArgs false
theorem key_Words_L1 (c : Ctx) (id : Nat) (r : Loop) (J : AV → AV → List AObj → Prop) (K : AOut → List AObj → Prop) (p : Bytes) (hp : p.length ≤ 7) (v k : Nat) (s : Bytes) (xs : List Int)
    (hJ : J (.ptr 0 []) (.int .i64 (pw p : Nat)) [.box (.sref false 2 v 0 k), .box (.str s), .row .own v (.ints .i64 xs), .lp .busy none r]) :
    key_Words.L1 c id r J K [.int .i64 0, .int .i64 0] [.box (.sref false 2 v 0 k), .box (.str s), .row .own v (.ints .i64 xs), .lp .busy none r] 4 (.ptr 0 []) (.str p) (.int .i64 p.length) := by
  unfold key_Words.L1
  refine ⟨fun m lv h' => ∃ j : Nat, j + m = p.length ∧ lv = [.int .i64 (pv (p.take j) * 256 ^ (7 - j) : Nat), .int .i64 j] ∧ h' = [.box (.sref false 2 v 0 k), .box (.str s), .row .own v (.ints .i64 xs), .lp .busy none r],
    ⟨p.length, 0, by omega, by simp [pv], rfl⟩, ?_⟩
  rintro m h' t4 t11 ⟨j, hj, hlv, rfl⟩
  simp only [List.cons.injEq, and_true] at hlv
  obtain ⟨rfl, rfl⟩ := hlv
  simp only [go_sem, Nat.reduceEqDiff, Nat.reduceLT, Nat.reduceAdd, Nat.reduceSub, Nat.reduceLeDiff, List.reduceReplicate, Int.reduceToNat]
  refine ⟨fun hlt => ?_, fun hge => ?_⟩
  · have hjp : j < p.length := by omega
    have e1 : IntKind.i64.wrap (6 - (j : Int)) = 6 - j := w64 (by omega) (by omega)
    refine ⟨by omega, by rw [e1, w64 (by omega) (by omega)]; omega, m - 1, by omega, j + 1, by omega, ?_⟩
    rw [pv_step p hp hjp, w64 (by omega) (by omega)]
    rfl
  · have : j = p.length := by omega
    subst this
    rw [List.take_length] at *
    exact hJ

def key_pieces_1.I : Con → Con := fun Y args h K => match args with
  | [.fn (.yield l) [] [], a0] => key_pieces_1.H ((ctx [] [] key_pieces_1.loops).withY l Y) (.fn (.yield l) [] []) a0 h K
  | _ => False
theorem key_pieces_1.spec : ISpec Try.prog 145 key_pieces_1.I := by
  refine ISpec.of (ctx_ok (F := []) (S := []) (by simp) (by simp) key_pieces_1.loops).toOkI key_pieces_1.at key_pieces_1.nm key_pieces_1.bd ?_
  intro Yc l cap h K hC
  unfold key_pieces_1.I at hC
  split at hC
  · rename_i e
    simp only [List.cons.injEq, AV.fn.injEq, Fn.yield.injEq, and_true, true_and] at e
    obtain ⟨rfl, rfl⟩ := e
    rw [key_pieces_1.eq]; exact hC
  · exact hC.elim
def key_pieces.K : Con := fun args h K => match args with
  | [a0] => key_pieces.H (ctx [] [] key_pieces.loops) a0 h K
  | _ => False
theorem key_pieces.spec : SSpec Try.prog 128 key_pieces.K := by
  refine SSpec.of (ctx_ok (F := []) (S := []) (by simp) (by simp) key_pieces.loops) key_pieces.at key_pieces.nm key_pieces.bd ?_
  intro args h K hC
  unfold key_pieces.K at hC
  split at hC
  · rw [key_pieces.eq]; exact hC
  · exact hC.elim
def key_Words.C : Contract
  | [.str s] => some (false, pD (roomy s.length) (.sl false (.ints .i64 (keyW s))))
  | _ => none
set_option maxRecDepth 20000 in
theorem key_Words.spec : FSpec Try.prog 104 key_Words.C := by
  refine FSpec.of (ctxI_ok (F := []) (S := [(128, key_pieces.K)]) (Is := [(145, key_pieces_1.I)]) (by simp) (by simpa using key_pieces.spec) (by simpa using key_pieces_1.spec) key_Words.loops) key_Words.at key_Words.nm key_Words.bd ?_
  intro vs b S v news e hS
  unfold key_Words.C at e
  split at e
  rotate_left
  · cases e
  cases e
  rw [key_Words.eq]
  unfold key_Words.H
  simp (maxSteps := 4000000) only [go_sem, Nat.reduceEqDiff, Nat.reduceLT, Nat.reduceAdd, Nat.reduceSub, Nat.reduceLeDiff, List.reduceReplicate, Int.reduceToNat, key_pieces.K, key_pieces.H, key_pieces_1.I, key_pieces_1.H, joinW_eq]
  rename_i s
  unfold roomy at hS
  intro l r
  unfold key_pieces_1.L1
  refine ⟨fun m lv h' => ∃ k v : Nat, k + m = nPieces s ∧ h' = [.box (.sref false 2 v 0 k), .box (.str (s.drop (7*k))), .row .own v (.ints .i64 ((keyW s).take k)), .lp .ready none r], ⟨nPieces s, 0, 0, by omega, by simp⟩, ?_⟩
  rintro m h' ⟨k, v, hk, rfl⟩
  have hwl : (keyW s).length = nPieces s := by simp [keyW]
  have hnp : nPieces s = (s.length + 6) / 7 := rfl
  have hacc : ((keyW s).take k).length = k := by simp; omega
  simp only [go_sem, Nat.reduceEqDiff, Nat.reduceLT, Nat.reduceAdd, Nat.reduceSub, Nat.reduceLeDiff, List.reduceReplicate, Int.reduceToNat, List.length_drop]
  refine ⟨fun hlt => ?_, fun hge => ?_⟩
  · have hn : (if ((s.length - 7 * k : Nat) : Int) < 7 then ((s.length - 7 * k : Nat) : Int) else 7) = ((min 7 (s.length - 7 * k) : Nat) : Int) := by split <;> omega
    simp only [hn, Int.toNat_natCast]
    have hpc : (s.drop (7 * k)).take (min 7 (s.length - 7 * k)) = pieceN s k := by
      unfold pieceN
      rcases Nat.lt_or_ge (s.length - 7 * k) 7 with h | h
      · rw [Nat.min_eq_right (by omega), List.take_of_length_le (by simp), List.take_of_length_le (by simp; omega)]
      · rw [Nat.min_eq_left (by omega)]
    rw [hpc]
    have hpl : (pieceN s k).length ≤ 7 := by unfold pieceN; simp; omega
    refine ⟨by omega, key_Words_L1 _ _ _ _ _ _ hpl _ _ _ _ ?_⟩
    simp only [go_sem, Nat.reduceEqDiff, Nat.reduceLT, Nat.reduceAdd, Nat.reduceSub, Nat.reduceLeDiff, List.reduceReplicate, Int.reduceToNat, hacc]
    have hkn : k < nPieces s := by omega
    have hnext : (keyW s).take (k + 1) = (keyW s).take k ++ [(pw (pieceN s k) : Int)] := by
      rw [take_next _ k 0 (by omega), getD_words s hkn]
    have hd : (s.drop (7 * k)).drop (min 7 (s.length - 7 * k)) = s.drop (7 * (k + 1)) := by
      rw [List.drop_drop]
      rcases Nat.lt_or_ge (s.length - 7 * k) 7 with h | h
      · rw [List.drop_eq_nil_of_le (by omega), List.drop_eq_nil_of_le (by omega)]
      · congr 1; omega
    have hl1 : ((keyW s).take (k + 1)).length = k + 1 := by simp; omega
    rw [← hnext, hd, hl1]
    refine ⟨by unfold roomy; omega, by simp; omega, m - 1, by omega, k + 1, v + 1, by omega, rfl⟩
  · have : k = nPieces s := by omega
    subst this
    rw [List.take_of_length_le (by omega)]
    refine post_val ?_ rfl
    have := hacc
    rw [List.take_of_length_le (by omega)] at this
    simp only [go_sem, Nat.reduceEqDiff, Nat.reduceLT, Nat.reduceAdd, Nat.reduceSub, Nat.reduceLeDiff, List.reduceReplicate, Int.reduceToNat, List.take_of_length_le (Nat.le_of_eq hwl)]
def textV (l : List Int) (n : Int) : AV := .tup [.str (if textB l n = true then textS l n else []), .int .i64 (if textB l n = true then 0 else 20)]
@[go_sem] theorem textV_noSl (l : List Int) (n : Int) : (textV l n).noSl = true := (rfl)
theorem text_bad {l : List Int} {n : Int} (hb : textB l n = false) (h : List AObj) : Post false (textV l n) [] (.ret (.tup [.str [], .int .i64 20])) h := by
  unfold textV; rw [hb]; exact post_val rfl rfl
def key_Text.C : Contract
  | [.sl _ (.ints .i64 l), .int .i64 n] => some (false, pD (roomy (7 * l.length) ∧ n < 9223372036854775808) (textV l n))
  | _ => none
theorem key_Text_L2 (c : Ctx) (J : AV → AV → AV → AV → AV → List AObj → Prop) (K : AOut → List AObj → Prop) (n w : Int) (l pre : List Int) (v k len : Nat) (hr : pre.length + 7 ≤ 1099511627776)
    (hJ : J (.int .i64 n) (.sref false 0 (v + 7) 0 (pre.length + 7)) (.sl false (.ints .i64 l)) (.int .i64 len) (.int .i64 k) [.row .own (v + 7) (.ints .u8 (pre ++ sevenI w))]) :
    key_Text.L2 c J K [.sref false 0 v 0 pre.length, .int .i64 0] [.row .own v (.ints .u8 pre)] 1 (.int .i64 n) (.int .i64 w) (.sl false (.ints .i64 l)) (.int .i64 len) (.int .i64 k) := by
  unfold key_Text.L2
  refine ⟨fun m lv h' => ∃ j : Nat, j + m = 7 ∧ lv = [.sref false 0 (v + j) 0 (pre.length + j), .int .i64 j] ∧ h' = [.row .own (v + j) (.ints .u8 (pre ++ (List.range j).map (byteI w)))],
    ⟨7, 0, by omega, by simp, by simp⟩, ?_⟩
  rintro m h' t6 t41 ⟨j, hj, hlv, rfl⟩
  simp only [List.cons.injEq, and_true] at hlv
  obtain ⟨rfl, rfl⟩ := hlv
  have hlen : (pre ++ (List.range j).map (byteI w)).length = pre.length + j := by simp
  simp only [go_sem, Nat.reduceEqDiff, Nat.reduceLT, Nat.reduceAdd, Nat.reduceSub, Nat.reduceLeDiff, List.reduceReplicate, Int.reduceToNat, hlen]
  refine ⟨fun hlt => ?_, fun hge => ?_⟩
  · have e1 : IntKind.i64.wrap (6 - (j : Int)) = 6 - j := w64 (by omega) (by omega)
    have e2 : IntKind.i64.wrap (8 * (6 - (j : Int))) = 8 * (6 - j) := w64 (by omega) (by omega)
    have e3 : (8 * (6 - (j : Int))).toNat = 8 * (6 - j) := by omega
    have e4 : min (8 * (6 - j)) 64 = 8 * (6 - j) := by omega
    simp only [e1, e2, e3, e4]
    have hz : (List.range j).map (byteI w) ++ [IntKind.u8.wrap (w.fdiv (2 ^ (8 * (6 - j))))] = (List.range (j + 1)).map (byteI w) := by rw [List.range_succ]; simp [byteI]
    have hl2 : (pre ++ (List.range (j + 1)).map (byteI w)).length = pre.length + (j + 1) := by simp
    rw [hz, hl2, w64 (by omega) (by omega)]
    exact ⟨by omega, by unfold roomy; omega, m - 1, by omega, j + 1, by omega, rfl, rfl⟩
  · have : j = 7 := by omega
    subst this
    exact hJ

set_option maxRecDepth 20000 in
theorem key_Text.spec : FSpec Try.prog 101 key_Text.C := by
  refine FSpec.of (ctx_ok (F := []) (S := []) (by simp) (by simp) key_Text.loops) key_Text.at key_Text.nm key_Text.bd ?_
  intro vs b S v news e hS
  unfold key_Text.C at e
  split at e
  rotate_left
  · cases e
  cases e
  rw [key_Text.eq]
  unfold key_Text.H
  simp (maxSteps := 4000000) only [go_sem, Nat.reduceEqDiff, Nat.reduceLT, Nat.reduceAdd, Nat.reduceSub, Nat.reduceLeDiff, List.reduceReplicate, Int.reduceToNat]
  rename_i l n
  unfold roomy at hS
  obtain ⟨hS, hn63⟩ := hS
  refine ⟨fun _ => by decide, fun hb => text_bad ?_ _, fun hb => ?_⟩
  · have hb : (!decide (n < 0) && decide ((l.length : Int) = lenT n)) = false := by
      unfold lenT
      revert hb
      cases decide (n < 0) <;> simp
    unfold textB
    rw [hb]; rfl
  have hb1 : ¬ n < 0 := by intro h; simp [h] at hb
  have hb2 : (l.length : Int) = lenT n := by
    rw [decide_eq_false hb1, Bool.false_or, Bool.not_eq_false', decide_eq_true_eq] at hb
    exact hb
  have e7 : IntKind.i64.wrap (7 * (l.length : Int)) = ((7 * l.length : Nat) : Int) := by rw [w64 (by omega) (by omega)]; omega
  refine ⟨⟨by omega, by rw [e7]; omega, by rw [e7, Int.toNat_natCast]; exact hS⟩, ?_⟩
  rw [joinW_eq]
  unfold key_Text.L1
  refine ⟨fun m lv h' => ∃ k v : Nat, k + m = l.length ∧ lv = [.sref false 0 v 0 (7 * k), .int .i64 k] ∧ h' = [.row .own v (.ints .u8 (flatI (l.take k)))] ∧ (l.take k).all wMay = true,
    ⟨l.length, 0, 0, by omega, rfl, rfl, rfl⟩, ?_⟩
  rintro m h' t6 t31 ⟨k, v, hk, hlv, rfl, hall⟩
  simp only [List.cons.injEq, and_true] at hlv
  obtain ⟨rfl, rfl⟩ := hlv
  have hfl : (flatI (l.take k)).length = 7 * k := by rw [flatI_len, List.length_take, Nat.min_eq_left (by omega)]
  simp only [go_sem, Nat.reduceEqDiff, Nat.reduceLT, Nat.reduceAdd, Nat.reduceSub, Nat.reduceLeDiff, List.reduceReplicate, Int.reduceToNat, hfl]
  refine ⟨fun hlt => ?_, fun hge => ?_⟩
  · have hkl : k < l.length := by omega
    rw [joinW_eq]
    refine ⟨by omega, fun hbad => text_bad ?_ _, fun hok => ?_⟩
    · have : l.all wMay = false := by
        rw [List.all_eq_false]
        refine ⟨_, getD_mem l k 0 hkl, fun h => ?_⟩
        simp only [wMay, Bool.and_eq_true, decide_eq_true_eq] at h
        simp only [Bool.or_eq_true, decide_eq_true_eq] at hbad
        omega
      simp [textB, this]
    · have hw : wMay (l.getD k 0) = true := by
        simp only [Bool.or_eq_false_iff, decide_eq_false_iff_not] at hok
        simp only [wMay, Bool.and_eq_true, decide_eq_true_eq]; omega
      rw [joinW_eq]
      have hL2 := key_Text_L2 (ctx [] [] key_Text.loops)
      rw [← hfl]
      refine hL2 _ _ _ _ _ _ _ _ _ (by rw [hfl]; omega) ?_
      have hnx : flatI (l.take k) ++ sevenI (l.getD k 0) = flatI (l.take (k + 1)) := by
        rw [take_next l k 0 hkl]; simp [flatI]
      rw [hnx, hfl]
      simp only [go_sem, Nat.reduceEqDiff, Nat.reduceLT, Nat.reduceAdd, Nat.reduceSub, Nat.reduceLeDiff, List.reduceReplicate, Int.reduceToNat]
      have hmx : ¬ (False) := id
      refine ⟨m - 1, by omega, k + 1, v + 7, by omega, by rw [w64 (by omega) (by omega)]; rfl, rfl, ?_⟩
      rw [take_next l k 0 hkl, List.all_append, hall, Bool.true_and, List.all_cons, hw]
      rfl
  · have : k = l.length := by omega
    subst this
    rw [List.take_length] at *
    obtain ⟨N, rfl⟩ : ∃ N : Nat, n = N := ⟨n.toNat, by omega⟩
    have hN : (l.length : Int) = ((N + 6) / 7 : Nat) := by rw [hb2, lenT_nat N (by omega)]
    refine ⟨by omega, ?_⟩
    rw [joinW_eq, Int.toNat_natCast]
    unfold key_Text.L3
    refine ⟨fun m lv h' => ∃ j : Nat, j + m = 7 * l.length - N ∧ lv = [.int .i64 j] ∧ h' = [.row .own v (.ints .u8 (flatI l))] ∧ ∀ i, i < j → (flatI l).getD (N + i) 0 = 0,
      ⟨_, 0, Nat.zero_add _, rfl, rfl, fun i hi => by omega⟩, ?_⟩
    rintro m h' t59 ⟨j, hj, hlv, rfl, hz⟩
    simp only [List.cons.injEq, and_true] at hlv
    subst hlv
    simp only [go_sem, Nat.reduceEqDiff, Nat.reduceLT, Nat.reduceAdd, Nat.reduceSub, Nat.reduceLeDiff, List.reduceReplicate, Int.reduceToNat, hfl]
    refine ⟨fun hlt => ⟨by omega, by omega, fun h0 => text_bad ?_ _, fun h0 => ?_⟩, fun hge => ⟨by omega, ?_⟩⟩
    · have : ((flatI l).drop N).all (fun b => decide (b = 0)) = false := by
        rw [List.all_eq_false]
        have hjl : j < ((flatI l).drop N).length := by rw [List.length_drop, hfl]; omega
        have e : ((flatI l).drop N).getD j 0 = (flatI l).getD (N + j) 0 := by rw [List.getD_eq_getElem?_getD, List.getD_eq_getElem?_getD, List.getElem?_drop]
        exact ⟨_, getD_mem _ j 0 hjl, by rw [e]; simpa using h0⟩
      simp [textB, this]
    · refine ⟨m - 1, by omega, j + 1, by omega, by rw [w64 (by omega) (by omega)]; rfl, fun i hi => ?_⟩
      by_cases e : i = j
      · subst e; exact h0
      · exact hz i (by omega)
    · have hj2 : j = 7 * l.length - N := by omega
      have hzero : ((flatI l).drop N).all (fun b => decide (b = 0)) = true := by
        rw [List.all_eq_true]
        intro b hb
        obtain ⟨i, hi, rfl⟩ := List.getElem_of_mem hb
        rw [List.length_drop, hfl] at hi
        have := hz i (by omega)
        rw [List.getD_eq_getElem?_getD, List.getElem?_eq_getElem (by rw [hfl]; omega)] at this
        rw [List.getElem_drop]
        simpa using this
      have hB : textB l N = true := by
        unfold textB
        rw [hall, Int.toNat_natCast, hzero, decide_eq_false hb1, decide_eq_true hb2]; rfl
      unfold textV textS
      simp only [hB, if_true]
      exact post_val rfl rfl
def key_Check.C : Contract
  | [.str s] => some (false, pD True (.bool (decide (s ≠ []) && decide ((s.length : Int) ≤ 21))))
  | _ => none
set_option maxRecDepth 20000 in
theorem key_Check.spec : FSpec Try.prog 102 key_Check.C := by
  refine FSpec.of (ctx_ok (F := []) (S := []) (by simp) (by simp) key_Check.loops) key_Check.at key_Check.nm key_Check.bd ?_
  intro vs b S v news e hS
  unfold key_Check.C at e
  split at e
  rotate_left
  · cases e
  cases e
  rw [key_Check.eq]
  unfold key_Check.H
  simp (maxSteps := 4000000) only [go_sem, Nat.reduceEqDiff, Nat.reduceLT, Nat.reduceAdd, Nat.reduceSub, Nat.reduceLeDiff, List.reduceReplicate, Int.reduceToNat]
  rename_i s
  have : (decide ¬s = []) = !decide (s = []) := by by_cases h : s = [] <;> simp [h]
  rw [this]
  exact post_val rfl rfl
def key_CheckVal.C : Contract
  | [.str s] => some (false, pD True (.bool (decide ((s.length : Int) ≤ 21))))
  | _ => none
set_option maxRecDepth 20000 in
theorem key_CheckVal.spec : FSpec Try.prog 103 key_CheckVal.C := by
  refine FSpec.of (ctx_ok (F := []) (S := []) (by simp) (by simp) key_CheckVal.loops) key_CheckVal.at key_CheckVal.nm key_CheckVal.bd ?_
  intro vs b S v news e hS
  unfold key_CheckVal.C at e
  split at e
  rotate_left
  · cases e
  cases e
  rw [key_CheckVal.eq]
  unfold key_CheckVal.H
  simp (maxSteps := 4000000) only [go_sem, Nat.reduceEqDiff, Nat.reduceLT, Nat.reduceAdd, Nat.reduceSub, Nat.reduceLeDiff, List.reduceReplicate, Int.reduceToNat]
  exact post_val rfl rfl
end Lam
namespace Lam
open Go Go.Proofs
set_option linter.unusedVariables false
def rec_Read.loops : Nat → LInfo
  | 1 => ⟨[], [], [], [(3, none), (5, some [11, 16])], [], []⟩
  | _ => ⟨[], [], [], [], [], []⟩
def rec_Read.H (c : Ctx) (t0 : AV) (t1 : AV) (h : List AObj) (K : AOut → List AObj → Prop) : Prop :=
  allocW T_api_Rec h fun t4 h =>
  runD (binD T_int .lss t1 (.int .i64 0)) h fun t10 h =>
  joinW (fun (J1 : AV → AV → List AObj → Prop) =>
  guardW t10 false
  (runD (lenD T_sl_int h t0) h fun t14 h =>
    runD (binD T_int .quo t14 (.int .i64 16)) h fun t15 h =>
    runD (binD T_int .geq t1 t15) h fun t16 h =>
    J1 (.bool false) t16 h)
  (J1 (.bool true) .und h))
  (fun t11 t16 h => runD (pickD t11 (.bool true) t16) h fun t17 h =>
  condW t17
  (runD (buildD T_api_Rec []) h fun t18 h =>
    runH (storeH T_api_Rec h t4 t18) h fun _ h =>
    loadRes (fitD T_api_Rec (loadD h t4)) fun r0 => K (.ret (.tup [r0, (.int .i64 1)])) h)
  (allocW T_rec_form h fun t6 h =>
  runD (sliceD T_rec_form h t6 none none none) h fun t19 h =>
  runD (binD T_int .mul (.int .i64 16) t1) h fun t22 h =>
  runD (sliceD T_sl_int h t0 (some t22) none none) h fun t23 h =>
  runM (copyH T_sl_int h t19 t23) h fun t24 h =>
  runD (indexAddrD T_rec_form h t6 (.int .i64 0)) h fun t25 h =>
  runD (fitD T_int (loadD h t25)) h fun t26 h =>
  runD (buildD T_api_Rec [(0, t26)]) h fun t27 h =>
  allocW T_api_Rec h fun t7 h =>
  runH (storeH T_api_Rec h t7 t27) h fun _ h =>
  runD (fitD T_rec_form (loadD h t6)) h fun t29 h =>
  runD (indexAddrD T_rec_form h t6 (.int .i64 1)) h fun t30 h =>
  runD (fitD T_int (loadD h t30)) h fun t31 h =>
  runD (binD T_int .quo t31 (.int .i64 32)) h fun t32 h =>
  callW false c (.fn (.func 73) [] []) [t29, (.int .i64 3), t32] h (fun t33 h =>
  runD (extractD t33 0) h fun t34 h =>
  runD (extractD t33 1) h fun t35 h =>
  runD (fieldAddrD T_api_Rec t7 1) h fun t36 h =>
  runH (storeH T_string h t36 t34) h fun _ h =>
  runD (unD .not t35) h fun t38 h =>
  condW t38
  (runD (buildD T_api_Rec []) h fun t39 h =>
    runH (storeH T_api_Rec h t4 t39) h fun _ h =>
    loadRes (fitD T_api_Rec (loadD h t4)) fun r0 => K (.ret (.tup [r0, (.int .i64 70)])) h)
  (runD (fieldAddrD T_api_Rec t7 0) h fun t40 h =>
  runD (fitD T_int (loadD h t40)) h fun t41 h =>
  runD (binD T_int .eql t41 (.int .i64 1)) h fun t43 h =>
  joinW (fun (J2 : AV → List AObj → Prop) =>
  condW t43
  (runD (fitD T_rec_form (loadD h t6)) h fun t45 h =>
    runD (indexAddrD T_rec_form h t6 (.int .i64 1)) h fun t46 h =>
    runD (fitD T_int (loadD h t46)) h fun t47 h =>
    runD (binD T_int .rem t47 (.int .i64 32)) h fun t48 h =>
    callW false c (.fn (.func 73) [] []) [t45, (.int .i64 6), t48] h (fun t49 h =>
    runD (extractD t49 0) h fun t50 h =>
    runD (extractD t49 1) h fun t51 h =>
    runD (fieldAddrD T_api_Rec t7 2) h fun t52 h =>
    runH (storeH T_string h t52 t50) h fun _ h =>
    J2 t51 h)
    (fun v h => K (.pan v) h))
  (runD (binD T_int .eql t41 (.int .i64 2)) h fun t54 h =>
    joinW (fun (J3 : List AObj → Prop) =>
    condW t54
    (runD (indexAddrD T_rec_form h t6 (.int .i64 6)) h fun t55 h =>
      runD (fitD T_int (loadD h t55)) h fun t56 h =>
      runD (fieldAddrD T_api_Rec t7 3) h fun t57 h =>
      runH (storeH T_int h t57 t56) h fun _ h =>
      J3 h)
    (J3 h))
    (fun h => J2 t35 h)))
  (fun t8 h => runD (unD .not t8) h fun t59 h =>
  joinW (fun (J4 : AV → AV → List AObj → Prop) =>
  guardW t59 false
  (runD (fitD T_api_Rec (loadD h t7)) h fun t61 h =>
    callW false c.noS (.fn (.func 74) [] []) [t61] h (fun t62 h =>
    runD (unD .not t62) h fun t63 h =>
    J4 (.bool false) t63 h)
    (fun _ _ => False))
  (J4 (.bool true) .und h))
  (fun t60 t63 h => runD (pickD t60 (.bool true) t63) h fun t64 h =>
  joinW (fun (J5 : AV → AV → List AObj → Prop) =>
  guardW t64 false
  (runD (fitD T_api_Rec (loadD h t7)) h fun t66 h =>
    callW false c.noS (.fn (.func 75) [] []) [t66] h (fun t67 h =>
    runD (fitD T_rec_form (loadD h t6)) h fun t68 h =>
    runD (binD T_rec_form .neq t67 t68) h fun t69 h =>
    J5 (.bool false) t69 h)
    (fun _ _ => False))
  (J5 (.bool true) .und h))
  (fun t65 t69 h => runD (pickD t65 (.bool true) t69) h fun t70 h =>
  condW t70
  (runD (buildD T_api_Rec []) h fun t71 h =>
    runH (storeH T_api_Rec h t4 t71) h fun _ h =>
    loadRes (fitD T_api_Rec (loadD h t4)) fun r0 => K (.ret (.tup [r0, (.int .i64 70)])) h)
  (runD (fitD T_api_Rec (loadD h t7)) h fun t72 h =>
  runH (storeH T_api_Rec h t4 t72) h fun _ h =>
  loadRes (fitD T_api_Rec (loadD h t4)) fun r0 => K (.ret (.tup [r0, (.int .i64 0)])) h))))))
  (fun v h => K (.pan v) h)))
def rec_Words.loops : Nat → LInfo
  | _ => ⟨[], [], [], [], [], []⟩
def rec_Words.H (c : Ctx) (t0 : AV) (h : List AObj) (K : AOut → List AObj → Prop) : Prop :=
  boxW T_api_Rec t0 h fun t1 h =>
  runD (fitD T_api_Rec (loadD h t1)) h fun t5 h =>
  callW false c (.fn (.func 74) [] []) [t5] h (fun t6 h =>
  runD (unD .not t6) h fun t7 h =>
  condW t7
  (K (.ret (.tup [(.sl true (.ints .i64 [])), (.int .i64 70)])) h)
  (runD (fitD T_api_Rec (loadD h t1)) h fun t8 h =>
  callW false c (.fn (.func 75) [] []) [t8] h (fun t9 h =>
  allocW T_rec_form h fun t4 h =>
  runH (storeH T_rec_form h t4 t9) h fun _ h =>
  runD (sliceD T_rec_form h t4 none none none) h fun t10 h =>
  K (.ret (.tup [t10, (.int .i64 0)])) h)
  (fun v h => K (.pan v) h)))
  (fun v h => K (.pan v) h)
def rec_text.loops : Nat → LInfo
  | 1 => ⟨[], [], [], [(3, none), (2, some [12, 14])], [], []⟩
  | _ => ⟨[], [], [], [], [], []⟩
def rec_text.H (c : Ctx) (t0 : AV) (t1 : AV) (t2 : AV) (h : List AObj) (K : AOut → List AObj → Prop) : Prop :=
  boxW T_rec_form t0 h fun t3 h =>
  runD (binD T_int .lss t2 (.int .i64 0)) h fun t11 h =>
  joinW (fun (J1 : AV → AV → List AObj → Prop) =>
  guardW t11 false
  (runD (binD T_int .gtr t2 (.int .i64 21)) h fun t14 h =>
    J1 (.bool false) t14 h)
  (J1 (.bool true) .und h))
  (fun t12 t14 h => runD (pickD t12 (.bool true) t14) h fun t15 h =>
  condW t15
  (K (.ret (.tup [(.str []), (.bool false)])) h)
  (runD (binD T_int .add t2 (.int .i64 6)) h fun t20 h =>
  runD (binD T_int .quo t20 (.int .i64 7)) h fun t21 h =>
  runD (binD T_int .add t1 t21) h fun t22 h =>
  runD (sliceD T_rec_form h t3 (some t1) (some t22) none) h fun t23 h =>
  callW false c (.fn (.func 101) [] []) [t23, t2] h (fun t25 h =>
  runD (extractD t25 0) h fun t26 h =>
  runD (extractD t25 1) h fun t27 h =>
  runD (binD T_api_Errno .eql t27 (.int .i64 0)) h fun t30 h =>
  K (.ret (.tup [t26, t30])) h)
  (fun v h => K (.pan v) h)))
def rec_Check.loops : Nat → LInfo
  | 3 => ⟨[], [], [], [(4, none), (3, some [10, 13]), (2, none), (3, some [15, 18])], [], []⟩
  | 5 => ⟨[], [], [], [(4, none), (3, some [25, 28]), (2, none), (3, some [30, 33]), (2, none), (3, some [35, 38]), (2, none), (3, some [40, 43])], [], []⟩
  | _ => ⟨[], [], [], [], [], []⟩
def rec_Check.H (c : Ctx) (t0 : AV) (h : List AObj) (K : AOut → List AObj → Prop) : Prop :=
  boxW T_api_Rec t0 h fun t1 h =>
  runD (fieldAddrD T_api_Rec t1 0) h fun t3 h =>
  runD (fitD T_int (loadD h t3)) h fun t4 h =>
  runD (binD T_int .eql t4 (.int .i64 1)) h fun t6 h =>
  condW t6
  (runD (fieldAddrD T_api_Rec t1 1) h fun t7 h =>
    runD (fitD T_string (loadD h t7)) h fun t8 h =>
    callW false c (.fn (.func 102) [] []) [t8] h (fun t9 h =>
    joinW (fun (J1 : AV → AV → List AObj → Prop) =>
    guardW t9 true
    (runD (fieldAddrD T_api_Rec t1 2) h fun t11 h =>
      runD (fitD T_string (loadD h t11)) h fun t12 h =>
      callW false c (.fn (.func 103) [] []) [t12] h (fun t13 h =>
      J1 (.bool true) t13 h)
      (fun v h => K (.pan v) h))
    (J1 (.bool false) .und h))
    (fun t10 t13 h => runD (pickD t10 t13 (.bool false)) h fun t14 h =>
    joinW (fun (J2 : AV → AV → List AObj → Prop) =>
    guardW t14 true
    (runD (fieldAddrD T_api_Rec t1 3) h fun t16 h =>
      runD (fitD T_int (loadD h t16)) h fun t17 h =>
      runD (binD T_int .eql t17 (.int .i64 0)) h fun t18 h =>
      J2 (.bool true) t18 h)
    (J2 (.bool false) .und h))
    (fun t15 t18 h => runD (pickD t15 t18 (.bool false)) h fun t19 h =>
    K (.ret t19) h)))
    (fun v h => K (.pan v) h))
  (runD (binD T_int .eql t4 (.int .i64 2)) h fun t21 h =>
    condW t21
    (runD (fieldAddrD T_api_Rec t1 1) h fun t22 h =>
      runD (fitD T_string (loadD h t22)) h fun t23 h =>
      runD (binD T_string .eql t23 (.str [])) h fun t24 h =>
      joinW (fun (J3 : AV → AV → List AObj → Prop) =>
      guardW t24 false
      (runD (fieldAddrD T_api_Rec t1 1) h fun t26 h =>
        runD (fitD T_string (loadD h t26)) h fun t27 h =>
        callW false c (.fn (.func 102) [] []) [t27] h (fun t28 h =>
        J3 (.bool false) t28 h)
        (fun v h => K (.pan v) h))
      (J3 (.bool true) .und h))
      (fun t25 t28 h => runD (pickD t25 (.bool true) t28) h fun t29 h =>
      joinW (fun (J4 : AV → AV → List AObj → Prop) =>
      guardW t29 true
      (runD (fieldAddrD T_api_Rec t1 2) h fun t31 h =>
        runD (fitD T_string (loadD h t31)) h fun t32 h =>
        runD (binD T_string .eql t32 (.str [])) h fun t33 h =>
        J4 (.bool true) t33 h)
      (J4 (.bool false) .und h))
      (fun t30 t33 h => runD (pickD t30 t33 (.bool false)) h fun t34 h =>
      joinW (fun (J5 : AV → AV → List AObj → Prop) =>
      guardW t34 true
      (runD (fieldAddrD T_api_Rec t1 3) h fun t36 h =>
        runD (fitD T_int (loadD h t36)) h fun t37 h =>
        runD (binD T_int .gtr t37 (.int .i64 0)) h fun t38 h =>
        J5 (.bool true) t38 h)
      (J5 (.bool false) .und h))
      (fun t35 t38 h => runD (pickD t35 t38 (.bool false)) h fun t39 h =>
      joinW (fun (J6 : AV → AV → List AObj → Prop) =>
      guardW t39 true
      (runD (fieldAddrD T_api_Rec t1 3) h fun t41 h =>
        runD (fitD T_int (loadD h t41)) h fun t42 h =>
        runD (binD T_int .lss t42 (.int .i64 256)) h fun t43 h =>
        J6 (.bool true) t43 h)
      (J6 (.bool false) .und h))
      (fun t40 t43 h => runD (pickD t40 t43 (.bool false)) h fun t44 h =>
      K (.ret t44) h)))))
    (K (.ret (.bool false)) h))
def rec_of.loops : Nat → LInfo
  | _ => ⟨[], [], [], [], [], []⟩
def rec_of.H (c : Ctx) (t0 : AV) (h : List AObj) (K : AOut → List AObj → Prop) : Prop :=
  boxW T_api_Rec t0 h fun t1 h =>
  allocW T_rec_form h fun t2 h =>
  runD (fieldAddrD T_api_Rec t1 0) h fun t4 h =>
  runD (fitD T_int (loadD h t4)) h fun t5 h =>
  runD (fieldAddrD T_api_Rec t1 1) h fun t6 h =>
  runD (fitD T_string (loadD h t6)) h fun t7 h =>
  runD (lenD T_string h t7) h fun t8 h =>
  runD (binD T_int .mul (.int .i64 32) t8) h fun t9 h =>
  runD (fieldAddrD T_api_Rec t1 2) h fun t10 h =>
  runD (fitD T_string (loadD h t10)) h fun t11 h =>
  runD (lenD T_string h t11) h fun t12 h =>
  runD (binD T_int .add t9 t12) h fun t13 h =>
  runD (buildD T_rec_form [(0, t5), (1, t13)]) h fun t14 h =>
  allocW T_rec_form h fun t3 h =>
  runH (storeH T_rec_form h t3 t14) h fun _ h =>
  runD (sliceD T_rec_form h t3 (some (.int .i64 3)) none none) h fun t15 h =>
  runD (fieldAddrD T_api_Rec t1 1) h fun t16 h =>
  runD (fitD T_string (loadD h t16)) h fun t17 h =>
  callW false c.noS (.fn (.func 104) [] []) [t17] h (fun t18 h =>
  runM (copyH T_sl_int h t15 t18) h fun t19 h =>
  runD (sliceD T_rec_form h t3 (some (.int .i64 6)) none none) h fun t20 h =>
  runD (fieldAddrD T_api_Rec t1 2) h fun t21 h =>
  runD (fitD T_string (loadD h t21)) h fun t22 h =>
  callW false c.noS (.fn (.func 104) [] []) [t22] h (fun t23 h =>
  runM (copyH T_sl_int h t20 t23) h fun t24 h =>
  runD (fieldAddrD T_api_Rec t1 0) h fun t25 h =>
  runD (fitD T_int (loadD h t25)) h fun t26 h =>
  runD (binD T_int .eql t26 (.int .i64 2)) h fun t27 h =>
  joinW (fun (J1 : List AObj → Prop) =>
  condW t27
  (runD (fieldAddrD T_api_Rec t1 3) h fun t28 h =>
    runD (fitD T_int (loadD h t28)) h fun t29 h =>
    runD (indexAddrD T_rec_form h t3 (.int .i64 6)) h fun t30 h =>
    runH (storeH T_int h t30 t29) h fun _ h =>
    J1 h)
  (J1 h))
  (fun h => runD (fitD T_rec_form (loadD h t3)) h fun t31 h =>
  callW false c (.fn (.func 105) [] []) [t31] h (fun t32 h =>
  runH (storeH T_rec_form h t2 t32) h fun _ h =>
  loadRes (fitD T_rec_form (loadD h t2)) fun r0 => K (.ret r0) h)
  (fun v h => K (.pan v) h)))
  (fun _ _ => False))
  (fun _ _ => False)
def rec_summed.loops : Nat → LInfo
  | _ => ⟨[], [], [], [], [], []⟩
def rec_summed.H (c : Ctx) (t0 : AV) (h : List AObj) (K : AOut → List AObj → Prop) : Prop :=
  boxW T_rec_form t0 h fun t1 h =>
  allocW T_rec_form h fun t2 h =>
  runD (indexAddrD T_rec_form h t1 (.int .i64 0)) h fun t4 h =>
  runD (fitD T_int (loadD h t4)) h fun t5 h =>
  runD (indexAddrD T_rec_form h t1 (.int .i64 1)) h fun t6 h =>
  runD (fitD T_int (loadD h t6)) h fun t7 h =>
  runD (buildSliceD T_sl_int 2 [(0, t5), (1, t7)] h.length) h fun t8 h =>
  runD (sliceD T_rec_form h t1 (some (.int .i64 3)) none none) h fun t9 h =>
  runDM (appendD T_sl_int h t8 t9 h.length) (appendH T_sl_int h t8 t9) h fun t10 h =>
  callW false c (.fn (.func 109) [] []) [t10] h (fun t12 h =>
  runD (indexAddrD T_rec_form h t1 (.int .i64 2)) h fun t13 h =>
  runH (storeH T_int h t13 t12) h fun _ h =>
  runD (fitD T_rec_form (loadD h t1)) h fun t14 h =>
  runH (storeH T_rec_form h t2 t14) h fun _ h =>
  loadRes (fitD T_rec_form (loadD h t2)) fun r0 => K (.ret r0) h)
  (fun v h => K (.pan v) h)
theorem rec_Read.eq (F : List (FuncId × Contract)) (S : List (FuncId × Con)) (t0 t1 : AV) (h : List AObj) (K : AOut → List AObj → Prop) : funW (ctx F S rec_Read.loops) Try.f37 [t0, t1] h K = rec_Read.H (ctx F S rec_Read.loops) t0 t1 h K := by kernel_rfl
theorem rec_Words.eq (F : List (FuncId × Contract)) (S : List (FuncId × Con)) (t0 : AV) (h : List AObj) (K : AOut → List AObj → Prop) : funW (ctx F S rec_Words.loops) Try.f60 [t0] h K = rec_Words.H (ctx F S rec_Words.loops) t0 h K := by kernel_rfl
theorem rec_text.eq (F : List (FuncId × Contract)) (S : List (FuncId × Con)) (t0 t1 t2 : AV) (h : List AObj) (K : AOut → List AObj → Prop) : funW (ctx F S rec_text.loops) Try.f73 [t0, t1, t2] h K = rec_text.H (ctx F S rec_text.loops) t0 t1 t2 h K := by kernel_rfl
theorem rec_Check.eq (F : List (FuncId × Contract)) (S : List (FuncId × Con)) (t0 : AV) (h : List AObj) (K : AOut → List AObj → Prop) : funW (ctx F S rec_Check.loops) Try.f74 [t0] h K = rec_Check.H (ctx F S rec_Check.loops) t0 h K := by kernel_rfl
theorem rec_of.eq (F : List (FuncId × Contract)) (S : List (FuncId × Con)) (t0 : AV) (h : List AObj) (K : AOut → List AObj → Prop) : funW (ctx F S rec_of.loops) Try.f75 [t0] h K = rec_of.H (ctx F S rec_of.loops) t0 h K := by kernel_rfl
theorem rec_summed.eq (F : List (FuncId × Contract)) (S : List (FuncId × Con)) (t0 : AV) (h : List AObj) (K : AOut → List AObj → Prop) : funW (ctx F S rec_summed.loops) Try.f105 [t0] h K = rec_summed.H (ctx F S rec_summed.loops) t0 h K := by kernel_rfl
theorem rec_Read.at : Try.prog.funcs[37]? = some Try.f37 := by kernel_rfl
theorem rec_Read.nm : (Try.f37.name == "runtime.NumGoroutine") = false := by kernel_rfl
theorem rec_Read.bd : Try.f37.body.isNone = false := by kernel_rfl
theorem rec_Words.at : Try.prog.funcs[60]? = some Try.f60 := by kernel_rfl
theorem rec_Words.nm : (Try.f60.name == "runtime.NumGoroutine") = false := by kernel_rfl
theorem rec_Words.bd : Try.f60.body.isNone = false := by kernel_rfl
theorem rec_text.at : Try.prog.funcs[73]? = some Try.f73 := by kernel_rfl
theorem rec_text.nm : (Try.f73.name == "runtime.NumGoroutine") = false := by kernel_rfl
theorem rec_text.bd : Try.f73.body.isNone = false := by kernel_rfl
theorem rec_Check.at : Try.prog.funcs[74]? = some Try.f74 := by kernel_rfl
theorem rec_Check.nm : (Try.f74.name == "runtime.NumGoroutine") = false := by kernel_rfl
theorem rec_Check.bd : Try.f74.body.isNone = false := by kernel_rfl
theorem rec_of.at : Try.prog.funcs[75]? = some Try.f75 := by kernel_rfl
theorem rec_of.nm : (Try.f75.name == "runtime.NumGoroutine") = false := by kernel_rfl
theorem rec_of.bd : Try.f75.body.isNone = false := by kernel_rfl
theorem rec_summed.at : Try.prog.funcs[105]? = some Try.f105 := by kernel_rfl
theorem rec_summed.nm : (Try.f105.name == "runtime.NumGoroutine") = false := by kernel_rfl
theorem rec_summed.bd : Try.f105.body.isNone = false := by kernel_rfl
end Lam
namespace Lam
open Go Go.Proofs
set_option linter.unusedVariables false
set_option linter.unnecessarySimpa false
set_option linter.unusedSimpArgs false
def rec_Check.C : Contract
  | [.agg [.int .i64 a, .str k, .str v, .int .i64 c]] => some (false, pD True (.bool (recB ⟨a, k, v, c⟩)))
  | _ => none
set_option maxRecDepth 20000 in
theorem rec_Check.spec : FSpec Try.prog 74 rec_Check.C := by
  refine FSpec.of (ctx_ok (F := [(102, key_Check.C), (103, key_CheckVal.C)]) (S := []) (by simpa using ⟨key_Check.spec, key_CheckVal.spec⟩) (by simp) rec_Check.loops) rec_Check.at rec_Check.nm rec_Check.bd ?_
  intro vs b S v news e hS
  unfold rec_Check.C at e
  split at e
  rotate_left
  · cases e
  cases e
  rw [rec_Check.eq]
  unfold rec_Check.H
  simp (maxSteps := 4000000) only [go_sem, Nat.reduceEqDiff, Nat.reduceLT, Nat.reduceAdd, Nat.reduceSub, Nat.reduceLeDiff, List.reduceReplicate, Int.reduceToNat, key_Check.C, key_CheckVal.C]
  rename_i a k v c
  have r1 : a = 1 → recB ⟨a, k, v, c⟩ = (decide (¬ k = []) && decide ((List.length k : Int) ≤ 21) && decide ((List.length v : Int) ≤ 21) && decide (c = 0)) := by
    rintro rfl
    unfold recB keyB
    rw [Bool.eq_iff_iff]
    simp [and_assoc]
  have r2 : a = 2 → recB ⟨a, k, v, c⟩ = ((decide (k = []) || decide (¬ k = []) && decide ((List.length k : Int) ≤ 21)) && decide (v = []) && decide (0 < c) && decide (c < 256)) := by
    rintro rfl
    unfold recB keyB
    rw [Bool.eq_iff_iff]
    simp [and_assoc]
  have r3 : ¬ a = 1 → ¬ a = 2 → recB ⟨a, k, v, c⟩ = false := by
    intro h1 h2
    unfold recB
    rw [decide_eq_false h1, decide_eq_false h2]; rfl
  refine ⟨fun h => ?_, fun h => ⟨fun h2 => ?_, fun h2 => ?_⟩⟩
  · rw [r1 h]; exact post_val rfl rfl
  · rw [r2 h2]; exact post_val rfl rfl
  · rw [r3 h h2]; exact post_val rfl rfl
def rec_summed.C : Contract
  | [.arr (.ints .i64 l)] => some (false, pD (l.length = 16) (.arr (.ints .i64 (l.set 2 (sumOf (l.getD 0 0 :: l.getD 1 0 :: l.drop 3))))))
  | _ => none
set_option maxRecDepth 20000 in
theorem rec_summed.spec : FSpec Try.prog 105 rec_summed.C := by
  refine FSpec.of (ctx_ok (F := [(109, sum_Of.C)]) (S := []) (by simpa using sum_Of.spec) (by simp) rec_summed.loops) rec_summed.at rec_summed.nm rec_summed.bd ?_
  intro vs b S v news e hS
  unfold rec_summed.C at e
  split at e
  rotate_left
  · cases e
  cases e
  rw [rec_summed.eq]
  unfold rec_summed.H
  simp (maxSteps := 4000000) only [go_sem, Nat.reduceEqDiff, Nat.reduceLT, Nat.reduceAdd, Nat.reduceSub, Nat.reduceLeDiff, List.reduceReplicate, Int.reduceToNat, sum_Of.C]
  rename_i l
  simp only [hS, sum_Of.C, joinW_eq, guard_tt, guard_tf, guard_ft, guard_ff, Int.reduceEq, Int.reduceLT, Int.reduceLE, decide_false, decide_true, Bool.not_false, Bool.not_true, Bool.not_not, not_true_eq_false, not_false_eq_true, true_implies, false_implies, implies_true, and_true, true_and, reduceCtorEq, Bool.and_self, Bool.or_self, Bool.and_true, Bool.true_and, Bool.false_eq_true, if_true, if_false, go_sem, Nat.reduceEqDiff, Nat.reduceLT, Nat.reduceAdd, Nat.reduceSub, Nat.reduceLeDiff, List.reduceReplicate, Int.reduceToNat]
  have htk : (l.drop 3).take 13 = l.drop 3 := take_len _ (by simp; omega)
  rw [htk]
  have : roomy ((l.drop 3).length + 1 + 1) := by unfold roomy; simp; omega
  exact ⟨this, this, post_val rfl rfl⟩
def rec_of.C : Contract
  | [.agg [.int .i64 a, .str k, .str v, .int .i64 c]] => some (false, pD (Rc.ok ⟨a, k, v, c⟩) (.arr (.ints .i64 (formR ⟨a, k, v, c⟩))))
  | _ => none
set_option maxRecDepth 20000 in
theorem rec_of.spec : FSpec Try.prog 75 rec_of.C := by
  refine FSpec.of (ctx_ok (F := [(104, key_Words.C), (105, rec_summed.C)]) (S := []) (by simpa using ⟨key_Words.spec, rec_summed.spec⟩) (by simp) rec_of.loops) rec_of.at rec_of.nm rec_of.bd ?_
  intro vs b S v news e hS
  unfold rec_of.C at e
  split at e
  rotate_left
  · cases e
  cases e
  rw [rec_of.eq]
  unfold rec_of.H
  simp (maxSteps := 4000000) only [go_sem, Nat.reduceEqDiff, Nat.reduceLT, Nat.reduceAdd, Nat.reduceSub, Nat.reduceLeDiff, List.reduceReplicate, Int.reduceToNat, key_Words.C, rec_summed.C]
  rename_i a k v c
  have hok := hS
  have hk := three_len hS.key
  have hkl : (keyW k).length = (k.length + 6) / 7 := keyW_len k
  have hvl : (keyW v).length = (v.length + 6) / 7 := keyW_len v
  have q1 := hS.key
  have q2 := hS.val
  simp only at q1 q2 hk
  have e1 : IntKind.i64.wrap (IntKind.i64.wrap (32 * (List.length k : Int)) + (List.length v : Int)) = lensR ⟨a, k, v, c⟩ := by
    rw [w64 (n := 32 * (List.length k : Int)) (by omega) (by omega), w64 (by omega) (by omega)]; rfl
  rw [e1]
  generalize hm : lensR ⟨a, k, v, c⟩ = m at *
  have pad : ∀ (t : List Int), t.length ≤ 3 → t.take 13 ++ List.take (16 - (3 + min 13 t.length)) (List.drop (3 + min 13 t.length) [a, m, 0, 0, 0, 0, 0, 0, 0, 0, 0, 0, 0, 0, 0, 0]) = t ++ List.replicate (13 - t.length) 0 := by
    intro t ht
    rw [take_len t (by omega), Nat.min_eq_right (by omega)]
    congr 1
    have : ∀ n, n ≤ 3 → List.take (16 - (3 + n)) (List.drop (3 + n) [a, m, 0, 0, 0, 0, 0, 0, 0, 0, 0, 0, 0, 0, 0, 0]) = List.replicate (13 - n) 0 := by
      intro n hn
      rcases n with _|_|_|_|n <;> first | rfl | omega
    exact this _ ht
  have hkl3 : (keyW k).length ≤ 3 := by omega
  have hvl3 : (keyW v).length ≤ 3 := by omega
  rw [pad _ hkl3]
  have hL : (keyW k ++ List.replicate (13 - (keyW k).length) 0).length = 13 := by simp; omega
  simp only [hL, key_Words.C, joinW_eq, guard_tt, guard_tf, guard_ft, guard_ff, Int.reduceEq, Int.reduceLT, Int.reduceLE, decide_false, decide_true, Bool.not_false, Bool.not_true, Bool.not_not, not_true_eq_false, not_false_eq_true, true_implies, false_implies, implies_true, and_true, true_and, reduceCtorEq, Bool.and_self, Bool.or_self, Bool.and_true, Bool.true_and, Bool.false_eq_true, if_true, if_false, go_sem, Nat.reduceEqDiff, Nat.reduceLT, Nat.reduceAdd, Nat.reduceSub, Nat.reduceLeDiff, List.reduceReplicate, Int.reduceToNat]
  have hZ : List.take 3 (keyW k ++ List.replicate (13 - (keyW k).length) 0) = threeI k := by
    unfold threeI
    rw [List.take_append, take_len (keyW k) hkl3, List.take_replicate, Nat.min_eq_left (by omega)]
  have hT : List.take 10 (keyW v) ++ List.take (16 - (6 + min 10 (keyW v).length)) (List.drop (6 + min 10 (keyW v).length) (a :: m :: 0 :: (keyW k ++ List.replicate (13 - (keyW k).length) 0))) = keyW v ++ List.replicate (10 - (keyW v).length) 0 := by
    rw [take_len (keyW v) (by omega), Nat.min_eq_right (by omega)]
    congr 1
    rw [show 6 + (keyW v).length = (3 + (keyW v).length) + 1 + 1 + 1 from by omega, List.drop_succ_cons, List.drop_succ_cons, List.drop_succ_cons, List.drop_append, List.drop_eq_nil_of_le (by omega), List.nil_append, List.drop_replicate, List.take_replicate]
    congr 1; omega
  rw [hZ, hT]
  have hlen : (threeI k ++ (keyW v ++ List.replicate (10 - (keyW v).length) 0)).length = 13 := by simp [hk]; omega
  have hr1 : a ≠ 2 → threeI k ++ (keyW v ++ List.replicate (10 - (keyW v).length) 0) = restR ⟨a, k, v, c⟩ := by
    intro h
    unfold restR
    simp only [if_neg h]
    congr 1
    unfold threeI
    rw [List.append_assoc, List.replicate_append_replicate]
    congr 2; omega
  have hr2 : a = 2 → (threeI k ++ (keyW v ++ List.replicate (10 - (keyW v).length) 0)).set 3 c = restR ⟨a, k, v, c⟩ := by
    intro h
    have hv0 : v = [] := by
      rcases hok with h' | h'
      · have := h'.1; simp only at this; omega
      · exact h'.2.2.1
    subst hv0
    unfold restR
    simp only [if_pos h]
    rw [List.set_append_right _ _ (by omega), hk]
    rfl
  have hmr : m = lensR ⟨a, k, v, c⟩ := hm.symm
  simp only [hlen, rec_summed.C, joinW_eq, guard_tt, guard_tf, guard_ft, guard_ff, Int.reduceEq, Int.reduceLT, Int.reduceLE, decide_false, decide_true, Bool.not_false, Bool.not_true, Bool.not_not, not_true_eq_false, not_false_eq_true, true_implies, false_implies, implies_true, and_true, true_and, reduceCtorEq, Bool.and_self, Bool.or_self, Bool.and_true, Bool.true_and, Bool.false_eq_true, if_true, if_false, go_sem, Nat.reduceEqDiff, Nat.reduceLT, Nat.reduceAdd, Nat.reduceSub, Nat.reduceLeDiff, List.reduceReplicate, Int.reduceToNat]
  have hd3 : ∀ R : List Int, List.drop 3 (a :: m :: 0 :: R) = R := fun R => rfl
  refine ⟨by unfold roomy; omega, by unfold roomy; omega, fun h2 => ?_, fun h2 => ?_⟩
  · rw [hr2 h2, hd3, hmr]; exact post_val rfl rfl
  · rw [hr1 h2, hd3, hmr]; exact post_val rfl rfl
def rwordsV (x : Rc) : AV := if recB x = true then .tup [.sl false (.ints .i64 (formR x)), .int .i64 0] else .tup [.sl false (.ints .i64 []), .int .i64 70]
def rec_Words.C : Contract
  | [.agg [.int .i64 a, .str k, .str v, .int .i64 c]] => some (false, pD True (rwordsV ⟨a, k, v, c⟩))
  | _ => none
set_option maxRecDepth 20000 in
theorem rec_Words.spec : FSpec Try.prog 60 rec_Words.C := by
  refine FSpec.of (ctx_ok (F := [(74, rec_Check.C), (75, rec_of.C)]) (S := []) (by simpa using ⟨rec_Check.spec, rec_of.spec⟩) (by simp) rec_Words.loops) rec_Words.at rec_Words.nm rec_Words.bd ?_
  intro vs b S v news e hS
  unfold rec_Words.C at e
  split at e
  rotate_left
  · cases e
  cases e
  rw [rec_Words.eq]
  unfold rec_Words.H
  simp (maxSteps := 4000000) only [go_sem, Nat.reduceEqDiff, Nat.reduceLT, Nat.reduceAdd, Nat.reduceSub, Nat.reduceLeDiff, List.reduceReplicate, Int.reduceToNat, rec_Check.C, rec_of.C]
  rename_i a k v c
  refine ⟨fun h => ?_, fun h => ?_⟩
  · unfold rwordsV; rw [h]; exact post_val rfl rfl
  · have hok := rec_iff.1 h
    have hl := form_len hok
    unfold rwordsV
    simp only [h, hl, joinW_eq, guard_tt, guard_tf, guard_ft, guard_ff, Int.reduceEq, Int.reduceLT, Int.reduceLE, decide_false, decide_true, Bool.not_false, Bool.not_true, Bool.not_not, not_true_eq_false, not_false_eq_true, true_implies, false_implies, implies_true, and_true, true_and, reduceCtorEq, Bool.and_self, Bool.or_self, Bool.and_true, Bool.true_and, Bool.false_eq_true, if_true, if_false, go_sem, Nat.reduceEqDiff, Nat.reduceLT, Nat.reduceAdd, Nat.reduceSub, Nat.reduceLeDiff, List.reduceReplicate, Int.reduceToNat]
    refine ⟨hok, post_val ?_ rfl⟩
    simp only [go_sem, Nat.reduceEqDiff, Nat.reduceLT, Nat.reduceAdd, Nat.reduceSub, Nat.reduceLeDiff, List.reduceReplicate, Int.reduceToNat]
    rw [take_len _ (Nat.le_of_eq hl)]
def rec_text.C : Contract
  | [.arr (.ints .i64 l), .int .i64 a, .int .i64 n] => some (false, pD (l.length = 16 ∧ 0 ≤ a ∧ a ≤ 6) (.tup [.str (txtS l a.toNat n), .bool (txtB l a.toNat n)]))
  | _ => none
set_option maxRecDepth 20000 in
theorem rec_text.spec : FSpec Try.prog 73 rec_text.C := by
  refine FSpec.of (ctx_ok (F := [(101, key_Text.C)]) (S := []) (by simpa using key_Text.spec) (by simp) rec_text.loops) rec_text.at rec_text.nm rec_text.bd ?_
  intro vs b S v news e hS
  unfold rec_text.C at e
  split at e
  rotate_left
  · cases e
  cases e
  rw [rec_text.eq]
  unfold rec_text.H
  simp (maxSteps := 4000000) only [go_sem, Nat.reduceEqDiff, Nat.reduceLT, Nat.reduceAdd, Nat.reduceSub, Nat.reduceLeDiff, List.reduceReplicate, Int.reduceToNat, key_Text.C]
  rename_i l a n
  obtain ⟨hl, ha0, ha6⟩ := hS
  have eg : (decide (n < 0) || decide (21 < n)) = !(decide (0 ≤ n) && decide (n ≤ 21)) := by
    rw [Bool.eq_iff_iff]; simp only [Bool.or_eq_true, Bool.not_eq_true', Bool.and_eq_false_iff, decide_eq_true_eq, decide_eq_false_iff_not]; omega
  rw [eg]
  refine ⟨hl, fun h => ?_, fun h => ?_⟩
  · have hb : txtB l a.toNat n = false := by
      unfold txtB; rw [Bool.not_eq_true'] at h; rw [h]; rfl
    unfold txtS
    rw [hb]; exact post_val rfl rfl
  · rw [Bool.not_eq_false'] at h
    have h' := h
    simp only [Bool.and_eq_true, decide_eq_true_eq] at h'
    obtain ⟨N, rfl⟩ := Int.eq_ofNat_of_zero_le h'.1
    obtain ⟨A, rfl⟩ := Int.eq_ofNat_of_zero_le ha0
    have hN : N ≤ 21 := by omega
    have q0 : (N + 6) / 7 ≤ 3 := by omega
    have e1 : IntKind.i64.wrap ((N : Int) + 6) = ((N + 6 : Nat) : Int) := by rw [w64 (by omega) (by omega)]; omega
    have e2 : IntKind.i64.wrap (((N + 6 : Nat) : Int).tdiv 7) = (((N + 6) / 7 : Nat) : Int) := by
      rw [Int.tdiv_eq_ediv_of_nonneg (by omega), w64 (by omega) (by omega)]; omega
    have e3 : IntKind.i64.wrap ((A : Int) + (((N + 6) / 7 : Nat) : Int)) = ((A + (N + 6) / 7 : Nat) : Int) := by rw [w64 (by omega) (by omega)]; omega
    have e4 : A + (N + 6) / 7 - A = (N + 6) / 7 := by omega
    rw [e1, e2, e3]
    simp only [hl, Int.toNat_natCast, e4, key_Text.C, joinW_eq, guard_tt, guard_tf, guard_ft, guard_ff, Int.reduceEq, Int.reduceLT, Int.reduceLE, decide_false, decide_true, Bool.not_false, Bool.not_true, Bool.not_not, not_true_eq_false, not_false_eq_true, true_implies, false_implies, implies_true, and_true, true_and, reduceCtorEq, Bool.and_self, Bool.or_self, Bool.and_true, Bool.true_and, Bool.false_eq_true, if_true, if_false, go_sem, Nat.reduceEqDiff, Nat.reduceLT, Nat.reduceAdd, Nat.reduceSub, Nat.reduceLeDiff, List.reduceReplicate, Int.reduceToNat]
    have hbt : txtB l A (N : Int) = textB ((l.drop A).take ((N + 6) / 7)) N := by
      unfold txtB
      rw [Int.toNat_natCast, h, Bool.true_and]
    have hst : txtS l A (N : Int) = if textB ((l.drop A).take ((N + 6) / 7)) N = true then textS ((l.drop A).take ((N + 6) / 7)) N else [] := by
      unfold txtS
      rw [hbt, Int.toNat_natCast]
    have hw : roomy (7 * (List.take ((N + 6) / 7) (List.drop A l)).length) := by rw [List.length_take]; unfold roomy; omega
    rw [hst, hbt]
    unfold textV
    refine ⟨by omega, ⟨hw, by omega⟩, ?_⟩
    cases textB ((l.drop A).take ((N + 6) / 7)) N
    · simp only [joinW_eq, guard_tt, guard_tf, guard_ft, guard_ff, Int.reduceEq, Int.reduceLT, Int.reduceLE, decide_false, decide_true, Bool.not_false, Bool.not_true, Bool.not_not, not_true_eq_false, not_false_eq_true, true_implies, false_implies, implies_true, and_true, true_and, reduceCtorEq, Bool.and_self, Bool.or_self, Bool.and_true, Bool.true_and, Bool.false_eq_true, if_true, if_false, go_sem, Nat.reduceEqDiff, Nat.reduceLT, Nat.reduceAdd, Nat.reduceSub, Nat.reduceLeDiff, List.reduceReplicate, Int.reduceToNat]; exact post_val rfl rfl
    · simp only [joinW_eq, guard_tt, guard_tf, guard_ft, guard_ff, Int.reduceEq, Int.reduceLT, Int.reduceLE, decide_false, decide_true, Bool.not_false, Bool.not_true, Bool.not_not, not_true_eq_false, not_false_eq_true, true_implies, false_implies, implies_true, and_true, true_and, reduceCtorEq, Bool.and_self, Bool.or_self, Bool.and_true, Bool.true_and, Bool.false_eq_true, if_true, if_false, go_sem, Nat.reduceEqDiff, Nat.reduceLT, Nat.reduceAdd, Nat.reduceSub, Nat.reduceLeDiff, List.reduceReplicate, Int.reduceToNat]; exact post_val rfl rfl
def rreadV (words : List Int) (at_ : Int) : AV := if (decide (at_ < 0) || decide (((words.length / 16 : Nat) : Int) ≤ at_)) = true then .tup [zeroRc.V, .int .i64 1] else match recOf (blockAt words at_.toNat) with
  | some n => .tup [n.V, .int .i64 0]
  | none => .tup [zeroRc.V, .int .i64 70]
/-- as the program reckons it -/
def decP7 (w : List Int) : Rc := ⟨w.getD 0 0, txtS w 3 (IntKind.i64.wrap ((w.getD 1 0).tdiv 32)), if w.getD 0 0 = 1 then txtS w 6 ((w.getD 1 0).tmod 32) else [], if w.getD 0 0 = 2 then w.getD 6 0 else 0⟩
theorem lens_P {x : Rc} (h : x.ok) : IntKind.i64.wrap ((lensR x).tdiv 32) = x.key.length ∧ (lensR x).tmod 32 = x.val.length := by
  have hl := form_lens h
  rw [Int.tdiv_eq_ediv_of_nonneg hl.2.2.1, Int.tmod_eq_emod_of_nonneg hl.2.2.1, w64 (by omega) (by omega)]
  exact ⟨hl.1, hl.2.1⟩
theorem decP7_form {x : Rc} (h : x.ok) : decP7 (formR x) = x := by
  have hd := decC_form h
  have e1 : (formR x).getD 1 0 = lensR x := rfl
  have hl := form_lens h
  have hp := lens_P h
  unfold decC at hd
  unfold decP7
  rw [e1, hl.1, hl.2.1] at hd
  rw [e1, hp.1, hp.2]; exact hd
theorem recP_eq (w : List Int) : readC decP7 w = recOf w := readC_eq (fun n h => decP7_form h) (fun n h => decC_form h) w
theorem no_key {w : List Int} (h : txtB w 3 (IntKind.i64.wrap ((w.getD 1 0).tdiv 32)) = false) : recOf w = none := by
  apply recOf_none
  rintro x hx rfl
  have e1 : (formR x).getD 1 0 = lensR x := rfl
  rw [e1, (lens_P hx).1, (form_key hx).1] at h
  cases h
theorem no_val {w : List Int} (h1 : w.getD 0 0 = 1) (h : txtB w 6 ((w.getD 1 0).tmod 32) = false) : recOf w = none := by
  apply recOf_none
  rintro x hx rfl
  have e1 : (formR x).getD 1 0 = lensR x := rfl
  rw [e1, (lens_P hx).2, (form_val hx h1).1] at h
  cases h
def rec_Read.C : Contract
  | [.sl _ (.ints .i64 l), .int .i64 k] => some (false, pD (roomy l.length) (rreadV l k))
  | _ => none
set_option maxRecDepth 20000 in
theorem rec_Read.spec : FSpec Try.prog 37 rec_Read.C := by
  refine FSpec.of (ctx_ok (F := [(73, rec_text.C), (74, rec_Check.C), (75, rec_of.C)]) (S := []) (by simpa using ⟨rec_text.spec, rec_Check.spec, rec_of.spec⟩) (by simp) rec_Read.loops) rec_Read.at rec_Read.nm rec_Read.bd ?_
  intro vs b S v news e hS
  unfold rec_Read.C at e
  split at e
  rotate_left
  · cases e
  cases e
  rw [rec_Read.eq]
  unfold rec_Read.H
  simp (maxSteps := 4000000) only [go_sem, Nat.reduceEqDiff, Nat.reduceLT, Nat.reduceAdd, Nat.reduceSub, Nat.reduceLeDiff, List.reduceReplicate, Int.reduceToNat, rec_text.C, rec_Check.C, rec_of.C]
  rename_i l k
  have hrl := hS
  unfold roomy at hS
  have e0 : IntKind.i64.wrap ((l.length : Int).tdiv 16) = ((l.length / 16 : Nat) : Int) := by
    rw [Int.tdiv_eq_ediv_of_nonneg (by omega)]; exact w64 (by omega) (by omega)
  rw [e0]
  unfold rreadV
  refine ⟨fun _ => by decide, fun h => ?_, fun h => ?_⟩
  · rw [if_pos h]
    refine post_val ?_ rfl
    simp only [zeroRc, go_sem, Nat.reduceEqDiff, Nat.reduceLT, Nat.reduceAdd, Nat.reduceSub, Nat.reduceLeDiff, List.reduceReplicate, Int.reduceToNat]
  · rw [h]
    simp only [Bool.or_eq_false_iff, decide_eq_false_iff_not] at h
    obtain ⟨k, rfl⟩ := Int.eq_ofNat_of_zero_le (show 0 ≤ k by omega)
    have hk : 16 * k + 16 ≤ l.length := by omega
    have e1 : IntKind.i64.wrap (16 * (k : Int)) = 16 * (k : Int) := w64 (by omega) (by omega)
    have e5 : (16 * (k : Int)).toNat = 16 * k := by omega
    have hdl : (l.drop (16 * k)).length = l.length - 16 * k := by simp
    have et : (l.drop (16 * k)).take (l.length - 16 * k) = l.drop (16 * k) := take_len _ (by omega)
    have hbl : (blockAt l k).length = 16 := by unfold blockAt; simp; omega
    rw [e1, e5, et, hdl, Nat.min_eq_left (by omega)]
    have ew : (l.drop (16 * k)).take 16 ++ List.take (16 - 16) (List.drop 16 [0, 0, 0, 0, 0, 0, 0, 0, 0, 0, 0, 0, 0, 0, 0, 0]) = blockAt l k := by
      show (l.drop (16 * k)).take 16 ++ [] = _
      rw [List.append_nil]; rfl
    rw [ew, Int.toNat_natCast]
    generalize blockAt l k = w at *
    have hV : (decP7 w).V = .agg [.int .i64 (w.getD 0 0), .str (txtS w 3 (IntKind.i64.wrap ((w.getD 1 0).tdiv 32))), .str (if w.getD 0 0 = 1 then txtS w 6 ((w.getD 1 0).tmod 32) else []), .int .i64 (if w.getD 0 0 = 2 then w.getD 6 0 else 0)] := rfl
    simp only [hbl, rec_text.C, joinW_eq, guard_tt, guard_tf, guard_ft, guard_ff, Int.reduceEq, Int.reduceLT, Int.reduceLE, decide_false, decide_true, Bool.not_false, Bool.not_true, Bool.not_not, not_true_eq_false, not_false_eq_true, true_implies, false_implies, implies_true, and_true, true_and, reduceCtorEq, Bool.and_self, Bool.or_self, Bool.and_true, Bool.true_and, Bool.false_eq_true, if_true, if_false, go_sem, Nat.reduceEqDiff, Nat.reduceLT, Nat.reduceAdd, Nat.reduceSub, Nat.reduceLeDiff, List.reduceReplicate, Int.reduceToNat]
    refine ⟨by omega, fun hT => ?_, fun hT => ⟨fun h1 => ?_, fun h1 => ⟨fun h2 => ?_, fun h2 => ?_⟩⟩⟩
    · rw [no_key hT]
      refine post_val ?_ rfl
      simp only [zeroRc, go_sem, Nat.reduceEqDiff, Nat.reduceLT, Nat.reduceAdd, Nat.reduceSub, Nat.reduceLeDiff, List.reduceReplicate, Int.reduceToNat]
    · have hd1 : (⟨w.getD 0 0, txtS w 3 (IntKind.i64.wrap ((w.getD 1 0).tdiv 32)), txtS w 6 ((w.getD 1 0).tmod 32), 0⟩ : Rc) = decP7 w := by
        unfold decP7; rw [if_pos h1, if_neg (by omega)]
      cases h6 : txtB w 6 ((w.getD 1 0).tmod 32) with
      | false =>
        simp only [Bool.not_false, guard_tf]
        rw [no_val h1 h6]
        refine post_val ?_ rfl
        simp only [zeroRc, go_sem, Nat.reduceEqDiff, Nat.reduceLT, Nat.reduceAdd, Nat.reduceSub, Nat.reduceLeDiff, List.reduceReplicate, Int.reduceToNat]
      | true =>
        rw [← recP_eq]
        unfold readC
        cases hb : recB (decP7 w) with
        | false =>
          simp only [rec_Check.C, hd1, hb, Bool.false_and, Bool.false_eq_true, if_false, joinW_eq, guard_tt, guard_tf, guard_ft, guard_ff, Int.reduceEq, Int.reduceLT, Int.reduceLE, decide_false, decide_true, Bool.not_false, Bool.not_true, Bool.not_not, not_true_eq_false, not_false_eq_true, true_implies, false_implies, implies_true, and_true, true_and, reduceCtorEq, Bool.and_self, Bool.or_self, Bool.and_true, Bool.true_and, Bool.false_eq_true, if_true, if_false, go_sem, Nat.reduceEqDiff, Nat.reduceLT, Nat.reduceAdd, Nat.reduceSub, Nat.reduceLeDiff, List.reduceReplicate, Int.reduceToNat]
          refine post_val ?_ rfl
          simp only [zeroRc, go_sem, Nat.reduceEqDiff, Nat.reduceLT, Nat.reduceAdd, Nat.reduceSub, Nat.reduceLeDiff, List.reduceReplicate, Int.reduceToNat]
        | true =>
          have hok := rec_iff.1 hb
          have hfl := form_len hok
          simp only [rec_Check.C, rec_of.C, hd1, hb, hfl, hbl, Bool.true_and, joinW_eq, guard_tt, guard_tf, guard_ft, guard_ff, Int.reduceEq, Int.reduceLT, Int.reduceLE, decide_false, decide_true, Bool.not_false, Bool.not_true, Bool.not_not, not_true_eq_false, not_false_eq_true, true_implies, false_implies, implies_true, and_true, true_and, reduceCtorEq, Bool.and_self, Bool.or_self, Bool.and_true, Bool.true_and, Bool.false_eq_true, if_true, if_false, go_sem, Nat.reduceEqDiff, Nat.reduceLT, Nat.reduceAdd, Nat.reduceSub, Nat.reduceLeDiff, List.reduceReplicate, Int.reduceToNat]
          refine ⟨hok, fun h => ?_, fun h => ?_⟩
          · rw [if_neg h]
            refine post_val ?_ rfl
            simp only [zeroRc, go_sem, Nat.reduceEqDiff, Nat.reduceLT, Nat.reduceAdd, Nat.reduceSub, Nat.reduceLeDiff, List.reduceReplicate, Int.reduceToNat]
          · rw [if_pos h, ← hd1]
            exact post_val rfl rfl
    · have hd1 : (⟨w.getD 0 0, txtS w 3 (IntKind.i64.wrap ((w.getD 1 0).tdiv 32)), [], w.getD 6 0⟩ : Rc) = decP7 w := by
        unfold decP7; rw [if_neg (by omega), if_pos h2]
      rw [← recP_eq]
      unfold readC
      cases hb : recB (decP7 w) with
      | false =>
        simp only [hT, rec_Check.C, hd1, hb, Bool.false_and, Bool.false_eq_true, if_false, joinW_eq, guard_tt, guard_tf, guard_ft, guard_ff, Int.reduceEq, Int.reduceLT, Int.reduceLE, decide_false, decide_true, Bool.not_false, Bool.not_true, Bool.not_not, not_true_eq_false, not_false_eq_true, true_implies, false_implies, implies_true, and_true, true_and, reduceCtorEq, Bool.and_self, Bool.or_self, Bool.and_true, Bool.true_and, Bool.false_eq_true, if_true, if_false, go_sem, Nat.reduceEqDiff, Nat.reduceLT, Nat.reduceAdd, Nat.reduceSub, Nat.reduceLeDiff, List.reduceReplicate, Int.reduceToNat]
        refine post_val ?_ rfl
        simp only [zeroRc, go_sem, Nat.reduceEqDiff, Nat.reduceLT, Nat.reduceAdd, Nat.reduceSub, Nat.reduceLeDiff, List.reduceReplicate, Int.reduceToNat]
      | true =>
        have hok := rec_iff.1 hb
        have hfl := form_len hok
        simp only [hT, rec_Check.C, rec_of.C, hd1, hb, hfl, hbl, Bool.true_and, joinW_eq, guard_tt, guard_tf, guard_ft, guard_ff, Int.reduceEq, Int.reduceLT, Int.reduceLE, decide_false, decide_true, Bool.not_false, Bool.not_true, Bool.not_not, not_true_eq_false, not_false_eq_true, true_implies, false_implies, implies_true, and_true, true_and, reduceCtorEq, Bool.and_self, Bool.or_self, Bool.and_true, Bool.true_and, Bool.false_eq_true, if_true, if_false, go_sem, Nat.reduceEqDiff, Nat.reduceLT, Nat.reduceAdd, Nat.reduceSub, Nat.reduceLeDiff, List.reduceReplicate, Int.reduceToNat]
        refine ⟨hok, fun h => ?_, fun h => ?_⟩
        · rw [if_neg h]
          refine post_val ?_ rfl
          simp only [zeroRc, go_sem, Nat.reduceEqDiff, Nat.reduceLT, Nat.reduceAdd, Nat.reduceSub, Nat.reduceLeDiff, List.reduceReplicate, Int.reduceToNat]
        · rw [if_pos h, ← hd1]
          exact post_val rfl rfl
    · have hd1 : (⟨w.getD 0 0, txtS w 3 (IntKind.i64.wrap ((w.getD 1 0).tdiv 32)), [], 0⟩ : Rc) = decP7 w := by
        unfold decP7; rw [if_neg (by omega), if_neg h2]
      rw [← recP_eq]
      unfold readC
      cases hb : recB (decP7 w) with
      | false =>
        simp only [hT, rec_Check.C, hd1, hb, Bool.false_and, Bool.false_eq_true, if_false, joinW_eq, guard_tt, guard_tf, guard_ft, guard_ff, Int.reduceEq, Int.reduceLT, Int.reduceLE, decide_false, decide_true, Bool.not_false, Bool.not_true, Bool.not_not, not_true_eq_false, not_false_eq_true, true_implies, false_implies, implies_true, and_true, true_and, reduceCtorEq, Bool.and_self, Bool.or_self, Bool.and_true, Bool.true_and, Bool.false_eq_true, if_true, if_false, go_sem, Nat.reduceEqDiff, Nat.reduceLT, Nat.reduceAdd, Nat.reduceSub, Nat.reduceLeDiff, List.reduceReplicate, Int.reduceToNat]
        refine post_val ?_ rfl
        simp only [zeroRc, go_sem, Nat.reduceEqDiff, Nat.reduceLT, Nat.reduceAdd, Nat.reduceSub, Nat.reduceLeDiff, List.reduceReplicate, Int.reduceToNat]
      | true =>
        have hok := rec_iff.1 hb
        have hfl := form_len hok
        simp only [hT, rec_Check.C, rec_of.C, hd1, hb, hfl, hbl, Bool.true_and, joinW_eq, guard_tt, guard_tf, guard_ft, guard_ff, Int.reduceEq, Int.reduceLT, Int.reduceLE, decide_false, decide_true, Bool.not_false, Bool.not_true, Bool.not_not, not_true_eq_false, not_false_eq_true, true_implies, false_implies, implies_true, and_true, true_and, reduceCtorEq, Bool.and_self, Bool.or_self, Bool.and_true, Bool.true_and, Bool.false_eq_true, if_true, if_false, go_sem, Nat.reduceEqDiff, Nat.reduceLT, Nat.reduceAdd, Nat.reduceSub, Nat.reduceLeDiff, List.reduceReplicate, Int.reduceToNat]
        refine ⟨hok, fun h => ?_, fun h => ?_⟩
        · rw [if_neg h]
          refine post_val ?_ rfl
          simp only [zeroRc, go_sem, Nat.reduceEqDiff, Nat.reduceLT, Nat.reduceAdd, Nat.reduceSub, Nat.reduceLeDiff, List.reduceReplicate, Int.reduceToNat]
        · rw [if_pos h, ← hd1]
          exact post_val rfl rfl
def rstepsV (b : Int) (l : List Int) : AV := if (decide (0 ≤ b) && decide (b < 256) && decide (l.length = 16)) = true then .tup [.sl false (.mics (stepsR b l)), .int .i64 0] else .tup [.sl false (.mics []), .int .i64 1]
def stR (b : Int) (l : List Int) (k : Nat) : List Mic := ((List.range k).map fun i : Nat => (⟨1, 16 * b + i, l.getD i 0⟩ : Mic)) ++ List.replicate (18 - k) ⟨0, 0, 0⟩
def st2 (b : Int) (l : List Int) (k : Nat) : List Mic := ((List.range 16).map fun i : Nat => (⟨1, 16 * b + i, l.getD i 0⟩ : Mic)) ++ (((List.range k).map fun i : Nat => (⟨2, 2 * b + i, 0⟩ : Mic)) ++ List.replicate (2 - k) ⟨0, 0, 0⟩)
theorem st2_end (b : Int) (l : List Int) : st2 b l 2 = stepsR b l := by
  unfold st2 stepsR
  congr 1
  show [(⟨2, 2 * b + ((0 : Nat) : Int), 0⟩ : Mic), ⟨2, 2 * b + ((1 : Nat) : Int), 0⟩] = _
  simp
theorem stR_len (b : Int) (l : List Int) {k : Nat} (h : k ≤ 18) : (stR b l k).length = 18 := by simp [stR]; omega
theorem st2_len (b : Int) (l : List Int) {k : Nat} (h : k ≤ 2) : (st2 b l k).length = 18 := by simp [st2]; omega
theorem stR_set (b : Int) (l : List Int) {k : Nat} (h : k < 18) : (stR b l k).set k ⟨1, 16 * b + k, l.getD k 0⟩ = stR b l (k + 1) := by
  unfold stR
  obtain ⟨m, hm⟩ : ∃ m, 18 - k = m + 1 := ⟨18 - k - 1, by omega⟩
  rw [List.set_append_right _ _ (by simp), List.length_map, List.length_range, Nat.sub_self, hm, List.replicate_succ, List.set_cons_zero, List.range_succ, List.map_append, List.append_assoc, show 18 - (k + 1) = m from by omega]
  rfl
theorem st2_set (b : Int) (l : List Int) {k : Nat} (h : k < 2) : (st2 b l k).set (16 + k) ⟨2, 2 * b + k, 0⟩ = st2 b l (k + 1) := by
  unfold st2
  obtain ⟨m, hm⟩ : ∃ m, 2 - k = m + 1 := ⟨2 - k - 1, by omega⟩
  rw [List.set_append_right _ _ (by simp), List.length_map, List.length_range, Nat.add_sub_cancel_left, List.set_append_right _ _ (by simp), List.length_map, List.length_range, Nat.sub_self, hm, List.replicate_succ, List.set_cons_zero, List.range_succ (n := k), List.map_append, List.append_assoc, show 2 - (k + 1) = m from by omega]
  rfl
end Lam
namespace Lam
open Go Go.Proofs
set_option linter.unusedVariables false
set_option linter.unnecessarySimpa false
set_option linter.unusedSimpArgs false
def corrV : AV := .iface 120 (.agg [])
theorem readV_some {w : List Int} {b : Int} {n : Nd} (h : nodeO w b = some n) : readV w b = .tup [n.V, .int .i64 0] := by
  unfold nodeO at h
  unfold readV
  split at h
  · cases h
  · rename_i hb; rw [if_neg hb, h]
theorem readV_none {w : List Int} {b : Int} (h : nodeO w b = none) : ∃ e, e ≠ 0 ∧ readV w b = .tup [zeroNd.V, .int .i64 e] := by
  unfold nodeO at h
  unfold readV
  split at h
  · rename_i hb; rw [if_pos hb]; exact ⟨1, by decide, rfl⟩
  · rename_i hb; rw [if_neg hb, h]; exact ⟨90, by decide, rfl⟩
theorem rreadV_some {w : List Int} {b : Int} {n : Rc} (h : recO w b = some n) : rreadV w b = .tup [n.V, .int .i64 0] := by
  unfold recO at h
  unfold rreadV
  split at h
  · cases h
  · rename_i hb; rw [if_neg hb, h]
theorem rreadV_none {w : List Int} {b : Int} (h : recO w b = none) : ∃ e, e ≠ 0 ∧ rreadV w b = .tup [zeroRc.V, .int .i64 e] := by
  unfold recO at h
  unfold rreadV
  split at h
  · rename_i hb; rw [if_pos hb]; exact ⟨1, by decide, rfl⟩
  · rename_i hb; rw [if_neg hb, h]; exact ⟨70, by decide, rfl⟩
theorem jpost_pan {v pv : AV} {b : Bool} {news : List AObj} {h : List AObj} : JPost true pv b v news (.pan pv) h := rfl
theorem jpost_ret {ao : AOut} {pv v : AV} {b : Bool} {news : List AObj} {h : List AObj} (p : Post b v news ao h) : JPost false pv b v news ao h := p
def arena_sound.J : JCon
  | [.bool b] => some (True, !b, corrV, false, .tup [], [])
  | _ => none
abbrev arena_sound.K : Con := Jcon arena_sound.J
set_option maxRecDepth 20000 in
set_option maxHeartbeats 1000000 in
theorem arena_sound.jspec : JSpec Try.prog 82 arena_sound.J := by
  refine JSpec.of (ctx_ok (F := []) (S := []) (by simp) (by simp) arena_sound.loops) arena_sound.at arena_sound.nm arena_sound.bd ?_ ?_
  · intro vs S pb pv b v news e
    unfold arena_sound.J at e
    split at e
    rotate_left
    · cases e
    cases e
    rfl
  intro vs S pb pv b v news e hS
  unfold arena_sound.J at e
  split at e
  rotate_left
  · cases e
  cases e
  rw [arena_sound.eq]
  unfold arena_sound.H
  simp (maxSteps := 4000000) only [go_sem, Nat.reduceEqDiff, Nat.reduceLT, Nat.reduceAdd, Nat.reduceSub, Nat.reduceLeDiff, List.reduceReplicate, Int.reduceToNat]
  rename_i b
  rw [joinW_eq]
  exact ⟨fun h => by subst h; rfl, fun h => by subst h; exact jpost_ret (post_val rfl rfl)⟩
def smallW (w : List Int) : Prop := w.length ≤ 65536 ∧ i64s w
theorem smallW.roomy {w : List Int} (h : smallW w) : roomy w.length := by have := h.1; unfold Lam.roomy; omega
def arena_nodeOf.J : JCon
  | [.sl _ (.ints .i64 w), .int .i64 b] => some (smallW w, (nodeO w b).isNone, corrV, false, ((nodeO w b).getD zeroNd).V, [])
  | _ => none
abbrev arena_nodeOf.K : Con := Jcon arena_nodeOf.J
set_option maxRecDepth 20000 in
set_option maxHeartbeats 1000000 in
theorem arena_nodeOf.jspec : JSpec Try.prog 53 arena_nodeOf.J := by
  refine JSpec.of (ctx_ok (F := [(23, node_Read.C)]) (S := [(82, arena_sound.K)]) (by simpa using node_Read.spec) (by simpa using arena_sound.jspec.con) arena_nodeOf.loops) arena_nodeOf.at arena_nodeOf.nm arena_nodeOf.bd ?_ ?_
  · intro vs S pb pv b v news e
    unfold arena_nodeOf.J at e
    split at e
    rotate_left
    · cases e
    cases e
    rfl
  intro vs S pb pv b v news e hS
  unfold arena_nodeOf.J at e
  split at e
  rotate_left
  · cases e
  cases e
  rw [arena_nodeOf.eq]
  unfold arena_nodeOf.H
  simp (maxSteps := 4000000) only [go_sem, Nat.reduceEqDiff, Nat.reduceLT, Nat.reduceAdd, Nat.reduceSub, Nat.reduceLeDiff, List.reduceReplicate, Int.reduceToNat, node_Read.C, arena_sound.K, arena_sound.J]
  rename_i _ w b
  refine ⟨hS.roomy, ?_⟩
  cases hn : nodeO w b with
  | none =>
    obtain ⟨e, he, hr⟩ := readV_none hn
    have hd : decide (e = 0) = false := decide_eq_false he
    simp only [hr, zeroNd, arena_sound.J, hd, joinW_eq, guard_tt, guard_tf, guard_ft, guard_ff, Int.reduceEq, Int.reduceLT, Int.reduceLE, decide_false, decide_true, Bool.not_false, Bool.not_true, Bool.not_not, not_true_eq_false, not_false_eq_true, true_implies, false_implies, implies_true, and_true, true_and, reduceCtorEq, Bool.and_self, Bool.or_self, Bool.and_true, Bool.true_and, Bool.false_eq_true, if_true, if_false, go_sem, Nat.reduceEqDiff, Nat.reduceLT, Nat.reduceAdd, Nat.reduceSub, Nat.reduceLeDiff, List.reduceReplicate, Int.reduceToNat]
    exact jpost_pan
  | some n =>
    simp only [readV_some hn, arena_sound.J, joinW_eq, guard_tt, guard_tf, guard_ft, guard_ff, Int.reduceEq, Int.reduceLT, Int.reduceLE, decide_false, decide_true, Bool.not_false, Bool.not_true, Bool.not_not, not_true_eq_false, not_false_eq_true, true_implies, false_implies, implies_true, and_true, true_and, reduceCtorEq, Bool.and_self, Bool.or_self, Bool.and_true, Bool.true_and, Bool.false_eq_true, if_true, if_false, go_sem, Nat.reduceEqDiff, Nat.reduceLT, Nat.reduceAdd, Nat.reduceSub, Nat.reduceLeDiff, List.reduceReplicate, Int.reduceToNat]
    exact jpost_ret (post_val rfl rfl)
def arena_keyOf.J : JCon
  | [.sl _ (.ints .i64 w), .int .i64 b] => some (smallW w, (recO w b).isNone, corrV, false, .str ((recO w b).getD zeroRc).key, [])
  | _ => none
abbrev arena_keyOf.K : Con := Jcon arena_keyOf.J
set_option maxRecDepth 20000 in
set_option maxHeartbeats 1000000 in
theorem arena_keyOf.jspec : JSpec Try.prog 87 arena_keyOf.J := by
  refine JSpec.of (ctx_ok (F := [(37, rec_Read.C)]) (S := [(82, arena_sound.K)]) (by simpa using rec_Read.spec) (by simpa using arena_sound.jspec.con) arena_keyOf.loops) arena_keyOf.at arena_keyOf.nm arena_keyOf.bd ?_ ?_
  · intro vs S pb pv b v news e
    unfold arena_keyOf.J at e
    split at e
    rotate_left
    · cases e
    cases e
    rfl
  intro vs S pb pv b v news e hS
  unfold arena_keyOf.J at e
  split at e
  rotate_left
  · cases e
  cases e
  rw [arena_keyOf.eq]
  unfold arena_keyOf.H
  simp (maxSteps := 4000000) only [go_sem, Nat.reduceEqDiff, Nat.reduceLT, Nat.reduceAdd, Nat.reduceSub, Nat.reduceLeDiff, List.reduceReplicate, Int.reduceToNat, rec_Read.C, arena_sound.K, arena_sound.J]
  rename_i _ w b
  refine ⟨hS.roomy, ?_⟩
  cases hn : recO w b with
  | none =>
    obtain ⟨e, he, hr⟩ := rreadV_none hn
    have hd : decide (e = 0) = false := decide_eq_false he
    simp only [hr, zeroRc, arena_sound.J, hd, joinW_eq, guard_tt, guard_tf, guard_ft, guard_ff, Int.reduceEq, Int.reduceLT, Int.reduceLE, decide_false, decide_true, Bool.not_false, Bool.not_true, Bool.not_not, not_true_eq_false, not_false_eq_true, true_implies, false_implies, implies_true, and_true, true_and, reduceCtorEq, Bool.and_self, Bool.or_self, Bool.and_true, Bool.true_and, Bool.false_eq_true, if_true, if_false, go_sem, Nat.reduceEqDiff, Nat.reduceLT, Nat.reduceAdd, Nat.reduceSub, Nat.reduceLeDiff, List.reduceReplicate, Int.reduceToNat]
    exact jpost_pan
  | some n =>
    simp only [rreadV_some hn, arena_sound.J, joinW_eq, guard_tt, guard_tf, guard_ft, guard_ff, Int.reduceEq, Int.reduceLT, Int.reduceLE, decide_false, decide_true, Bool.not_false, Bool.not_true, Bool.not_not, not_true_eq_false, not_false_eq_true, true_implies, false_implies, implies_true, and_true, true_and, reduceCtorEq, Bool.and_self, Bool.or_self, Bool.and_true, Bool.true_and, Bool.false_eq_true, if_true, if_false, go_sem, Nat.reduceEqDiff, Nat.reduceLT, Nat.reduceAdd, Nat.reduceSub, Nat.reduceLeDiff, List.reduceReplicate, Int.reduceToNat]
    exact jpost_ret (post_val rfl rfl)
def arena_lowOf.J : JCon
  | [.sl _ (.ints .i64 w), .agg [.int .i64 a, .int .i64 b, .int .i64 c, .int .i64 d, .sl _ (.ints .i64 l)]] => some (smallW w, (lowO w ⟨a, b, c, d, l⟩).isNone, corrV, false, .str ((lowO w ⟨a, b, c, d, l⟩).getD []), [])
  | _ => none
abbrev arena_lowOf.K : Con := Jcon arena_lowOf.J
set_option maxRecDepth 20000 in
set_option maxHeartbeats 1000000 in
theorem arena_lowOf.jspec : JSpec Try.prog 57 arena_lowOf.J := by
  refine JSpec.of (ctx_ok (F := []) (S := [(87, arena_keyOf.K)]) (by simp) (by simpa using arena_keyOf.jspec.con) arena_lowOf.loops) arena_lowOf.at arena_lowOf.nm arena_lowOf.bd ?_ ?_
  · intro vs S pb pv b v news e
    unfold arena_lowOf.J at e
    split at e
    rotate_left
    · cases e
    cases e
    rfl
  intro vs S pb pv b v news e hS
  unfold arena_lowOf.J at e
  split at e
  rotate_left
  · cases e
  cases e
  rw [arena_lowOf.eq]
  unfold arena_lowOf.H
  simp (maxSteps := 4000000) only [go_sem, Nat.reduceEqDiff, Nat.reduceLT, Nat.reduceAdd, Nat.reduceSub, Nat.reduceLeDiff, List.reduceReplicate, Int.reduceToNat, arena_keyOf.K, arena_keyOf.J]
  rename_i _ w a b c d _ l
  refine ⟨fun h => ?_, fun h => ⟨hS, fun hp => ?_, fun hp => ?_⟩⟩
  · have : lowO w ⟨a, b, c, d, l⟩ = some [] := by unfold lowO; rw [if_pos h]
    rw [this]; exact jpost_ret (post_val rfl rfl)
  · have : lowO w ⟨a, b, c, d, l⟩ = none := by
      unfold lowO; rw [if_neg h]
      rw [Option.isNone_iff_eq_none] at hp
      simp only [hp]; rfl
    rw [this]; exact jpost_pan
  · obtain ⟨x, hx⟩ : ∃ x, recO w d = some x := by cases hr : recO w d with
      | none => rw [hr] at hp; cases hp
      | some x => exact ⟨x, rfl⟩
    have : lowO w ⟨a, b, c, d, l⟩ = some x.key := by
      unfold lowO; rw [if_neg h]
      simp only [hx]; rfl
    rw [this, hx]; exact jpost_ret (post_val rfl rfl)
def arena_chain.J : JCon
  | [.sl _ (.ints .i64 w)] => some (smallW w, (chainO (readB w) w).isNone, corrV, true, .sref false 0 0 0 ((chainO (readB w) w).getD []).length, [.row .own 0 (.ints .i64 ((chainO (readB w) w).getD []))])
  | _ => none
abbrev arena_chain.K : Con := Jcon arena_chain.J
set_option maxRecDepth 20000 in
set_option maxHeartbeats 1000000 in
theorem arena_chain.jspec : JSpec Try.prog 50 arena_chain.J := by
  refine JSpec.of (ctx_ok (F := [(54, super_Read.C), (83, slices_Contains_sl_int_int.C)]) (S := [(82, arena_sound.K), (53, arena_nodeOf.K)]) (by simpa using ⟨super_Read.spec, slices_Contains_sl_int_int.spec⟩) (by simpa using ⟨arena_sound.jspec.con, arena_nodeOf.jspec.con⟩) arena_chain.loops) arena_chain.at arena_chain.nm arena_chain.bd ?_ ?_
  · intro vs S pb pv b v news e
    unfold arena_chain.J at e
    split at e
    rotate_left
    · cases e
    cases e
    rfl
  intro vs S pb pv b v news e hS
  unfold arena_chain.J at e
  split at e
  rotate_left
  · cases e
  cases e
  rw [arena_chain.eq]
  unfold arena_chain.H
  simp (maxSteps := 4000000) only [go_sem, Nat.reduceEqDiff, Nat.reduceLT, Nat.reduceAdd, Nat.reduceSub, Nat.reduceLeDiff, List.reduceReplicate, Int.reduceToNat, super_Read.C, slices_Contains_sl_int_int.C, arena_sound.K, arena_sound.J, arena_nodeOf.K, arena_nodeOf.J]
  rename_i _ w
  refine ⟨hS.roomy, ?_⟩
  cases hb : readB w with
  | false =>
    have hr : sreadV w = .tup [.int .i64 0, .int .i64 0, .int .i64 80] := by unfold sreadV; rw [hb]; rfl
    simp only [hr, arena_sound.J, joinW_eq, guard_tt, guard_tf, guard_ft, guard_ff, Int.reduceEq, Int.reduceLT, Int.reduceLE, decide_false, decide_true, Bool.not_false, Bool.not_true, Bool.not_not, not_true_eq_false, not_false_eq_true, true_implies, false_implies, implies_true, and_true, true_and, reduceCtorEq, Bool.and_self, Bool.or_self, Bool.and_true, Bool.true_and, Bool.false_eq_true, if_true, if_false, go_sem, Nat.reduceEqDiff, Nat.reduceLT, Nat.reduceAdd, Nat.reduceSub, Nat.reduceLeDiff, List.reduceReplicate, Int.reduceToNat]
    exact jpost_pan
  | true =>
    have hr : sreadV w = .tup [.int .i64 (w.getD 1 0), .int .i64 (w.getD 3 0), .int .i64 0] := by unfold sreadV; rw [hb]; rfl
    simp only [hr, arena_sound.J, joinW_eq, guard_tt, guard_tf, guard_ft, guard_ff, Int.reduceEq, Int.reduceLT, Int.reduceLE, decide_false, decide_true, Bool.not_false, Bool.not_true, Bool.not_not, not_true_eq_false, not_false_eq_true, true_implies, false_implies, implies_true, and_true, true_and, reduceCtorEq, Bool.and_self, Bool.or_self, Bool.and_true, Bool.true_and, Bool.false_eq_true, if_true, if_false, go_sem, Nat.reduceEqDiff, Nat.reduceLT, Nat.reduceAdd, Nat.reduceSub, Nat.reduceLeDiff, List.reduceReplicate, Int.reduceToNat]
    unfold arena_chain.L1
    have h16 : w.length ≤ 65536 := hS.1
    refine loop2 (σ := List Int × Int) (fun s => .sref false 0 s.1.length 0 s.1.length) (fun s => .int .i64 s.2) (fun s => [.row .own s.1.length (.ints .i64 s.1)]) (fun s => w.length / 16 + 1 - s.1.length)
      (fun s => s.1.Nodup ∧ (∀ x ∈ s.1, 0 ≤ x ∧ x < ((w.length / 16 : Nat) : Int)) ∧ chainF w (w.length / 16 + 1 - s.1.length) s.2 s.1 = chainO true w) ([], 1) rfl rfl ⟨List.nodup_nil, by simp, rfl⟩ ?_
    rintro I back ⟨out, at_⟩ ⟨hnd, hrg, hch⟩
    simp only at hnd hrg hch ⊢
    have hpg := pigeon hnd hrg
    have hro : roomy out.length := by unfold roomy; omega
    obtain ⟨m, hm⟩ : ∃ m, w.length / 16 + 1 - out.length = m + 1 := ⟨w.length / 16 - out.length, by omega⟩
    rw [hm] at hch
    simp only [chainF] at hch
    simp only [arena_nodeOf.J, arena_sound.J, slices_Contains_sl_int_int.C, go_sem, Nat.reduceEqDiff, Nat.reduceLT, Nat.reduceAdd, Nat.reduceSub, Nat.reduceLeDiff, List.reduceReplicate, Int.reduceToNat]
    refine ⟨fun h0 => ⟨hS, fun hp => ?_, fun hp => ?_⟩, fun h0 => ?_⟩
    · rw [if_neg h0] at hch
      rw [Option.isNone_iff_eq_none] at hp
      rw [hp] at hch
      rw [← hch]; exact jpost_pan
    · obtain ⟨n, hn⟩ : ∃ n, nodeO w at_ = some n := by
        cases hr : nodeO w at_ with
        | none => rw [hr] at hp; cases hp
        | some x => exact ⟨x, rfl⟩
      rw [if_neg h0, hn] at hch
      simp only [hn, Option.getD_some] at hch ⊢
      obtain ⟨_, hn0, hn1, _⟩ := nodeO_some hn
      refine ⟨fun _ => hro, fun hc => ?_, fun hc => ?_⟩
      · rw [if_neg] at hch
        · rw [← hch]; exact jpost_pan
        · rintro ⟨h1, h2⟩
          rw [decide_eq_true h1, decide_eq_false h2] at hc
          cases hc
      · simp only [Bool.and_eq_true, decide_eq_true_eq, Bool.not_eq_true', decide_eq_false_iff_not] at hc
        rw [if_pos hc] at hch
        have hl1 : (out ++ [at_]).length = out.length + 1 := by simp
        have em : w.length / 16 + 1 - (out.length + 1) = m := by omega
        refine ⟨by unfold roomy; omega, rfl, back (out ++ [at_], n.next) (by simp only [hl1]; omega) (by simp only [hl1]) (by simp only [hl1]) ⟨?_, ?_, ?_⟩⟩
        · rw [List.nodup_append]
          refine ⟨hnd, by simp, fun a ha b hb' => ?_⟩
          simp only [List.mem_singleton] at hb'
          subst hb'
          rintro rfl
          exact hc.2 ha
        · intro x hx
          simp only [List.mem_append, List.mem_singleton] at hx
          rcases hx with hx | rfl
          · exact hrg x hx
          · exact ⟨hn0, hn1⟩
        · simp only [hl1, em]; exact hch
    · rw [if_pos h0] at hch
      rw [← hch]
      exact jpost_ret (post_row rfl (by decide))
def arena_look.J : JCon
  | [.sl _ (.ints .i64 w)] => some (smallW w, (lookO (readB w) w).isNone, corrV, true, .sref false 0 0 0 ((lookO (readB w) w).getD []).length, [.row .own 0 (.ints .i64 ((lookO (readB w) w).getD []))])
  | _ => none
abbrev arena_look.K : Con := Jcon arena_look.J
set_option maxRecDepth 20000 in
set_option maxHeartbeats 1000000 in
theorem arena_look.jspec : JSpec Try.prog 51 arena_look.J := by
  refine JSpec.of (ctx_ok (F := [(37, rec_Read.C), (84, fast_Plain.C)]) (S := [(82, arena_sound.K), (53, arena_nodeOf.K), (57, arena_lowOf.K), (50, arena_chain.K)]) (by simpa using ⟨rec_Read.spec, fast_Plain.spec⟩) (by simpa using ⟨arena_sound.jspec.con, arena_nodeOf.jspec.con, arena_lowOf.jspec.con, arena_chain.jspec.con⟩) arena_look.loops) arena_look.at arena_look.nm arena_look.bd ?_ ?_
  · intro vs S pb pv b v news e
    unfold arena_look.J at e
    split at e
    rotate_left
    · cases e
    cases e
    rfl
  intro vs S pb pv b v news e hS
  unfold arena_look.J at e
  split at e
  rotate_left
  · cases e
  cases e
  rw [arena_look.eq]
  unfold arena_look.H
  simp (maxSteps := 4000000) only [go_sem, Nat.reduceEqDiff, Nat.reduceLT, Nat.reduceAdd, Nat.reduceSub, Nat.reduceLeDiff, List.reduceReplicate, Int.reduceToNat, rec_Read.C, fast_Plain.C, arena_sound.K, arena_sound.J, arena_nodeOf.K, arena_nodeOf.J, arena_lowOf.K, arena_lowOf.J, arena_chain.K, arena_chain.J]
  rename_i _ w
  refine ⟨hS, fun hp => ?_, fun hp => ?_⟩
  · rw [Option.isNone_iff_eq_none] at hp
    have : lookO (readB w) w = none := by unfold lookO; rw [hp]
    rw [this]; exact jpost_pan
  obtain ⟨l, hl⟩ : ∃ l, chainO (readB w) w = some l := by
    cases hr : chainO (readB w) w with
    | none => rw [hr] at hp; cases hp
    | some x => exact ⟨x, rfl⟩
  have hlook : lookO (readB w) w = if leavesB w l 0 [] = true then some l else none := by unfold lookO; rw [hl]
  have bad : leavesB w l 0 [] = false → lookO (readB w) w = none := fun h => by rw [hlook, h]; rfl
  have hll : l.length ≤ 65536 := by have := (chainO_some hl).2.2.2.1; have := hS.1; omega
  simp only [hl, Option.getD_some, joinW_eq]
  unfold arena_look.L1
  refine loop2 (σ := Bytes × Nat) (fun s => .str s.1) (fun s => .int .i64 s.2) (fun s => [.row .own 0 (.ints .i64 l)]) (fun s => l.length - s.2) (fun s => s.2 ≤ l.length ∧ leavesB w (l.drop s.2) s.2 s.1 = leavesB w l 0 []) ([], 0) rfl rfl ⟨Nat.zero_le _, by simp⟩ ?_
  rintro I back ⟨last, k⟩ ⟨hk, hlv⟩
  simp only at hk hlv ⊢
  have hout : ¬ (k : Int) < (l.length : Int) → JPost (lookO (readB w) w).isNone corrV true (.sref false 0 0 0 ((lookO (readB w) w).getD []).length) [.row .own 0 (.ints .i64 ((lookO (readB w) w).getD []))] (.ret (.sref false 0 0 0 l.length)) [.row .own 0 (.ints .i64 l)] := by
    intro h
    obtain rfl : k = l.length := by omega
    rw [List.drop_length] at hlv
    have : lookO (readB w) w = some l := by rw [hlook, ← hlv]; rfl
    rw [this]
    exact jpost_ret (post_row rfl (by decide))
  have hlf : k < l.length → leavesB w l 0 [] = match leafO w k last (l.getD k 0) with
      | none => false
      | some low => leavesB w (l.drop (k + 1)) (k + 1) low := by
    intro h
    rw [← hlv, drop_cons l k 0 h]; rfl
  have hpan : k < l.length → leafO w k last (l.getD k 0) = none → ∀ h', JPost (lookO (readB w) w).isNone corrV true (.sref false 0 0 0 ((lookO (readB w) w).getD []).length) [.row .own 0 (.ints .i64 ((lookO (readB w) w).getD []))] (.pan corrV) h' := by
    intro h h2 h'
    rw [bad (by rw [hlf h, h2])]; exact jpost_pan
  have hk0 : decide ((k : Int) = 0) = decide (k = 0) := decide_eq_decide.2 (by omega)
  have hk1 : decide (0 < (k : Int)) = decide (0 < k) := decide_eq_decide.2 (by omega)
  cases hn : nodeO w (l.getD k 0) with
  | none =>
    simp only [arena_nodeOf.J, arena_sound.J, arena_lowOf.J, fast_Plain.C, hn, Option.isNone_none, go_sem, Nat.reduceEqDiff, Nat.reduceLT, Nat.reduceAdd, Nat.reduceSub, Nat.reduceLeDiff, List.reduceReplicate, Int.reduceToNat]
    refine ⟨fun h => ?_, hout⟩
    rw [joinW_eq]
    exact ⟨by omega, by omega, hS, hpan (by omega) (by unfold leafO; rw [hn]) _⟩
  | some n =>
    obtain ⟨n1, n2, n3, n4, n5⟩ := n
    have hok := (nodeO_some hn).1
    have hsl : n5.length ≤ 13 := hok.2.2.2.2.2.2.1
    have hrs : roomy n5.length := by unfold roomy; omega
    cases hw : lowO w ⟨n1, n2, n3, n4, n5⟩ with
    | none =>
      simp only [arena_nodeOf.J, arena_sound.J, arena_lowOf.J, fast_Plain.C, hn, hw, Option.isNone_none, Option.isNone_some, Option.getD_some, go_sem, Nat.reduceEqDiff, Nat.reduceLT, Nat.reduceAdd, Nat.reduceSub, Nat.reduceLeDiff, List.reduceReplicate, Int.reduceToNat]
      refine ⟨fun h => ?_, hout⟩
      rw [joinW_eq]
      exact ⟨by omega, by omega, hS, hS, hpan (by omega) (by unfold leafO; simp only [hn, hw]) _⟩
    | some low =>
      simp only [arena_nodeOf.J, arena_sound.J, arena_lowOf.J, fast_Plain.C, hn, hw, hk0, hk1, Option.isNone_some, Option.getD_some, go_sem, Nat.reduceEqDiff, Nat.reduceLT, Nat.reduceAdd, Nat.reduceSub, Nat.reduceLeDiff, List.reduceReplicate, Int.reduceToNat]
      refine ⟨fun h => ?_, hout⟩
      rw [joinW_eq]
      refine ⟨by omega, by omega, hS, hS, fun hc => hpan (by omega) (by unfold leafO; simp only [hn, hw, hc]; rfl) _, fun hc => ⟨hrs, ?_⟩⟩
      rw [joinW_eq]
      unfold arena_look.L2
      have hpl : (plain n5).length ≤ 13 := Nat.le_trans (plain_len n5) hsl
      refine loop2 (σ := Bytes × Nat) (fun s => .str s.1) (fun s => .int .i64 s.2) (fun s => [.row .own 0 (.ints .i64 l), .box (.agg [.int .i64 n1, .int .i64 n2, .int .i64 n3, .int .i64 n4, .sl false (.ints .i64 n5)])]) (fun s => (plain n5).length - s.2)
        (fun s => s.2 ≤ (plain n5).length ∧ slotsB w low ((plain n5).drop s.2) s.2 s.1 = slotsB w low (plain n5) 0 low) (low, 0) rfl rfl ⟨Nat.zero_le _, by simp⟩ ?_
      rintro I2 back2 ⟨last2, j⟩ ⟨hj, hsb⟩
      simp only at hj hsb ⊢
      have hlo : slotsB w low (plain n5) 0 low = false → leafO w k last (l.getD k 0) = none := fun hs => by
        unfold leafO; simp only [hn, hw, hc, hs]; rfl
      have hso : j < (plain n5).length → slotsB w low (plain n5) 0 low = match recO w ((plain n5).getD j 0) with
          | none => false
          | some x => decide (x.kind = 1) && !ltB x.key low && (decide (j = 0) || ltB last2 x.key) && slotsB w low ((plain n5).drop (j + 1)) (j + 1) (if ltB last2 x.key then x.key else last2) := by
        intro h
        rw [← hsb, drop_cons _ j 0 h]; rfl
      have hj0 : decide ((j : Int) = 0) = decide (j = 0) := decide_eq_decide.2 (by omega)
      have hout2 : ¬ (j : Int) < ((plain n5).length : Int) → ∃ m, m < l.length - k ∧ I m [.str low, .int .i64 (IntKind.i64.wrap ((k : Int) + 1))] [.row .own 0 (.ints .i64 l)] := by
        intro hge
        obtain rfl : j = (plain n5).length := by omega
        rw [List.drop_length] at hsb
        have hs1 : slotsB w low (plain n5) 0 low = true := by rw [← hsb]; rfl
        have hlf' : leafO w k last (l.getD k 0) = some low := by unfold leafO; simp only [hn, hw, hc, hs1]; rfl
        refine back (low, k + 1) (by simp only; omega) (by simp only; rw [wnext (by omega)]) rfl ⟨by simp only; omega, ?_⟩
        simp only
        rw [hlf (by omega), hlf']
      cases hx : recO w ((plain n5).getD j 0) with
      | none =>
        obtain ⟨e, he, hr⟩ := rreadV_none hx
        have hd : decide (e = 0) = false := decide_eq_false he
        simp only [arena_sound.J, rec_Read.C, hr, zeroRc, hd, joinW_eq, guard_tt, guard_tf, guard_ft, guard_ff, Int.reduceEq, Int.reduceLT, Int.reduceLE, decide_false, decide_true, Bool.not_false, Bool.not_true, Bool.not_not, not_true_eq_false, not_false_eq_true, true_implies, false_implies, implies_true, and_true, true_and, reduceCtorEq, Bool.and_self, Bool.or_self, Bool.and_true, Bool.true_and, Bool.false_eq_true, if_true, if_false, go_sem, Nat.reduceEqDiff, Nat.reduceLT, Nat.reduceAdd, Nat.reduceSub, Nat.reduceLeDiff, List.reduceReplicate, Int.reduceToNat]
        exact ⟨fun h2 => ⟨⟨by omega, by omega⟩, hS.roomy, hpan (by omega) (hlo (by rw [hso (by omega), hx])) _⟩, hout2⟩
      | some x =>
        obtain ⟨x1, x2, x3, x4⟩ := x
        simp only [arena_sound.J, rec_Read.C, rreadV_some hx, hj0, go_sem, Nat.reduceEqDiff, Nat.reduceLT, Nat.reduceAdd, Nat.reduceSub, Nat.reduceLeDiff, List.reduceReplicate, Int.reduceToNat]
        refine ⟨fun h2 => ⟨⟨by omega, by omega⟩, hS.roomy, ?_⟩, hout2⟩
        refine ⟨fun h3 => hpan (by omega) (hlo ?_) _, fun h3 => ?_⟩
        · rw [hso (by omega), hx]
          simp only [h3, Bool.false_and]
        · refine back2 (if ltB last2 x2 = true then x2 else last2, j + 1) (by simp only; omega) (by simp only; rw [wnext (by omega)]) rfl ⟨by simp only; omega, ?_⟩
          simp only
          rw [hso (by omega), hx]
          simp only [h3, Bool.true_and]
theorem some_of {α : Type} {x : Option α} (h : x.isNone = false) : ∃ a, x = some a := by
  cases x with
  | none => cases h
  | some a => exact ⟨a, rfl⟩
def leavesV (w : List Int) : AV := match chainO (readB w) w with
  | some l => .tup [.sl false (.ints .i64 l), .int .i64 0]
  | none => .tup [.sl false (.ints .i64 []), .int .i64 110]
def arena_Leaves.C : Contract
  | [.sl _ (.ints .i64 w)] => some (false, pD (smallW w) (leavesV w))
  | _ => none
set_option maxRecDepth 20000 in
set_option maxHeartbeats 1000000 in
theorem arena_Leaves.spec : FSpec Try.prog 17 arena_Leaves.C := by
  refine FSpec.ofD (ctx_ok (F := []) (S := [(50, arena_chain.K)]) (by simp) (by simpa using arena_chain.jspec.con) arena_Leaves.loops) arena_told.tspec arena_Leaves.at arena_Leaves.nm arena_Leaves.bd ?_
  intro vs b S v news e hS
  unfold arena_Leaves.C at e
  split at e
  rotate_left
  · cases e
  cases e
  rw [arena_Leaves.eq]
  unfold arena_Leaves.H
  simp (maxSteps := 4000000) only [go_sem, Nat.reduceEqDiff, Nat.reduceLT, Nat.reduceAdd, Nat.reduceSub, Nat.reduceLeDiff, List.reduceReplicate, Int.reduceToNat, arena_chain.K, arena_chain.J]
  rename_i _ w
  refine ⟨hS, fun hp => ⟨rfl, ?_⟩, fun hp => ?_⟩
  · rw [Option.isNone_iff_eq_none] at hp
    have : leavesV w = .tup [.sl false (.ints .i64 []), .int .i64 110] := by unfold leavesV; rw [hp]
    rw [this]; exact post_val rfl rfl
  · obtain ⟨l, hl⟩ := some_of hp
    have : leavesV w = .tup [.sl false (.ints .i64 l), .int .i64 0] := by unfold leavesV; rw [hl]
    rw [this, hl]
    refine post_val ?_ rfl
    simp only [Option.getD_some, go_sem, Nat.reduceEqDiff, Nat.reduceLT, Nat.reduceAdd, Nat.reduceSub, Nat.reduceLeDiff, List.reduceReplicate, Int.reduceToNat]
def lowV (w : List Int) (b : Int) : AV := match (nodeO w b).bind (lowO w) with
  | some s => .tup [.str s, .int .i64 0]
  | none => .tup [.str [], .int .i64 110]
def arena_Low.C : Contract
  | [.sl _ (.ints .i64 w), .int .i64 b] => some (false, pD (smallW w) (lowV w b))
  | _ => none
set_option maxRecDepth 20000 in
set_option maxHeartbeats 1000000 in
theorem arena_Low.spec : FSpec Try.prog 22 arena_Low.C := by
  refine FSpec.ofD (ctx_ok (F := []) (S := [(53, arena_nodeOf.K), (57, arena_lowOf.K)]) (by simp) (by simpa using ⟨arena_nodeOf.jspec.con, arena_lowOf.jspec.con⟩) arena_Low.loops) arena_told.tspec arena_Low.at arena_Low.nm arena_Low.bd ?_
  intro vs b S v news e hS
  unfold arena_Low.C at e
  split at e
  rotate_left
  · cases e
  cases e
  rw [arena_Low.eq]
  unfold arena_Low.H
  simp (maxSteps := 4000000) only [go_sem, Nat.reduceEqDiff, Nat.reduceLT, Nat.reduceAdd, Nat.reduceSub, Nat.reduceLeDiff, List.reduceReplicate, Int.reduceToNat, arena_nodeOf.K, arena_nodeOf.J, arena_lowOf.K, arena_lowOf.J]
  rename_i _ w b
  have e0 : ∀ n : Nd, (⟨n.level, n.turn, n.next, n.low, n.slots⟩ : Nd) = n := fun n => rfl
  refine ⟨hS, fun hp => ⟨rfl, ?_⟩, fun hp => ⟨hS, ?_⟩⟩
  · rw [Option.isNone_iff_eq_none] at hp
    have : lowV w b = .tup [.str [], .int .i64 110] := by unfold lowV; rw [hp]; rfl
    rw [this]; exact post_val rfl rfl
  · obtain ⟨n, hn⟩ := some_of hp
    simp only [hn, Option.getD_some, e0]
    refine ⟨fun hq => ⟨rfl, ?_⟩, fun hq => ?_⟩
    · rw [Option.isNone_iff_eq_none] at hq
      have : lowV w b = .tup [.str [], .int .i64 110] := by unfold lowV; rw [hn]; simp only [Option.bind_some, hq]
      rw [this]; exact post_val rfl rfl
    · obtain ⟨s, hs⟩ := some_of hq
      have : lowV w b = .tup [.str s, .int .i64 0] := by unfold lowV; rw [hn]; simp only [Option.bind_some, hs]
      rw [this, hs]; exact post_val rfl rfl
def checkI (w : List Int) : Int := if (lookO (readB w) w).isSome = true then 0 else 110
def arena_Check.C : Contract
  | [.sl _ (.ints .i64 w)] => some (false, pD (smallW w) (.int .i64 (checkI w)))
  | _ => none
set_option maxRecDepth 20000 in
set_option maxHeartbeats 1000000 in
theorem arena_Check.spec : FSpec Try.prog 19 arena_Check.C := by
  refine FSpec.ofD (ctx_ok (F := []) (S := [(51, arena_look.K)]) (by simp) (by simpa using arena_look.jspec.con) arena_Check.loops) arena_told.tspec arena_Check.at arena_Check.nm arena_Check.bd ?_
  intro vs b S v news e hS
  unfold arena_Check.C at e
  split at e
  rotate_left
  · cases e
  cases e
  rw [arena_Check.eq]
  unfold arena_Check.H
  simp (maxSteps := 4000000) only [go_sem, Nat.reduceEqDiff, Nat.reduceLT, Nat.reduceAdd, Nat.reduceSub, Nat.reduceLeDiff, List.reduceReplicate, Int.reduceToNat, arena_look.K, arena_look.J]
  rename_i _ w
  refine ⟨hS, fun hp => ⟨rfl, ?_⟩, fun hp => ?_⟩
  · rw [Option.isNone_iff_eq_none] at hp
    have : checkI w = 110 := by unfold checkI; rw [hp]; rfl
    rw [this]; exact post_val rfl rfl
  · obtain ⟨l, hl⟩ := some_of hp
    have : checkI w = 0 := by unfold checkI; rw [hl]; rfl
    rw [this]; exact post_val rfl rfl
end Lam
namespace Lam
open Go Go.Proofs
set_option linter.unusedVariables false
set_option linter.unnecessarySimpa false
set_option linter.unusedSimpArgs false
def arena_reach_node.K : Con := fun args h K => match args with
  | [.ptr id [], .agg [.int .i64 n1, .int .i64 n2, .int .i64 n3, .int .i64 n4, .sl x (.ints .i64 n5)], .int .i64 b] =>
    ∃ w i j m1 m2, h[id]? = some (rbox w i j) ∧ h[i]? = some (.map (.ib m1)) ∧ h[j]? = some (.map (.ib m2)) ∧ [id, i, j].Nodup ∧ n5.length ≤ 65536 ∧
      K (.ret (.tup [])) ((h.set i (.map (.ib (markN m1 ⟨n1, n2, n3, n4, n5⟩ b)))).set j (.map (.ib m2)))
  | _ => False
set_option maxRecDepth 20000 in
theorem arena_reach_node.spec : SSpec Try.prog 52 arena_reach_node.K := by
  refine ⟨fun args h K hC X cs H hXh hv => ?_⟩
  unfold arena_reach_node.K at hC
  split at hC
  rotate_left
  · exact hC.elim
  rename_i id n1 n2 n3 n4 x n5 b
  obtain ⟨w, i, j, m1, m2, h0, h1, h2, hnd, hl, hK⟩ := hC
  subst hXh
  have hw : funW (ctx [] [] arena_reach_node.loops) Try.f52 [.ptr 0 [], .agg [.int .i64 n1, .int .i64 n2, .int .i64 n3, .int .i64 n4, .sl x (.ints .i64 n5)], .int .i64 b]
      (rbox w 1 2 :: .map (.ib m1) :: .map (.ib m2) :: ([] : List AV).map .box) (fun ao h' => ao = .ret (.tup []) ∧ ∃ m1' m2' tl, h' = rbox w 1 2 :: .map (.ib m1') :: .map (.ib m2') :: (([] : List AV).map .box ++ tl) ∧ (m1' = markN m1 ⟨n1, n2, n3, n4, n5⟩ b ∧ m2' = m2)) := by
    rw [arena_reach_node.eq]
    unfold arena_reach_node.H
    simp only [rbox, List.map_nil, go_sem, Nat.reduceEqDiff, Nat.reduceLT, Nat.reduceAdd, Nat.reduceSub, Nat.reduceLeDiff, List.reduceReplicate, Int.reduceToNat]
    rw [joinW_eq]
    refine ⟨fun h4 => ?_, fun h4 => ?_⟩
    · generalize hm : (fun j => if j = n4 then true else if j = b then true else m1 j) = m
      have hm' : ∀ k, m k = (m1 k || decide (k = b) || (!decide (n4 = 0) && decide (k = n4))) := by
        intro k; rw [← hm]
        by_cases e1 : k = n4
        · simp [e1, h4]
        · by_cases e2 : k = b
          · simp [e2]
          · simp [e1, e2]
      clear hm
      simp only [joinW_eq, go_sem, Nat.reduceEqDiff, Nat.reduceLT, Nat.reduceAdd, Nat.reduceSub, Nat.reduceLeDiff, List.reduceReplicate, Int.reduceToNat]
      unfold arena_reach_node.L1
      refine loop1 (σ := Nat) (fun k => .int .i64 k) (fun k => [.box (.agg [.sl false (.ints .i64 w), .map 1, .map 2]), .map (.ib fun j => m j || decide (j ∈ n5.take k)), .map (.ib m2), .box (.agg [.int .i64 n1, .int .i64 n2, .int .i64 n3, .int .i64 n4, .sl false (.ints .i64 n5)])]) (fun k => n5.length - k) (fun k => k ≤ n5.length) 0 rfl (by simp) (Nat.zero_le _) ?_
      intro I back k hk
      simp only [go_sem, Nat.reduceEqDiff, Nat.reduceLT, Nat.reduceAdd, Nat.reduceSub, Nat.reduceLeDiff, List.reduceReplicate, Int.reduceToNat]
      have hN : (fun j => m j || decide (j ∈ n5)) = markN m1 ⟨n1, n2, n3, n4, n5⟩ b := by
        funext j; unfold markN; rw [hm' j]
      refine ⟨fun hlt => ⟨by omega, back (k + 1) (by omega) (by rw [wnext (by omega)]) ?_ (by omega)⟩, fun hge => ?_⟩
      · have hf : (fun j => if j = n5.getD k 0 then true else m j || decide (j ∈ n5.take k)) = fun j => m j || decide (j ∈ n5.take (k + 1)) := by
          funext j
          rw [take_next n5 k 0 (by omega)]
          by_cases e : j = n5.getD k 0
          · simp [e]
          · rw [if_neg e, show decide (j ∈ n5.take k ++ [n5.getD k 0]) = decide (j ∈ n5.take k) from decide_eq_decide.2 ⟨fun h => by
              rcases List.mem_append.1 h with h | h
              · exact h
              · exact absurd (List.mem_singleton.1 h) e, fun h => List.mem_append_left _ h⟩]
        rw [hf]
      · obtain rfl : k = n5.length := by omega
        rw [List.take_length, hN]
        exact ⟨_, _, _, rfl, rfl, rfl⟩
    · generalize hm : (fun j => if j = b then true else m1 j) = m
      have hm' : ∀ k, m k = (m1 k || decide (k = b) || (!decide (n4 = 0) && decide (k = n4))) := by
        intro k; rw [← hm]
        by_cases e2 : k = b
        · simp [e2]
        · simp [e2, h4]
      clear hm
      simp only [joinW_eq, go_sem, Nat.reduceEqDiff, Nat.reduceLT, Nat.reduceAdd, Nat.reduceSub, Nat.reduceLeDiff, List.reduceReplicate, Int.reduceToNat]
      unfold arena_reach_node.L1
      refine loop1 (σ := Nat) (fun k => .int .i64 k) (fun k => [.box (.agg [.sl false (.ints .i64 w), .map 1, .map 2]), .map (.ib fun j => m j || decide (j ∈ n5.take k)), .map (.ib m2), .box (.agg [.int .i64 n1, .int .i64 n2, .int .i64 n3, .int .i64 n4, .sl false (.ints .i64 n5)])]) (fun k => n5.length - k) (fun k => k ≤ n5.length) 0 rfl (by simp) (Nat.zero_le _) ?_
      intro I back k hk
      simp only [go_sem, Nat.reduceEqDiff, Nat.reduceLT, Nat.reduceAdd, Nat.reduceSub, Nat.reduceLeDiff, List.reduceReplicate, Int.reduceToNat]
      have hN : (fun j => m j || decide (j ∈ n5)) = markN m1 ⟨n1, n2, n3, n4, n5⟩ b := by
        funext j; unfold markN; rw [hm' j]
      refine ⟨fun hlt => ⟨by omega, back (k + 1) (by omega) (by rw [wnext (by omega)]) ?_ (by omega)⟩, fun hge => ?_⟩
      · have hf : (fun j => if j = n5.getD k 0 then true else m j || decide (j ∈ n5.take k)) = fun j => m j || decide (j ∈ n5.take (k + 1)) := by
          funext j
          rw [take_next n5 k 0 (by omega)]
          by_cases e : j = n5.getD k 0
          · simp [e]
          · rw [if_neg e, show decide (j ∈ n5.take k ++ [n5.getD k 0]) = decide (j ∈ n5.take k) from decide_eq_decide.2 ⟨fun h => by
              rcases List.mem_append.1 h with h | h
              · exact h
              · exact absurd (List.mem_singleton.1 h) e, fun h => List.mem_append_left _ h⟩]
        rw [hf]
      · obtain rfl : k = n5.length := by omega
        rw [List.take_length, hN]
        exact ⟨_, _, _, rfl, rfl, rfl⟩
  have hargs : ∀ X0, SubC X X0 (id :: i :: j :: []) → X0.h = rbox w 1 2 :: .map (.ib m1) :: .map (.ib m2) :: ([] : List AV).map .box → VVs X0 [.ptr 0 [], .agg [.int .i64 n1, .int .i64 n2, .int .i64 n3, .int .i64 n4, .sl x (.ints .i64 n5)], .int .i64 b] cs.toList := by
    intro X0 s hX0
    simp only [VVs] at hv ⊢
    obtain ⟨c1, r1, e1, q1, c2, r2, rfl, q2, c3, r3, rfl, q3, rfl⟩ := hv
    exact ⟨c1, _, e1, ptr_sub s rfl (by rw [hX0]; rfl) q1, c2, _, rfl, closed_sub s rfl q2, c3, _, rfl, closed_sub s rfl q3, rfl⟩
  obtain ⟨g1, g2⟩ := reach_call (ctx_ok (by simp) (by simp) _) arena_reach_node.at arena_reach_node.nm arena_reach_node.bd hw H h0 h1 h2 rfl (by simp) hnd hargs
  refine ⟨g1, g2.mono fun e w' he => ?_⟩
  obtain ⟨Y, ao, rfl, HY, EY, ho, m1', m2', ⟨rfl, rfl⟩, rfl, hY⟩ := he
  exact ⟨Y, _, rfl, HY, EY, ho, by rw [hY]; exact hK⟩
/-- blocks that were not gone through -/
def unseen (m : Int → Bool) (w : List Int) : Nat := (List.range (w.length / 16)).countP fun k : Nat => !m (k : Int)
theorem unseen_mono {m m' : Int → Bool} {w : List Int} (h : ∀ k, m k = true → m' k = true) : unseen m' w ≤ unseen m w := by
  unfold unseen
  refine List.countP_mono_left fun k _ hk => ?_
  simp only [Bool.not_eq_true'] at hk ⊢
  cases e : m (k : Int) with
  | false => rfl
  | true => rw [h _ e] at hk; cases hk
def arena_Reach_1.C : Contract
  | [.int .i64 n] => some (false, pD True (.bool true))
  | _ => none
theorem arena_Reach_1.spec : FSpec Try.prog 56 arena_Reach_1.C := by
  refine FSpec.of (ctx_ok (F := []) (S := []) (by simp) (by simp) arena_Reach_1.loops) arena_Reach_1.at arena_Reach_1.nm arena_Reach_1.bd ?_
  intro vs b S v news e hS
  unfold arena_Reach_1.C at e
  split at e
  rotate_left
  · cases e
  rw [arena_Reach_1.eq]
  cases e
  exact post_val rfl rfl
def arena_reach_higher_1.K : Con := fun args h K => match args with
  | [a0, a1] => arena_reach_higher_1.H (ctx [] [] arena_reach_higher_1.loops) a0 a1 h K
  | _ => False
theorem arena_reach_higher_1.spec : SSpec Try.prog 85 arena_reach_higher_1.K := by
  refine SSpec.of (ctx_ok (F := []) (S := []) (by simp) (by simp) arena_reach_higher_1.loops) arena_reach_higher_1.at arena_reach_higher_1.nm arena_reach_higher_1.bd ?_
  intro args h K hC
  unfold arena_reach_higher_1.K at hC
  split at hC
  · rw [arena_reach_higher_1.eq]; exact hC
  · exact hC.elim
def arena_reach_higher_2.K : Con := fun args h K => match args with
  | [a0, a1] => arena_reach_higher_2.H (ctx [] [] arena_reach_higher_2.loops) a0 a1 h K
  | _ => False
theorem arena_reach_higher_2.spec : SSpec Try.prog 86 arena_reach_higher_2.K := by
  refine SSpec.of (ctx_ok (F := []) (S := []) (by simp) (by simp) arena_reach_higher_2.loops) arena_reach_higher_2.at arena_reach_higher_2.nm arena_reach_higher_2.bd ?_
  intro args h K hC
  unfold arena_reach_higher_2.K at hC
  split at hC
  · rw [arena_reach_higher_2.eq]; exact hC
  · exact hC.elim
end Lam
namespace Lam
open Go Go.Proofs
set_option linter.unusedVariables false
set_option linter.unnecessarySimpa false
set_option linter.unusedSimpArgs false
def higherP (w : List Int) (b : Int) (m1 m2 m1' m2' : Int → Bool) : Prop := (∀ k, m1 k = true → m1' k = true) ∧ (∀ k, m2 k = true → m2' k = true) ∧ ((∀ nd, nodeO w b = some nd → nd.level = 0) → m1' = m1)
theorem higherP.refl {w : List Int} {b : Int} {m1 m2 : Int → Bool} : higherP w b m1 m2 m1 m2 := ⟨fun _ h => h, fun _ h => h, fun _ => rfl⟩
def higherK (n : Nat) : Con := fun args h K => match args with
  | [.ptr id [], .int .i64 b, .fn (.func f) [] cap] => ∃ w i j m1 m2, h[id]? = some (rbox w i j) ∧ h[i]? = some (.map (.ib m1)) ∧ h[j]? = some (.map (.ib m2)) ∧ smallW w ∧ unseen m2 w < n ∧
      ((f = 56 ∧ cap = [] ∧ [id, i, j].Nodup) ∨ ((f = 85 ∨ f = 86) ∧ ∃ q n1 n2 n3 n4 n5, cap = [.ptr q []] ∧ [id, i, j, q].Nodup ∧ h[q]? = some (.box (.agg [.int .i64 n1, .int .i64 n2, .int .i64 n3, .int .i64 n4, .sl false (.ints .i64 n5)])))) ∧
      ∀ m1' m2', higherP w b m1 m2 m1' m2' → K (.ret (.tup [])) ((h.set i (.map (.ib m1'))).set j (.map (.ib m2')))
  | _ => False
abbrev higher_ctx (n : Nat) : Ctx := ctx [(23, node_Read.C), (37, rec_Read.C), (56, arena_Reach_1.C)] [(52, arena_reach_node.K), (55, higherK n), (85, arena_reach_higher_1.K), (86, arena_reach_higher_2.K)] arena_reach_higher.loops
theorem unseen_less {m : Int → Bool} {w : List Int} {b : Int} (h0 : 0 ≤ b) (h1 : b < ((w.length / 16 : Nat) : Int)) (h : m b = false) : unseen (fun j => if j = b then true else m j) w < unseen m w := by
  obtain ⟨b, rfl⟩ := Int.eq_ofNat_of_zero_le h0
  unfold unseen
  have hm : b ∈ List.range (w.length / 16) := List.mem_range.2 (by omega)
  obtain ⟨p, q, e⟩ := List.append_of_mem hm
  have hn : (List.range (w.length / 16)).Nodup := List.nodup_range
  rw [e] at hn ⊢
  have hpb : b ∉ p := fun hp => (List.nodup_append.1 hn).2.2 b hp b (by simp) rfl
  have hqb : b ∉ q := by
    have := (List.nodup_append.1 hn).2.1
    exact (List.nodup_cons.1 this).1
  have c1 : ∀ l : List Nat, b ∉ l → (l.countP fun k : Nat => !(if (k : Int) = (b : Int) then true else m (k : Int))) = l.countP fun k : Nat => !m (k : Int) := by
    intro l hl
    refine List.countP_congr fun k hk => ?_
    rw [if_neg]
    intro e; apply hl
    have : k = b := by omega
    rw [← this]; exact hk
  simp only [List.countP_append, List.countP_cons, c1 p hpb, c1 q hqb, h]
  simp

set_option maxRecDepth 20000 in
set_option maxHeartbeats 1000000 in
theorem higher_vcA (n : Nat) (w : List Int) (b : Int) (mv : AV) (m1 m2 : Int → Bool) (hS : smallW w) (hun : unseen m2 w < n + 1)
    (hmay : ∀ (m1 m2 : Int → Bool) (tl : List AObj) (lv : Int) (K KP : AV → List AObj → Prop), (∀ bm, K (.bool bm) (rbox w 1 2 :: .map (.ib m1) :: .map (.ib m2) :: [] ++ tl)) → callW false (higher_ctx n) mv [.int .i64 lv] (rbox w 1 2 :: .map (.ib m1) :: .map (.ib m2) :: [] ++ tl) K KP) :
    arena_reach_higher.H (higher_ctx n) (.ptr 0 []) (.int .i64 b) mv (rbox w 1 2 :: .map (.ib m1) :: .map (.ib m2) :: []) (fun ao h' => ao = .ret (.tup []) ∧ ∃ m1' m2' tl, h' = rbox w 1 2 :: .map (.ib m1') :: .map (.ib m2') :: ([] ++ tl) ∧ higherP w b m1 m2 m1' m2') := by
  unfold arena_reach_higher.H
  cases hn : nodeO w b with
  | none =>
    obtain ⟨e, he, hr⟩ := readV_none hn
    simp only [rbox, node_Read.C, hr, zeroNd, he, joinW_eq, joinW_eq, guard_tt, guard_tf, guard_ft, guard_ff, Int.reduceEq, Int.reduceLT, Int.reduceLE, decide_false, decide_true, Bool.not_false, Bool.not_true, Bool.not_not, not_true_eq_false, not_false_eq_true, true_implies, false_implies, implies_true, and_true, true_and, reduceCtorEq, Bool.and_self, Bool.or_self, Bool.and_true, Bool.true_and, Bool.false_eq_true, if_true, if_false, go_sem, Nat.reduceEqDiff, Nat.reduceLT, Nat.reduceAdd, Nat.reduceSub, Nat.reduceLeDiff, List.reduceReplicate, Int.reduceToNat]
    exact ⟨hS.roomy, _, _, _, rfl, higherP.refl⟩
  | some nd =>
    obtain ⟨n1, n2, n3, n4, n5⟩ := nd
    obtain ⟨hok, hb0, hb1, _⟩ := nodeO_some hn
    have hsl : n5.length ≤ 13 := hok.2.2.2.2.2.2.1
    by_cases hl : n1 = 0
    · simp only [rbox, node_Read.C, readV_some hn, joinW_eq, hl, joinW_eq, guard_tt, guard_tf, guard_ft, guard_ff, Int.reduceEq, Int.reduceLT, Int.reduceLE, decide_false, decide_true, Bool.not_false, Bool.not_true, Bool.not_not, not_true_eq_false, not_false_eq_true, true_implies, false_implies, implies_true, and_true, true_and, reduceCtorEq, Bool.and_self, Bool.or_self, Bool.and_true, Bool.true_and, Bool.false_eq_true, if_true, if_false, go_sem, Nat.reduceEqDiff, Nat.reduceLT, Nat.reduceAdd, Nat.reduceSub, Nat.reduceLeDiff, List.reduceReplicate, Int.reduceToNat]
      exact ⟨hS.roomy, _, _, _, rfl, higherP.refl⟩
    · have hhp : ∀ m1' m2' : Int → Bool, (∀ k, m1 k = true → m1' k = true) → (∀ k, m2 k = true → m2' k = true) → higherP w b m1 m2 m1' m2' := fun m1' m2' h1 h2 => ⟨h1, h2, fun h => absurd (h _ hn) hl⟩
      simp only [rbox, node_Read.C, readV_some hn, joinW_eq, hl, joinW_eq, guard_tt, guard_tf, guard_ft, guard_ff, Int.reduceEq, Int.reduceLT, Int.reduceLE, decide_false, decide_true, Bool.not_false, Bool.not_true, Bool.not_not, not_true_eq_false, not_false_eq_true, true_implies, false_implies, implies_true, and_true, true_and, reduceCtorEq, Bool.and_self, Bool.or_self, Bool.and_true, Bool.true_and, Bool.false_eq_true, if_true, if_false, go_sem, Nat.reduceEqDiff, Nat.reduceLT, Nat.reduceAdd, Nat.reduceSub, Nat.reduceLeDiff, List.reduceReplicate, Int.reduceToNat]
      refine ⟨hS.roomy, hmay m1 m2 [.box (.agg [.int .i64 n1, .int .i64 n2, .int .i64 n3, .int .i64 n4, .sl false (.ints .i64 n5)])] n1 _ _ fun bm => ?_⟩
      cases bm with
      | false =>
        simp only [rbox, List.cons_append, List.nil_append, joinW_eq, guard_tt, guard_tf, guard_ft, guard_ff, Int.reduceEq, Int.reduceLT, Int.reduceLE, decide_false, decide_true, Bool.not_false, Bool.not_true, Bool.not_not, not_true_eq_false, not_false_eq_true, true_implies, false_implies, implies_true, and_true, true_and, reduceCtorEq, Bool.and_self, Bool.or_self, Bool.and_true, Bool.true_and, Bool.false_eq_true, if_true, if_false, go_sem, Nat.reduceEqDiff, Nat.reduceLT, Nat.reduceAdd, Nat.reduceSub, Nat.reduceLeDiff, List.reduceReplicate, Int.reduceToNat]
        exact ⟨_, _, _, rfl, higherP.refl⟩
      | true =>
        simp only [rbox, List.cons_append, List.nil_append, joinW_eq, guard_tt, guard_tf, guard_ft, guard_ff, Int.reduceEq, Int.reduceLT, Int.reduceLE, decide_false, decide_true, Bool.not_false, Bool.not_true, Bool.not_not, not_true_eq_false, not_false_eq_true, true_implies, false_implies, implies_true, and_true, true_and, reduceCtorEq, Bool.and_self, Bool.or_self, Bool.and_true, Bool.true_and, Bool.false_eq_true, if_true, if_false, go_sem, Nat.reduceEqDiff, Nat.reduceLT, Nat.reduceAdd, Nat.reduceSub, Nat.reduceLeDiff, List.reduceReplicate, Int.reduceToNat]
        refine ⟨fun hs => ⟨_, _, _, rfl, higherP.refl⟩, fun hs => ?_⟩
        have hlt := unseen_less hb0 hb1 hs
        unfold arena_reach_node.K
        refine ⟨w, 1, 2, m1, _, rfl, rfl, rfl, by decide, by omega, ?_⟩
        have hm1 : ∀ k, m1 k = true → markN m1 ⟨n1, n2, n3, n4, n5⟩ b k = true := fun k h => by unfold markN; rw [h]; rfl
        have hm2 : ∀ k, m2 k = true → (fun j => if j = b then true else m2 j) k = true := fun k h => by
          show (if k = b then true else m2 k) = true
          split
          · rfl
          · exact h
        simp only [rbox, joinW_eq, guard_tt, guard_tf, guard_ft, guard_ff, Int.reduceEq, Int.reduceLT, Int.reduceLE, decide_false, decide_true, Bool.not_false, Bool.not_true, Bool.not_not, not_true_eq_false, not_false_eq_true, true_implies, false_implies, implies_true, and_true, true_and, reduceCtorEq, Bool.and_self, Bool.or_self, Bool.and_true, Bool.true_and, Bool.false_eq_true, if_true, if_false, go_sem, Nat.reduceEqDiff, Nat.reduceLT, Nat.reduceAdd, Nat.reduceSub, Nat.reduceLeDiff, List.reduceReplicate, Int.reduceToNat]
        generalize markN m1 ⟨n1, n2, n3, n4, n5⟩ b = a1 at *
        generalize (fun j => if j = b then true else m2 j) = a2 at *
        unfold arena_reach_higher.L1
        refine loop1 (σ := (Int → Bool) × (Int → Bool) × Nat) (fun s => .int .i64 s.2.2) (fun s => .box (.agg [.sl false (.ints .i64 w), .map 1, .map 2]) :: .map (.ib s.1) :: .map (.ib s.2.1) ::  [.box (.agg [.int .i64 n1, .int .i64 n2, .int .i64 n3, .int .i64 n4, .sl false (.ints .i64 n5)])]) (fun s => n5.length - s.2.2)
          (fun s => s.2.2 ≤ n5.length ∧ (∀ k, m1 k = true → s.1 k = true) ∧ (∀ k, m2 k = true → s.2.1 k = true) ∧ unseen s.2.1 w < n) (a1, a2, 0) rfl rfl ⟨Nat.zero_le _, hm1, hm2, by show unseen a2 w < n; omega⟩ ?_
        rintro I back ⟨s1, s2, k⟩ ⟨hk, hs1, hs2, hsn⟩
        simp only at hk hs1 hs2 hsn ⊢
        have hfin : ∀ m1' m2' : Int → Bool, (∀ k, s1 k = true → m1' k = true) → (∀ k, s2 k = true → m2' k = true) → higherP w b m1 m2 m1' m2' := fun m1' m2' h1 h2 => hhp _ _ (fun k h => h1 k (hs1 k h)) (fun k h => h2 k (hs2 k h))
        have hex : ¬ (k : Int) < (n5.length : Int) → k = n5.length := fun h => by omega
        cases hx : recO w (n5.getD k 0) with
        | none =>
          obtain ⟨e, he, hr⟩ := rreadV_none hx
          simp only [rec_Read.C, hr, zeroRc, he, joinW_eq, guard_tt, guard_tf, guard_ft, guard_ff, Int.reduceEq, Int.reduceLT, Int.reduceLE, decide_false, decide_true, Bool.not_false, Bool.not_true, Bool.not_not, not_true_eq_false, not_false_eq_true, true_implies, false_implies, implies_true, and_true, true_and, reduceCtorEq, Bool.and_self, Bool.or_self, Bool.and_true, Bool.true_and, Bool.false_eq_true, if_true, if_false, go_sem, Nat.reduceEqDiff, Nat.reduceLT, Nat.reduceAdd, Nat.reduceSub, Nat.reduceLeDiff, List.reduceReplicate, Int.reduceToNat]
          refine ⟨fun h => ⟨⟨by omega, by omega⟩, hS.roomy, back (s1, s2, k + 1) (by simp only; omega) (by simp only; rw [wnext (by omega)]) rfl ⟨by simp only; omega, hs1, hs2, hsn⟩⟩, fun h => ⟨fun h3 => ?_, fun h3 => ⟨_, _, _, rfl, hfin _ _ (fun _ h => h) (fun _ h => h)⟩⟩⟩
          unfold higherK
          refine ⟨w, 1, 2, s1, s2, rfl, rfl, rfl, hS, hsn, .inr ⟨.inr rfl, 3, n1, n2, n3, n4, n5, rfl, by decide, rfl⟩, fun m1' m2' hp => ⟨_, _, _, rfl, hfin _ _ hp.1 hp.2.1⟩⟩
        | some x =>
          obtain ⟨x1, x2, x3, x4⟩ := x
          simp only [rec_Read.C, rreadV_some hx, joinW_eq, guard_tt, guard_tf, guard_ft, guard_ff, Int.reduceEq, Int.reduceLT, Int.reduceLE, decide_false, decide_true, Bool.not_false, Bool.not_true, Bool.not_not, not_true_eq_false, not_false_eq_true, true_implies, false_implies, implies_true, and_true, true_and, reduceCtorEq, Bool.and_self, Bool.or_self, Bool.and_true, Bool.true_and, Bool.false_eq_true, if_true, if_false, go_sem, Nat.reduceEqDiff, Nat.reduceLT, Nat.reduceAdd, Nat.reduceSub, Nat.reduceLeDiff, List.reduceReplicate, Int.reduceToNat]
          refine ⟨fun h => ⟨⟨by omega, by omega⟩, hS.roomy, fun h2 => ?_, fun h2 => back (s1, s2, k + 1) (by simp only; omega) (by simp only; rw [wnext (by omega)]) rfl ⟨by simp only; omega, hs1, hs2, hsn⟩⟩, fun h => ⟨fun h3 => ?_, fun h3 => ⟨_, _, _, rfl, hfin _ _ (fun _ h => h) (fun _ h => h)⟩⟩⟩
          · unfold higherK
            refine ⟨w, 1, 2, s1, s2, rfl, rfl, rfl, hS, hsn, .inr ⟨.inl rfl, 3, n1, n2, n3, n4, n5, rfl, by decide, rfl⟩, fun m1' m2' hp => ?_⟩
            simp only [rbox, joinW_eq, guard_tt, guard_tf, guard_ft, guard_ff, Int.reduceEq, Int.reduceLT, Int.reduceLE, decide_false, decide_true, Bool.not_false, Bool.not_true, Bool.not_not, not_true_eq_false, not_false_eq_true, true_implies, false_implies, implies_true, and_true, true_and, reduceCtorEq, Bool.and_self, Bool.or_self, Bool.and_true, Bool.true_and, Bool.false_eq_true, if_true, if_false, go_sem, Nat.reduceEqDiff, Nat.reduceLT, Nat.reduceAdd, Nat.reduceSub, Nat.reduceLeDiff, List.reduceReplicate, Int.reduceToNat]
            exact back (m1', m2', k + 1) (by simp only; omega) (by simp only; rw [wnext (by omega)]) rfl ⟨by simp only; omega, fun k h => hp.1 k (hs1 k h), fun k h => hp.2.1 k (hs2 k h), Nat.lt_of_le_of_lt (unseen_mono hp.2.1) hsn⟩
          · unfold higherK
            refine ⟨w, 1, 2, s1, s2, rfl, rfl, rfl, hS, hsn, .inr ⟨.inr rfl, 3, n1, n2, n3, n4, n5, rfl, by decide, rfl⟩, fun m1' m2' hp => ⟨_, _, _, rfl, hfin _ _ hp.1 hp.2.1⟩⟩

set_option maxRecDepth 20000 in
set_option maxHeartbeats 1000000 in
theorem higher_vcB (n : Nat) (w : List Int) (b : Int) (mv : AV) (e1 e2 e3 e4 : Int) (e5 : List Int) (m1 m2 : Int → Bool) (hS : smallW w) (hun : unseen m2 w < n + 1)
    (hmay : ∀ (m1 m2 : Int → Bool) (tl : List AObj) (lv : Int) (K KP : AV → List AObj → Prop), (∀ bm, K (.bool bm) (rbox w 1 2 :: .map (.ib m1) :: .map (.ib m2) :: [AObj.box (.agg [.int .i64 e1, .int .i64 e2, .int .i64 e3, .int .i64 e4, .sl false (.ints .i64 e5)])] ++ tl)) → callW false (higher_ctx n) mv [.int .i64 lv] (rbox w 1 2 :: .map (.ib m1) :: .map (.ib m2) :: [AObj.box (.agg [.int .i64 e1, .int .i64 e2, .int .i64 e3, .int .i64 e4, .sl false (.ints .i64 e5)])] ++ tl) K KP) :
    arena_reach_higher.H (higher_ctx n) (.ptr 0 []) (.int .i64 b) mv (rbox w 1 2 :: .map (.ib m1) :: .map (.ib m2) :: [AObj.box (.agg [.int .i64 e1, .int .i64 e2, .int .i64 e3, .int .i64 e4, .sl false (.ints .i64 e5)])]) (fun ao h' => ao = .ret (.tup []) ∧ ∃ m1' m2' tl, h' = rbox w 1 2 :: .map (.ib m1') :: .map (.ib m2') :: ([AObj.box (.agg [.int .i64 e1, .int .i64 e2, .int .i64 e3, .int .i64 e4, .sl false (.ints .i64 e5)])] ++ tl) ∧ higherP w b m1 m2 m1' m2') := by
  unfold arena_reach_higher.H
  cases hn : nodeO w b with
  | none =>
    obtain ⟨e, he, hr⟩ := readV_none hn
    simp only [rbox, node_Read.C, hr, zeroNd, he, joinW_eq, joinW_eq, guard_tt, guard_tf, guard_ft, guard_ff, Int.reduceEq, Int.reduceLT, Int.reduceLE, decide_false, decide_true, Bool.not_false, Bool.not_true, Bool.not_not, not_true_eq_false, not_false_eq_true, true_implies, false_implies, implies_true, and_true, true_and, reduceCtorEq, Bool.and_self, Bool.or_self, Bool.and_true, Bool.true_and, Bool.false_eq_true, if_true, if_false, go_sem, Nat.reduceEqDiff, Nat.reduceLT, Nat.reduceAdd, Nat.reduceSub, Nat.reduceLeDiff, List.reduceReplicate, Int.reduceToNat]
    exact ⟨hS.roomy, _, _, _, rfl, higherP.refl⟩
  | some nd =>
    obtain ⟨n1, n2, n3, n4, n5⟩ := nd
    obtain ⟨hok, hb0, hb1, _⟩ := nodeO_some hn
    have hsl : n5.length ≤ 13 := hok.2.2.2.2.2.2.1
    by_cases hl : n1 = 0
    · simp only [rbox, node_Read.C, readV_some hn, joinW_eq, hl, joinW_eq, guard_tt, guard_tf, guard_ft, guard_ff, Int.reduceEq, Int.reduceLT, Int.reduceLE, decide_false, decide_true, Bool.not_false, Bool.not_true, Bool.not_not, not_true_eq_false, not_false_eq_true, true_implies, false_implies, implies_true, and_true, true_and, reduceCtorEq, Bool.and_self, Bool.or_self, Bool.and_true, Bool.true_and, Bool.false_eq_true, if_true, if_false, go_sem, Nat.reduceEqDiff, Nat.reduceLT, Nat.reduceAdd, Nat.reduceSub, Nat.reduceLeDiff, List.reduceReplicate, Int.reduceToNat]
      exact ⟨hS.roomy, _, _, _, rfl, higherP.refl⟩
    · have hhp : ∀ m1' m2' : Int → Bool, (∀ k, m1 k = true → m1' k = true) → (∀ k, m2 k = true → m2' k = true) → higherP w b m1 m2 m1' m2' := fun m1' m2' h1 h2 => ⟨h1, h2, fun h => absurd (h _ hn) hl⟩
      simp only [rbox, node_Read.C, readV_some hn, joinW_eq, hl, joinW_eq, guard_tt, guard_tf, guard_ft, guard_ff, Int.reduceEq, Int.reduceLT, Int.reduceLE, decide_false, decide_true, Bool.not_false, Bool.not_true, Bool.not_not, not_true_eq_false, not_false_eq_true, true_implies, false_implies, implies_true, and_true, true_and, reduceCtorEq, Bool.and_self, Bool.or_self, Bool.and_true, Bool.true_and, Bool.false_eq_true, if_true, if_false, go_sem, Nat.reduceEqDiff, Nat.reduceLT, Nat.reduceAdd, Nat.reduceSub, Nat.reduceLeDiff, List.reduceReplicate, Int.reduceToNat]
      refine ⟨hS.roomy, hmay m1 m2 [.box (.agg [.int .i64 n1, .int .i64 n2, .int .i64 n3, .int .i64 n4, .sl false (.ints .i64 n5)])] n1 _ _ fun bm => ?_⟩
      cases bm with
      | false =>
        simp only [rbox, List.cons_append, List.nil_append, joinW_eq, guard_tt, guard_tf, guard_ft, guard_ff, Int.reduceEq, Int.reduceLT, Int.reduceLE, decide_false, decide_true, Bool.not_false, Bool.not_true, Bool.not_not, not_true_eq_false, not_false_eq_true, true_implies, false_implies, implies_true, and_true, true_and, reduceCtorEq, Bool.and_self, Bool.or_self, Bool.and_true, Bool.true_and, Bool.false_eq_true, if_true, if_false, go_sem, Nat.reduceEqDiff, Nat.reduceLT, Nat.reduceAdd, Nat.reduceSub, Nat.reduceLeDiff, List.reduceReplicate, Int.reduceToNat]
        exact ⟨_, _, _, rfl, higherP.refl⟩
      | true =>
        simp only [rbox, List.cons_append, List.nil_append, joinW_eq, guard_tt, guard_tf, guard_ft, guard_ff, Int.reduceEq, Int.reduceLT, Int.reduceLE, decide_false, decide_true, Bool.not_false, Bool.not_true, Bool.not_not, not_true_eq_false, not_false_eq_true, true_implies, false_implies, implies_true, and_true, true_and, reduceCtorEq, Bool.and_self, Bool.or_self, Bool.and_true, Bool.true_and, Bool.false_eq_true, if_true, if_false, go_sem, Nat.reduceEqDiff, Nat.reduceLT, Nat.reduceAdd, Nat.reduceSub, Nat.reduceLeDiff, List.reduceReplicate, Int.reduceToNat]
        refine ⟨fun hs => ⟨_, _, _, rfl, higherP.refl⟩, fun hs => ?_⟩
        have hlt := unseen_less hb0 hb1 hs
        unfold arena_reach_node.K
        refine ⟨w, 1, 2, m1, _, rfl, rfl, rfl, by decide, by omega, ?_⟩
        have hm1 : ∀ k, m1 k = true → markN m1 ⟨n1, n2, n3, n4, n5⟩ b k = true := fun k h => by unfold markN; rw [h]; rfl
        have hm2 : ∀ k, m2 k = true → (fun j => if j = b then true else m2 j) k = true := fun k h => by
          show (if k = b then true else m2 k) = true
          split
          · rfl
          · exact h
        simp only [rbox, joinW_eq, guard_tt, guard_tf, guard_ft, guard_ff, Int.reduceEq, Int.reduceLT, Int.reduceLE, decide_false, decide_true, Bool.not_false, Bool.not_true, Bool.not_not, not_true_eq_false, not_false_eq_true, true_implies, false_implies, implies_true, and_true, true_and, reduceCtorEq, Bool.and_self, Bool.or_self, Bool.and_true, Bool.true_and, Bool.false_eq_true, if_true, if_false, go_sem, Nat.reduceEqDiff, Nat.reduceLT, Nat.reduceAdd, Nat.reduceSub, Nat.reduceLeDiff, List.reduceReplicate, Int.reduceToNat]
        generalize markN m1 ⟨n1, n2, n3, n4, n5⟩ b = a1 at *
        generalize (fun j => if j = b then true else m2 j) = a2 at *
        unfold arena_reach_higher.L1
        refine loop1 (σ := (Int → Bool) × (Int → Bool) × Nat) (fun s => .int .i64 s.2.2) (fun s => .box (.agg [.sl false (.ints .i64 w), .map 1, .map 2]) :: .map (.ib s.1) :: .map (.ib s.2.1) :: AObj.box (.agg [.int .i64 e1, .int .i64 e2, .int .i64 e3, .int .i64 e4, .sl false (.ints .i64 e5)]) :: [.box (.agg [.int .i64 n1, .int .i64 n2, .int .i64 n3, .int .i64 n4, .sl false (.ints .i64 n5)])]) (fun s => n5.length - s.2.2)
          (fun s => s.2.2 ≤ n5.length ∧ (∀ k, m1 k = true → s.1 k = true) ∧ (∀ k, m2 k = true → s.2.1 k = true) ∧ unseen s.2.1 w < n) (a1, a2, 0) rfl rfl ⟨Nat.zero_le _, hm1, hm2, by show unseen a2 w < n; omega⟩ ?_
        rintro I back ⟨s1, s2, k⟩ ⟨hk, hs1, hs2, hsn⟩
        simp only at hk hs1 hs2 hsn ⊢
        have hfin : ∀ m1' m2' : Int → Bool, (∀ k, s1 k = true → m1' k = true) → (∀ k, s2 k = true → m2' k = true) → higherP w b m1 m2 m1' m2' := fun m1' m2' h1 h2 => hhp _ _ (fun k h => h1 k (hs1 k h)) (fun k h => h2 k (hs2 k h))
        have hex : ¬ (k : Int) < (n5.length : Int) → k = n5.length := fun h => by omega
        cases hx : recO w (n5.getD k 0) with
        | none =>
          obtain ⟨e, he, hr⟩ := rreadV_none hx
          simp only [rec_Read.C, hr, zeroRc, he, joinW_eq, guard_tt, guard_tf, guard_ft, guard_ff, Int.reduceEq, Int.reduceLT, Int.reduceLE, decide_false, decide_true, Bool.not_false, Bool.not_true, Bool.not_not, not_true_eq_false, not_false_eq_true, true_implies, false_implies, implies_true, and_true, true_and, reduceCtorEq, Bool.and_self, Bool.or_self, Bool.and_true, Bool.true_and, Bool.false_eq_true, if_true, if_false, go_sem, Nat.reduceEqDiff, Nat.reduceLT, Nat.reduceAdd, Nat.reduceSub, Nat.reduceLeDiff, List.reduceReplicate, Int.reduceToNat]
          refine ⟨fun h => ⟨⟨by omega, by omega⟩, hS.roomy, back (s1, s2, k + 1) (by simp only; omega) (by simp only; rw [wnext (by omega)]) rfl ⟨by simp only; omega, hs1, hs2, hsn⟩⟩, fun h => ⟨fun h3 => ?_, fun h3 => ⟨_, _, _, rfl, hfin _ _ (fun _ h => h) (fun _ h => h)⟩⟩⟩
          unfold higherK
          refine ⟨w, 1, 2, s1, s2, rfl, rfl, rfl, hS, hsn, .inr ⟨.inr rfl, 4, n1, n2, n3, n4, n5, rfl, by decide, rfl⟩, fun m1' m2' hp => ⟨_, _, _, rfl, hfin _ _ hp.1 hp.2.1⟩⟩
        | some x =>
          obtain ⟨x1, x2, x3, x4⟩ := x
          simp only [rec_Read.C, rreadV_some hx, joinW_eq, guard_tt, guard_tf, guard_ft, guard_ff, Int.reduceEq, Int.reduceLT, Int.reduceLE, decide_false, decide_true, Bool.not_false, Bool.not_true, Bool.not_not, not_true_eq_false, not_false_eq_true, true_implies, false_implies, implies_true, and_true, true_and, reduceCtorEq, Bool.and_self, Bool.or_self, Bool.and_true, Bool.true_and, Bool.false_eq_true, if_true, if_false, go_sem, Nat.reduceEqDiff, Nat.reduceLT, Nat.reduceAdd, Nat.reduceSub, Nat.reduceLeDiff, List.reduceReplicate, Int.reduceToNat]
          refine ⟨fun h => ⟨⟨by omega, by omega⟩, hS.roomy, fun h2 => ?_, fun h2 => back (s1, s2, k + 1) (by simp only; omega) (by simp only; rw [wnext (by omega)]) rfl ⟨by simp only; omega, hs1, hs2, hsn⟩⟩, fun h => ⟨fun h3 => ?_, fun h3 => ⟨_, _, _, rfl, hfin _ _ (fun _ h => h) (fun _ h => h)⟩⟩⟩
          · unfold higherK
            refine ⟨w, 1, 2, s1, s2, rfl, rfl, rfl, hS, hsn, .inr ⟨.inl rfl, 4, n1, n2, n3, n4, n5, rfl, by decide, rfl⟩, fun m1' m2' hp => ?_⟩
            simp only [rbox, joinW_eq, guard_tt, guard_tf, guard_ft, guard_ff, Int.reduceEq, Int.reduceLT, Int.reduceLE, decide_false, decide_true, Bool.not_false, Bool.not_true, Bool.not_not, not_true_eq_false, not_false_eq_true, true_implies, false_implies, implies_true, and_true, true_and, reduceCtorEq, Bool.and_self, Bool.or_self, Bool.and_true, Bool.true_and, Bool.false_eq_true, if_true, if_false, go_sem, Nat.reduceEqDiff, Nat.reduceLT, Nat.reduceAdd, Nat.reduceSub, Nat.reduceLeDiff, List.reduceReplicate, Int.reduceToNat]
            exact back (m1', m2', k + 1) (by simp only; omega) (by simp only; rw [wnext (by omega)]) rfl ⟨by simp only; omega, fun k h => hp.1 k (hs1 k h), fun k h => hp.2.1 k (hs2 k h), Nat.lt_of_le_of_lt (unseen_mono hp.2.1) hsn⟩
          · unfold higherK
            refine ⟨w, 1, 2, s1, s2, rfl, rfl, rfl, hS, hsn, .inr ⟨.inr rfl, 4, n1, n2, n3, n4, n5, rfl, by decide, rfl⟩, fun m1' m2' hp => ⟨_, _, _, rfl, hfin _ _ hp.1 hp.2.1⟩⟩

theorem higher_ok {n : Nat} (ih : SSpec Try.prog 55 (higherK n)) : Ok Try.prog (higher_ctx n) :=
  ctx_ok (by simpa using ⟨node_Read.spec, rec_Read.spec, arena_Reach_1.spec⟩) (by simpa using ⟨arena_reach_node.spec, ih, arena_reach_higher_1.spec, arena_reach_higher_2.spec⟩) _
set_option maxRecDepth 20000 in
theorem higher_sp : ∀ n, SSpec Try.prog 55 (higherK n)
  | 0 => by
    refine ⟨fun args h K hC X cs H hXh hv => ?_⟩
    unfold higherK at hC
    split at hC
    rotate_left
    · exact hC.elim
    obtain ⟨w, i, j, m1, m2, h0, h1, h2, hS, hun, _⟩ := hC
    exact absurd hun (Nat.not_lt_zero _)
  | n + 1 => by
    have ok := higher_ok (higher_sp n)
    refine ⟨fun args h K hC X cs H hXh hv => ?_⟩
    unfold higherK at hC
    split at hC
    rotate_left
    · exact hC.elim
    rename_i id b f cap
    obtain ⟨w, i, j, m1, m2, h0, h1, h2, hS, hun, halt, hK⟩ := hC
    subst hXh
    rcases halt with ⟨rfl, rfl, hnd⟩ | ⟨hf, q, e1, e2, e3, e4, e5, rfl, hnd, hq⟩
    · have hw : funW (higher_ctx n) Try.f55 [.ptr 0 [], .int .i64 b, .fn (.func 56) [] []]
          (rbox w 1 2 :: .map (.ib m1) :: .map (.ib m2) :: ([] : List AV).map .box) (fun ao h' => ao = .ret (.tup []) ∧ ∃ m1' m2' tl, h' = rbox w 1 2 :: .map (.ib m1') :: .map (.ib m2') :: (([] : List AV).map .box ++ tl) ∧ higherP w b m1 m2 m1' m2') := by
        rw [arena_reach_higher.eq]
        refine higher_vcA n w b _ m1 m2 hS hun fun m1 m2 tl lv K KP hk => ?_
        simp only [arena_Reach_1.C, go_sem, Nat.reduceEqDiff, Nat.reduceLT, Nat.reduceAdd, Nat.reduceSub, Nat.reduceLeDiff, List.reduceReplicate, Int.reduceToNat]
        exact hk true
      have hargs : ∀ X0, SubC X X0 (id :: i :: j :: []) → X0.h = rbox w 1 2 :: .map (.ib m1) :: .map (.ib m2) :: ([] : List AV).map .box → VVs X0 [.ptr 0 [], .int .i64 b, .fn (.func 56) [] []] cs.toList := by
        intro X0 s hX0
        simp only [VVs] at hv ⊢
        obtain ⟨c1, r1, q1, g1, c2, r2, rfl, g2, c3, r3, rfl, g3, rfl⟩ := hv
        exact ⟨c1, _, q1, ptr_sub s rfl (by rw [hX0]; rfl) g1, c2, _, rfl, closed_sub s rfl g2, c3, _, rfl, closed_sub s rfl g3, rfl⟩
      obtain ⟨g1, g2⟩ := reach_call ok arena_reach_higher.at arena_reach_higher.nm arena_reach_higher.bd hw H h0 h1 h2 rfl (by simp) hnd hargs
      refine ⟨g1, g2.mono fun e w' he => ?_⟩
      obtain ⟨Y, ao, rfl, HY, EY, ho, m1', m2', hp, rfl, hY⟩ := he
      exact ⟨Y, _, rfl, HY, EY, ho, by rw [hY]; exact hK m1' m2' hp⟩
    · have hw : funW (higher_ctx n) Try.f55 [.ptr 0 [], .int .i64 b, .fn (.func f) [] [.ptr 3 []]]
          (rbox w 1 2 :: .map (.ib m1) :: .map (.ib m2) :: [AV.agg [.int .i64 e1, .int .i64 e2, .int .i64 e3, .int .i64 e4, .sl false (.ints .i64 e5)]].map .box) (fun ao h' => ao = .ret (.tup []) ∧ ∃ m1' m2' tl, h' = rbox w 1 2 :: .map (.ib m1') :: .map (.ib m2') :: ([AV.agg [.int .i64 e1, .int .i64 e2, .int .i64 e3, .int .i64 e4, .sl false (.ints .i64 e5)]].map .box ++ tl) ∧ higherP w b m1 m2 m1' m2') := by
        rw [arena_reach_higher.eq]
        refine higher_vcB n w b _ e1 e2 e3 e4 e5 m1 m2 hS hun fun m1 m2 tl lv K KP hk => ?_
        rcases hf with rfl | rfl
        · simp only [arena_reach_higher_1.K, arena_reach_higher_1.H, rbox, List.cons_append, List.nil_append, go_sem, Nat.reduceEqDiff, Nat.reduceLT, Nat.reduceAdd, Nat.reduceSub, Nat.reduceLeDiff, List.reduceReplicate, Int.reduceToNat]
          exact hk _
        · simp only [arena_reach_higher_2.K, arena_reach_higher_2.H, rbox, List.cons_append, List.nil_append, go_sem, Nat.reduceEqDiff, Nat.reduceLT, Nat.reduceAdd, Nat.reduceSub, Nat.reduceLeDiff, List.reduceReplicate, Int.reduceToNat]
          exact hk _
      have hargs : ∀ X0, SubC X X0 (id :: i :: j :: [q]) → X0.h = rbox w 1 2 :: .map (.ib m1) :: .map (.ib m2) :: [AV.agg [.int .i64 e1, .int .i64 e2, .int .i64 e3, .int .i64 e4, .sl false (.ints .i64 e5)]].map .box → VVs X0 [.ptr 0 [], .int .i64 b, .fn (.func f) [] [.ptr 3 []]] cs.toList := by
        intro X0 s hX0
        simp only [VVs, VV] at hv ⊢
        obtain ⟨c1, r1, q1, g1, c2, r2, rfl, g2, c3, r3, rfl, ⟨ca, cd, rfl, g3, c4, r4, q4, g4, rfl⟩, rfl⟩ := hv
        exact ⟨c1, _, q1, ptr_sub s rfl (by rw [hX0]; rfl) g1, c2, _, rfl, closed_sub (v := .int .i64 b) s rfl g2, _, _, rfl, ⟨ca, cd, rfl, g3, c4, _, q4, ptr_sub s rfl (by rw [hX0]; rfl) g4, rfl⟩, rfl⟩
      obtain ⟨g1, g2⟩ := reach_call ok arena_reach_higher.at arena_reach_higher.nm arena_reach_higher.bd hw H h0 h1 h2 rfl (by
        intro k v hk
        match k with
        | 0 => cases hk; exact ⟨q, rfl, hq, rfl⟩
        | k + 1 => simp at hk) hnd hargs
      refine ⟨g1, g2.mono fun e w' he => ?_⟩
      obtain ⟨Y, ao, rfl, HY, EY, ho, m1', m2', hp, rfl, hY⟩ := he
      exact ⟨Y, _, rfl, HY, EY, ho, by rw [hY]; exact hK m1' m2' hp⟩
end Lam
