/- What functions of the program come to, each proved from its code. -/
import Derived.Test.YtdnhjeoacanbcaaLV1
namespace Lam
open Go Go.Proofs
set_option linter.unusedVariables false
set_option linter.unnecessarySimpa false
set_option linter.unusedSimpArgs false

def headV (b r : Int) : AV := .agg [.int .i64 7015, .int .i64 b, .int .i64 (sumOf [7015, b]), .int .i64 r]
def super_of.C : Contract
  | [.int .i64 b, .int .i64 r] => some (false, pD True (headV b r))
  | _ => none
theorem super_of.spec : FSpec Try.prog 72 super_of.C := by
  refine FSpec.of (ctx_ok (F := [(116, sum_Of.C)]) (S := []) (by simpa using sum_Of.spec) (by simp) super_of.loops) super_of.at super_of.nm super_of.bd ?_
  intro vs b S v news e hS
  unfold super_of.C at e
  split at e
  rotate_left
  · cases e
  cases e
  rw [super_of.eq]
  unfold super_of.H
  simp only [go_sem, Nat.reduceEqDiff, Nat.reduceLT, Nat.reduceAdd, Nat.reduceSub, Nat.reduceLeDiff, List.reduceReplicate, Int.reduceToNat, sum_Of.C]
  exact ⟨by unfold roomy; decide, post_val rfl rfl⟩
def mayB (b r : Int) : Bool := decide (2 ≤ b) && decide (b ≤ 256) && decide (1 ≤ r) && decide (r < b)
def super_head_may.C : Contract
  | [.agg [.int .i64 _, .int .i64 b, .int .i64 _, .int .i64 r]] => some (false, pD True (.bool (mayB b r)))
  | _ => none
theorem super_head_may.spec : FSpec Try.prog 73 super_head_may.C := by
  refine FSpec.of (ctx_ok (F := []) (S := []) (by simp) (by simp) super_head_may.loops) super_head_may.at super_head_may.nm super_head_may.bd ?_
  intro vs b S v news e hS
  unfold super_head_may.C at e
  split at e
  rotate_left
  · cases e
  cases e
  rw [super_head_may.eq]
  unfold super_head_may.H
  simp only [go_sem, Nat.reduceEqDiff, Nat.reduceLT, Nat.reduceAdd, Nat.reduceSub, Nat.reduceLeDiff, List.reduceReplicate, Int.reduceToNat]
  exact post_val rfl rfl
def superW (b r : Int) : List Int := [7015, b, sumOf [7015, b], r] ++ List.replicate 12 0
def super_Words.C : Contract
  | [.int .i64 b, .int .i64 r] => some (false, pD True (if mayB b r = true then .tup [.sl false (.ints .i64 (superW b r)), .int .i64 0] else .tup [.sl false (.ints .i64 []), .int .i64 1]))
  | _ => none
theorem super_Words.spec : FSpec Try.prog 16 super_Words.C := by
  refine FSpec.of (ctx_ok (F := [(72, super_of.C), (73, super_head_may.C)]) (S := []) (by simpa using ⟨super_of.spec, super_head_may.spec⟩) (by simp) super_Words.loops) super_Words.at super_Words.nm super_Words.bd ?_
  intro vs b S v news e hS
  unfold super_Words.C at e
  split at e
  rotate_left
  · cases e
  cases e
  rw [super_Words.eq]
  unfold super_Words.H
  simp only [go_sem, Nat.reduceEqDiff, Nat.reduceLT, Nat.reduceAdd, Nat.reduceSub, Nat.reduceLeDiff, List.reduceReplicate, Int.reduceToNat, super_of.C, super_head_may.C, headV]
  refine ⟨fun h => ?_, fun h => ?_⟩
  · simp only [h, Bool.false_eq_true, if_false]; exact post_val rfl rfl
  · refine ⟨by unfold roomy; decide, ?_⟩
    simp only [h, if_true]; exact post_val rfl rfl

/-! small steps that may be -/
def mmay (x : Mic) (n : Int) : Bool := decide (0 ≤ x.at_) && decide (x.at_ < (if x.kind = 2 then IntKind.i64.wrap (n.tdiv 8) else if x.kind = 1 then n else 0)) && (decide (x.kind = 1) || decide (x.val = 0))
def micro_may.C : Contract
  | [.agg [.int .i64 k, .int .i64 a, .int .i64 w], .int .i64 n] => some (false, pD True (.bool (mmay ⟨k, a, w⟩ n)))
  | _ => none
theorem micro_may.spec : FSpec Try.prog 115 micro_may.C := by
  refine FSpec.of (ctx_ok (F := []) (S := []) (by simp) (by simp) micro_may.loops) micro_may.at micro_may.nm micro_may.bd ?_
  intro vs b S v news e hS
  unfold micro_may.C at e
  split at e
  rotate_left
  · cases e
  cases e
  rw [micro_may.eq]
  unfold micro_may.H
  simp only [go_sem, Nat.reduceEqDiff, Nat.reduceLT, Nat.reduceAdd, Nat.reduceSub, Nat.reduceLeDiff, List.reduceReplicate, Int.reduceToNat]
  refine ⟨by decide, ?_⟩
  exact post_val rfl rfl
def micro_Check_1.K : Con := fun args h K => match args with
  | [a0, a1] => micro_Check_1.H (ctx [(115, micro_may.C)] [] micro_Check_1.loops) a0 a1 h K
  | _ => False
theorem micro_Check_1.spec : SSpec Try.prog 114 micro_Check_1.K := by
  refine SSpec.of (ctx_ok (F := [(115, micro_may.C)]) (S := []) (by simpa using micro_may.spec) (by simp) micro_Check_1.loops) micro_Check_1.at micro_Check_1.nm micro_Check_1.bd ?_
  intro args h K hC
  unfold micro_Check_1.K at hC
  split at hC
  · rw [micro_Check_1.eq]; exact hC
  · exact hC.elim
def slices_IndexFunc_sl_api_Micro_api_Micro.K : Con := fun args h K => match args with
  | [a0, a1] => slices_IndexFunc_sl_api_Micro_api_Micro.H (ctx [] [(114, micro_Check_1.K)] slices_IndexFunc_sl_api_Micro_api_Micro.loops) a0 a1 h K
  | _ => False
theorem slices_IndexFunc_sl_api_Micro_api_Micro.spec : SSpec Try.prog 131 slices_IndexFunc_sl_api_Micro_api_Micro.K := by
  refine SSpec.of (ctx_ok (F := []) (S := [(114, micro_Check_1.K)]) (by simp) (by simpa using micro_Check_1.spec) slices_IndexFunc_sl_api_Micro_api_Micro.loops) slices_IndexFunc_sl_api_Micro_api_Micro.at slices_IndexFunc_sl_api_Micro_api_Micro.nm slices_IndexFunc_sl_api_Micro_api_Micro.bd ?_
  intro args h K hC
  unfold slices_IndexFunc_sl_api_Micro_api_Micro.K at hC
  split at hC
  · rw [slices_IndexFunc_sl_api_Micro_api_Micro.eq]; exact hC
  · exact hC.elim
def slices_ContainsFunc_sl_api_Micro_api_Micro.K : Con := fun args h K => match args with
  | [a0, a1] => slices_ContainsFunc_sl_api_Micro_api_Micro.H (ctx [] [(131, slices_IndexFunc_sl_api_Micro_api_Micro.K)] slices_ContainsFunc_sl_api_Micro_api_Micro.loops) a0 a1 h K
  | _ => False
theorem slices_ContainsFunc_sl_api_Micro_api_Micro.spec : SSpec Try.prog 113 slices_ContainsFunc_sl_api_Micro_api_Micro.K := by
  refine SSpec.of (ctx_ok (F := []) (S := [(131, slices_IndexFunc_sl_api_Micro_api_Micro.K)]) (by simp) (by simpa using slices_IndexFunc_sl_api_Micro_api_Micro.spec) slices_ContainsFunc_sl_api_Micro_api_Micro.loops) slices_ContainsFunc_sl_api_Micro_api_Micro.at slices_ContainsFunc_sl_api_Micro_api_Micro.nm slices_ContainsFunc_sl_api_Micro_api_Micro.bd ?_
  intro args h K hC
  unfold slices_ContainsFunc_sl_api_Micro_api_Micro.K at hC
  split at hC
  · rw [slices_ContainsFunc_sl_api_Micro_api_Micro.eq]; exact hC
  · exact hC.elim

theorem micro_Check_1_vc (x : Mic) (n : Int) (h : List AObj) (K : AOut → List AObj → Prop) (id : Nat) (hid : h[id]? = some (.box (.int .i64 n)))
    (hK : K (.ret (.bool (!mmay x n))) (h ++ [.box (encMic x)])) : micro_Check_1.K [.agg [.int .i64 x.kind, .int .i64 x.at_, .int .i64 x.val], .ptr id []] h K := by
  have hlt : id < h.length := (List.getElem?_eq_some_iff.1 hid).1
  have hid' : ∀ r, (h ++ r)[id]? = some (.box (.int .i64 n)) := fun r => by rw [List.getElem?_append_left hlt]; exact hid
  have hlen : ∀ o r, (h ++ o :: r)[h.length]? = some o := fun o r => by simp
  unfold micro_Check_1.K
  simp only
  unfold micro_Check_1.H
  simp only [go_sem, Nat.reduceEqDiff, Nat.reduceLT, Nat.reduceAdd, Nat.reduceSub, Nat.reduceLeDiff, List.reduceReplicate, Int.reduceToNat, hid', hlen, micro_may.C]
  exact hK

theorem index_vc (l : List Mic) (n : Int) (K : AOut → List AObj → Prop) (x : Bool) (hr : roomy l.length) (h : List AObj) (hh : h = [.box (.int .i64 n)])
    (hK : ∀ r h', (r = -1 ∧ (∀ y ∈ l, mmay y n = true)) ∨ (0 ≤ r ∧ ∃ y ∈ l, mmay y n = false) → K (.ret (.int .i64 r)) h') :
    slices_IndexFunc_sl_api_Micro_api_Micro.K [.sl x (.mics l), .fn (.func 114) [] [.ptr 0 []]] h K := by
  unfold roomy at hr
  unfold slices_IndexFunc_sl_api_Micro_api_Micro.K
  simp only
  unfold slices_IndexFunc_sl_api_Micro_api_Micro.H
  subst hh
  simp only [go_sem, Nat.reduceEqDiff, Nat.reduceLT, Nat.reduceAdd, Nat.reduceSub, Nat.reduceLeDiff, List.reduceReplicate, Int.reduceToNat, joinW_eq]
  unfold slices_IndexFunc_sl_api_Micro_api_Micro.L1
  refine ⟨fun m lv h' => ∃ k : Nat, k + m = l.length ∧ lv = [.int .i64 k] ∧ h' = [.box (.int .i64 n)] ∧ ∀ y ∈ l.take k, mmay y n = true, ⟨l.length, 0, by omega, rfl, rfl, by simp⟩, ?_⟩
  rintro m h' t8 ⟨k, hk, hlv, rfl, hall⟩
  simp only [List.cons.injEq, and_true] at hlv
  subst hlv
  simp only [go_sem, Nat.reduceEqDiff, Nat.reduceLT, Nat.reduceAdd, Nat.reduceSub, Nat.reduceLeDiff, List.reduceReplicate, Int.reduceToNat]
  refine ⟨fun hlt => ⟨by omega, ?_⟩, fun hge => ?_⟩
  · have hkl : k < l.length := by omega
    apply micro_Check_1_vc _ n _ _ 0 rfl
    simp only [go_sem, Nat.reduceEqDiff, Nat.reduceLT, Nat.reduceAdd, Nat.reduceSub, Nat.reduceLeDiff, List.reduceReplicate, Int.reduceToNat]
    refine ⟨fun h => hK _ _ (.inr ⟨by omega, _, getD_mem l k _ hkl, by simpa using h⟩), fun h => ?_⟩
    refine ⟨m - 1, by omega, k + 1, by omega, by rw [w64 (by omega) (by omega)]; rfl, ?_⟩
    intro y hy
    rw [take_next l k ⟨0, 0, 0⟩ hkl] at hy
    rcases List.mem_append.1 hy with hy | hy
    · exact hall y hy
    · rw [List.mem_singleton.1 hy]; simpa using h
  · have : k = l.length := by omega
    subst this
    rw [List.take_length] at hall
    exact hK _ _ (.inl ⟨rfl, hall⟩)

theorem contains_vc (l : List Mic) (n : Int) (K : AOut → List AObj → Prop) (x : Bool) (hr : roomy l.length) (h : List AObj) (hh : h = [.box (.int .i64 n)])
    (hK : ∀ h', K (.ret (.bool (!l.all (mmay · n)))) h') :
    slices_ContainsFunc_sl_api_Micro_api_Micro.K [.sl x (.mics l), .fn (.func 114) [] [.ptr 0 []]] h K := by
  unfold slices_ContainsFunc_sl_api_Micro_api_Micro.K
  simp only
  unfold slices_ContainsFunc_sl_api_Micro_api_Micro.H
  subst hh
  simp only [go_sem, Nat.reduceEqDiff, Nat.reduceLT, Nat.reduceAdd, Nat.reduceSub, Nat.reduceLeDiff, List.reduceReplicate, Int.reduceToNat]
  apply index_vc l n _ x hr _ rfl
  intro r h' hcase
  simp only [go_sem, Nat.reduceEqDiff, Nat.reduceLT, Nat.reduceAdd, Nat.reduceSub, Nat.reduceLeDiff, List.reduceReplicate, Int.reduceToNat]
  have : decide (0 ≤ r) = !l.all (mmay · n) := by
    rcases hcase with ⟨rfl, h⟩ | ⟨h0, y, hy, h⟩
    · have : l.all (mmay · n) = true := List.all_eq_true.2 h
      rw [this]; rfl
    · have : l.all (mmay · n) = false := by
        rw [List.all_eq_false]; exact ⟨y, hy, by simp [h]⟩
      rw [this]; simpa using h0
  rw [this]; exact hK h'

def sizedB (n : Int) : Bool := decide (0 ≤ n) && decide (n ≤ 4096) && decide (n.tmod 8 = 0)
def micro_Check.C : Contract
  | [.sl _ (.mics l), .int .i64 n] => some (false, pD (roomy l.length) (.bool (sizedB n && l.all (mmay · n))))
  | _ => none
theorem micro_Check.spec : FSpec Try.prog 70 micro_Check.C := by
  refine FSpec.of (ctx_ok (F := []) (S := [(113, slices_ContainsFunc_sl_api_Micro_api_Micro.K)]) (by simp) (by simpa using slices_ContainsFunc_sl_api_Micro_api_Micro.spec) micro_Check.loops) micro_Check.at micro_Check.nm micro_Check.bd ?_
  intro vs b S v news e hS
  unfold micro_Check.C at e
  split at e
  rotate_left
  · cases e
  cases e
  rw [micro_Check.eq]
  unfold micro_Check.H
  simp only [go_sem, Nat.reduceEqDiff, Nat.reduceLT, Nat.reduceAdd, Nat.reduceSub, Nat.reduceLeDiff, List.reduceReplicate, Int.reduceToNat]
  refine ⟨by simp, ?_⟩
  rw [joinW_eq]
  simp only [guardW_bool]
  refine ⟨fun hs => ?_, fun hs => ?_⟩
  · apply contains_vc _ _ _ _ hS _ rfl
    intro h'
    simp only [go_sem, Nat.reduceEqDiff, Nat.reduceLT, Nat.reduceAdd, Nat.reduceSub, Nat.reduceLeDiff, List.reduceReplicate, Int.reduceToNat, Bool.not_not]
    exact post_val (by rw [show sizedB _ = true from hs, Bool.true_and]; rfl) rfl
  · simp only [go_sem, Nat.reduceEqDiff, Nat.reduceLT, Nat.reduceAdd, Nat.reduceSub, Nat.reduceLeDiff, List.reduceReplicate, Int.reduceToNat]
    exact post_val (by rw [show sizedB _ = false from hs, Bool.false_and]; rfl) rfl

def super_Root.C : Contract
  | [.int .i64 b, .int .i64 r] => some (false, pD True (if mayB b r = true then .tup [.sl false (.mics [⟨1, 3, r⟩, ⟨2, 0, 0⟩]), .int .i64 0] else .tup [.sl false (.mics []), .int .i64 1]))
  | _ => none
theorem super_Root.spec : FSpec Try.prog 20 super_Root.C := by
  refine FSpec.of (ctx_ok (F := [(72, super_of.C), (73, super_head_may.C), (70, micro_Check.C)]) (S := []) (by simpa using ⟨super_of.spec, super_head_may.spec, micro_Check.spec⟩) (by simp) super_Root.loops) super_Root.at super_Root.nm super_Root.bd ?_
  intro vs b S v news e hS
  unfold super_Root.C at e
  split at e
  rotate_left
  · cases e
  cases e
  rw [super_Root.eq]
  unfold super_Root.H
  simp only [go_sem, Nat.reduceEqDiff, Nat.reduceLT, Nat.reduceAdd, Nat.reduceSub, Nat.reduceLeDiff, List.reduceReplicate, Int.reduceToNat, super_of.C, super_head_may.C, micro_Check.C, headV]
  rename_i b r
  have h1 : (sizedB 16 && [({ kind := 1, at_ := 3, val := r } : Mic), { kind := 2, at_ := 0, val := 0 }].all fun x => mmay x 16) = true := by
    simp [sizedB, mmay, w64]
  simp only [h1, go_sem, Nat.reduceEqDiff, Nat.reduceLT, Nat.reduceAdd, Nat.reduceSub, Nat.reduceLeDiff, List.reduceReplicate, Int.reduceToNat]
  refine ⟨fun _ => by unfold roomy; decide, ?_⟩
  cases hm : mayB b r with
  | true =>
    simp only [if_true, go_sem, Nat.reduceEqDiff, Nat.reduceLT, Nat.reduceAdd, Nat.reduceSub, Nat.reduceLeDiff, List.reduceReplicate, Int.reduceToNat]
    exact post_val rfl rfl
  | false =>
    simp only [Bool.false_eq_true, if_false, go_sem, Nat.reduceEqDiff, Nat.reduceLT, Nat.reduceAdd, Nat.reduceSub, Nat.reduceLeDiff, List.reduceReplicate, Int.reduceToNat]
    exact post_val rfl rfl

def headB (l : List Int) : Bool := decide (l.getD 0 0 = 7015) && decide (l.getD 2 0 = sumOf [7015, l.getD 1 0]) && mayB (l.getD 1 0) (l.getD 3 0) && decide (l.getD 1 0 = ((l.length / 16 : Nat) : Int))
def readB (l : List Int) : Bool := decide (32 ≤ l.length) && headB l && ((l.drop 4).take 12).all (fun w => decide (w = 0))
theorem bnot3 (a b m d : Bool) : (!(a && b) || !m || !d) = !(a && b && m && d) := by cases a <;> cases b <;> cases m <;> cases d <;> rfl
def readV (l : List Int) : AV := if readB l = true then .tup [.int .i64 (l.getD 1 0), .int .i64 (l.getD 3 0), .int .i64 0] else .tup [.int .i64 0, .int .i64 0, .int .i64 80]
@[go_sem] theorem readV_noSl (l : List Int) : (readV l).noSl = true := by unfold readV; split <;> rfl
def super_Read.C : Contract
  | [.sl _ (.ints .i64 l)] => some (false, pD (roomy l.length) (readV l))
  | _ => none
theorem read_bad (l : List Int) (hb : readB l = false) (h : List AObj) : Post false (readV l) [] (.ret (.tup [.int .i64 0, .int .i64 0, .int .i64 80])) h := by
  unfold readV; rw [hb]; exact post_val rfl rfl
theorem super_Read.spec : FSpec Try.prog 18 super_Read.C := by
  refine FSpec.of (ctx_ok (F := [(72, super_of.C), (73, super_head_may.C)]) (S := []) (by simpa using ⟨super_of.spec, super_head_may.spec⟩) (by simp) super_Read.loops) super_Read.at super_Read.nm super_Read.bd ?_
  intro vs b S v news e hS
  unfold super_Read.C at e
  split at e
  rotate_left
  · cases e
  cases e
  rw [super_Read.eq]
  unfold super_Read.H
  simp only [go_sem, Nat.reduceEqDiff, Nat.reduceLT, Nat.reduceAdd, Nat.reduceSub, Nat.reduceLeDiff, List.reduceReplicate, Int.reduceToNat, super_of.C, super_head_may.C, headV]
  rename_i l
  unfold roomy at hS
  have hw : IntKind.i64.wrap ((l.length : Int).tdiv 16) = ((l.length / 16 : Nat) : Int) := by rw [tdiv16]; apply w64 <;> omega
  rw [joinW_eq]
  refine ⟨fun h => ?_, fun h => ?_⟩
  · apply read_bad
    have : ¬ 32 ≤ l.length := by omega
    simp [readB, this]
  refine ⟨by omega, by omega, by omega, by omega, by simp, ?_⟩
  rw [hw, bnot3]
  refine ⟨fun hc => read_bad l ?_ _, fun hc => ⟨by omega, ?_⟩⟩
  · have hc : headB l = false := by rw [Bool.not_eq_true'] at hc; exact hc
    simp [readB, hc]
  · have hc : headB l = true := by rw [Bool.not_eq_false'] at hc; exact hc
    have h32 : 32 ≤ l.length := by omega
    have hlen : ((l.drop 4).take 12).length = 12 := by simp; omega
    rw [joinW_eq]
    unfold super_Read.L1
    generalize hz : (l.drop 4).take 12 = z at *
    refine ⟨fun m lv h' => ∃ k : Nat, k + m = z.length ∧ lv = [.int .i64 k] ∧ h' = [.box (.agg [.int .i64 (l.getD 0 0), .int .i64 (l.getD 1 0), .int .i64 (l.getD 2 0), .int .i64 (l.getD 3 0)])] ∧ ∀ y ∈ z.take k, y = 0, ⟨z.length, 0, by omega, rfl, rfl, by simp⟩, ?_⟩
    rintro m h' t8 ⟨k, hk, hlv, rfl, hall⟩
    simp only [List.cons.injEq, and_true] at hlv
    subst hlv
    simp only [go_sem, Nat.reduceEqDiff, Nat.reduceLT, Nat.reduceAdd, Nat.reduceSub, Nat.reduceLeDiff, List.reduceReplicate, Int.reduceToNat]
    refine ⟨fun hlt => ⟨by omega, fun h0 => ?_, fun h0 => ?_⟩, fun hge => ?_⟩
    · apply read_bad
      have hkz : k < z.length := by omega
      have : z.all (fun w => decide (w = 0)) = false := by
        rw [List.all_eq_false]; exact ⟨_, getD_mem z k 0 hkz, by simpa using h0⟩
      simp [readB, hz, this]
    · have hkz : k < z.length := by omega
      refine ⟨m - 1, by omega, k + 1, by omega, by rw [w64 (by omega) (by omega)]; rfl, ?_⟩
      intro y hy
      rw [take_next z k 0 hkz] at hy
      rcases List.mem_append.1 hy with hy | hy
      · exact hall y hy
      · rw [List.mem_singleton.1 hy]; exact h0
    · have : k = z.length := by omega
      subst this
      rw [List.take_length] at hall
      have ha : z.all (fun w => decide (w = 0)) = true := by
        rw [List.all_eq_true]; intro y hy; simpa using hall y hy
      have hb : readB l = true := by simp [readB, hz, ha, hc, h32]
      unfold readV
      rw [if_pos hb]
      exact post_val rfl rfl

/-! Numbers -/
def Numbers.B (a b : List Int) : Bool := decide (a = b)
def lamplighterref02_Numbers.C : Contract
  | [.sl _ (.ints .i64 a), .sl _ (.ints .i64 b)] => some (false, pD (roomy a.length) (.bool (decide (a = b))))
  | _ => none
theorem lamplighterref02_Numbers.spec : FSpec Try.prog 22 lamplighterref02_Numbers.C := by
  refine FSpec.of (ctx_ok (F := []) (S := []) (by simp) (by simp) lamplighterref02_Numbers.loops) lamplighterref02_Numbers.at lamplighterref02_Numbers.nm lamplighterref02_Numbers.bd ?_
  intro vs b S v news e hS
  unfold lamplighterref02_Numbers.C at e
  split at e
  rotate_left
  · cases e
  cases e
  rw [lamplighterref02_Numbers.eq]
  unfold lamplighterref02_Numbers.H
  simp only [go_sem, Nat.reduceEqDiff, Nat.reduceLT, Nat.reduceAdd, Nat.reduceSub, Nat.reduceLeDiff, List.reduceReplicate, Int.reduceToNat]
  rename_i a _ b
  unfold roomy at hS
  refine ⟨fun hne => ?_, fun heq => ?_⟩
  · have : decide (a = b) = false := by rw [decide_eq_false_iff_not]; rintro rfl; exact hne rfl
    rw [this]; exact post_val rfl rfl
  rw [joinW_eq]
  unfold lamplighterref02_Numbers.L1
  have hlen : a.length = b.length := by omega
  refine ⟨fun m lv h' => ∃ k : Nat, k + m = a.length ∧ lv = [.int .i64 k] ∧ h' = [] ∧ ∀ i, i < k → a.getD i 0 = b.getD i 0, ⟨a.length, 0, by omega, rfl, rfl, fun i hi => by omega⟩, ?_⟩
  rintro m h' t8 ⟨k, hk, hlv, rfl, hall⟩
  simp only [List.cons.injEq, and_true] at hlv
  subst hlv
  simp only [go_sem, Nat.reduceEqDiff, Nat.reduceLT, Nat.reduceAdd, Nat.reduceSub, Nat.reduceLeDiff, List.reduceReplicate, Int.reduceToNat]
  refine ⟨fun hlt => ⟨by omega, by omega, fun h0 => ?_, fun h0 => ?_⟩, fun hge => ?_⟩
  · have : decide (a = b) = false := by rw [decide_eq_false_iff_not]; rintro rfl; exact h0 rfl
    rw [this]; exact post_val rfl rfl
  · refine ⟨m - 1, by omega, k + 1, by omega, by rw [w64 (by omega) (by omega)]; rfl, ?_⟩
    intro i hi
    by_cases e : i = k
    · subst e; exact h0
    · exact hall i (by omega)
  · have : a = b := by
      apply List.ext_getElem hlen
      intro i h1 h2
      have := hall i (by omega)
      rw [List.getD_eq_getElem?_getD, List.getD_eq_getElem?_getD, List.getElem?_eq_getElem h1, List.getElem?_eq_getElem h2] at this
      exact this
    rw [decide_eq_true this]; exact post_val rfl rfl

def lamplighterlaw08_awake.C : Contract
  | [] => some (false, pD True (.bool true))
  | _ => none
theorem lamplighterlaw08_awake.spec : FSpec Try.prog 15 lamplighterlaw08_awake.C := by
  refine FSpec.of (ctx_ok (F := [(16, super_Words.C), (18, super_Read.C), (20, super_Root.C)]) (S := []) (by simpa using ⟨super_Words.spec, super_Read.spec, super_Root.spec⟩) (by simp) lamplighterlaw08_awake.loops) lamplighterlaw08_awake.at lamplighterlaw08_awake.nm lamplighterlaw08_awake.bd ?_
  intro vs b S v news e hS
  unfold lamplighterlaw08_awake.C at e
  split at e
  rotate_left
  · cases e
  cases e
  rw [lamplighterlaw08_awake.eq]
  unfold lamplighterlaw08_awake.H
  simp only [go_sem, Nat.reduceEqDiff, Nat.reduceLT, Nat.reduceAdd, Nat.reduceSub, Nat.reduceLeDiff, List.reduceReplicate, Int.reduceToNat, super_Words.C, super_Read.C, super_Root.C, superW]
  have m1 : mayB 2 1 = true := by decide
  have m2 : mayB 5 4 = true := by decide
  have m3 : mayB 1 1 = false := by decide
  have r1 : readV [7015, 2, sumOf [7015, 2], 1, 0, 0, 0, 0, 0, 0, 0, 0, 0, 0, 0, 0, 0, 0, 0, 0, 0, 0, 0, 0, 0, 0, 0, 0, 0, 0, 0, 0] = .tup [.int .i64 2, .int .i64 1, .int .i64 0] := by
    have : readB [7015, 2, sumOf [7015, 2], 1, 0, 0, 0, 0, 0, 0, 0, 0, 0, 0, 0, 0, 0, 0, 0, 0, 0, 0, 0, 0, 0, 0, 0, 0, 0, 0, 0, 0] = true := by simp [readB, headB, m1]
    unfold readV; rw [if_pos this]; rfl
  have r2 : readV [7015, 2, sumOf [7015, 2], 1, 0, 0, 0, 0, 0, 0, 0, 0, 0, 0, 0, 0] = .tup [.int .i64 0, .int .i64 0, .int .i64 80] := by
    have : readB [7015, 2, sumOf [7015, 2], 1, 0, 0, 0, 0, 0, 0, 0, 0, 0, 0, 0, 0] = false := by simp [readB]
    unfold readV; rw [this]; rfl
  simp only [m1, m2, m3, r1, r2, go_sem, Nat.reduceEqDiff, Nat.reduceLT, Nat.reduceAdd, Nat.reduceSub, Nat.reduceLeDiff, List.reduceReplicate, Int.reduceToNat, super_Read.C]
  refine ⟨by unfold roomy; decide, by decide, by unfold roomy; decide, by unfold roomy; decide, by unfold roomy; decide, ?_⟩
  exact ⟨by decide, by decide, post_val rfl rfl⟩
end Lam
