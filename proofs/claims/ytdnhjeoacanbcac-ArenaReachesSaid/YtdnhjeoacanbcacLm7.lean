/- What functions of the program come to, each proved from its code. -/
import Derived.Test.YtdnhjeoacanbcacLm6
namespace Lam
open Go Go.Proofs
set_option linter.unusedVariables false
set_option linter.unnecessarySimpa false
set_option linter.unusedSimpArgs false
def arena_reach_higher.K : Con := higherK 100000
theorem arena_reach_higher.spec : SSpec Try.prog 55 arena_reach_higher.K := higher_sp _
def reachQ (w : List Int) (v : AV) : Prop := match lookO (readB w) w with
  | none => v = .tup [.sl false (.ints .i64 []), .int .i64 110]
  | some l => ∃ a : Int → Bool, (∀ k, marksL w mark0 l k = true → a k = true) ∧ ((∀ nd, nodeO w (w.getD 3 0) = some nd → nd.level = 0) → a = marksL w mark0 l) ∧ v = .tup [.sl false (.ints .i64 (reached a (w.getD 1 0).toNat)), .int .i64 0]
def arena_Reach.Q : QCon
  | [.sl _ (.ints .i64 w)] => some (smallW w, reachQ w)
  | _ => none
abbrev arena_Reach.K : Con := Qcon arena_Reach.Q
set_option maxRecDepth 20000 in
set_option maxHeartbeats 1000000 in
theorem arena_Reach.qspec : QSpec Try.prog 18 arena_Reach.Q := by
  refine QSpec.ofD (ctx_ok (F := [(54, super_Read.C)]) (S := [(51, arena_look.K), (53, arena_nodeOf.K), (52, arena_reach_node.K), (55, arena_reach_higher.K)]) (by simpa using super_Read.spec) (by simpa using ⟨arena_look.jspec.con, arena_nodeOf.jspec.con, arena_reach_node.spec, arena_reach_higher.spec⟩) arena_Reach.loops) arena_told.tspec arena_Reach.at arena_Reach.nm arena_Reach.bd ?_
  intro vs S q e hS
  unfold arena_Reach.Q at e
  split at e
  rotate_left
  · cases e
  cases e
  rw [arena_Reach.eq]
  unfold arena_Reach.H
  simp (maxSteps := 4000000) only [go_sem, Nat.reduceEqDiff, Nat.reduceLT, Nat.reduceAdd, Nat.reduceSub, Nat.reduceLeDiff, List.reduceReplicate, Int.reduceToNat, super_Read.C, arena_look.K, arena_look.J, arena_nodeOf.K, arena_nodeOf.J]
  rename_i _ w
  have hsl : ∀ {l : List Int}, lookO (readB w) w = some l → chainO (readB w) w = some l := by
    intro l h
    unfold lookO at h
    split at h
    · cases h
    · rename_i l' hl'
      split at h
      · cases h; exact hl'
      · cases h
  refine ⟨hS, fun hp => ⟨rfl, ?_⟩, fun hp => ?_⟩
  · rw [Option.isNone_iff_eq_none] at hp
    refine ⟨.tup [.sl false (.ints .i64 []), .int .i64 110], by unfold reachQ; rw [hp], post_val rfl rfl⟩
  · obtain ⟨l, hl⟩ := some_of hp
    obtain ⟨hb, hnd, hrg, hlen, _, hnodes⟩ := chainO_some (hsl hl)
    have hw16 := hS.1
    have hr : sreadV w = .tup [.int .i64 (w.getD 1 0), .int .i64 (w.getD 3 0), .int .i64 0] := by unfold sreadV; rw [hb]; rfl
    obtain ⟨nb, hnb, hnb2⟩ : ∃ nb : Nat, w.getD 1 0 = nb ∧ nb ≤ 256 := by
      unfold readB headB mayB at hb
      simp only [Bool.and_eq_true, decide_eq_true_eq] at hb
      exact ⟨(w.getD 1 0).toNat, by omega, by omega⟩
    simp only [hl, Option.getD_some, joinW_eq]
    unfold arena_Reach.L1
    refine loop1 (σ := Nat) (fun k => .int .i64 k) (fun k => [.box (.int .i64 0), .map (.ib (marksL w mark0 (l.take k))), .map (.ib fun _ => false), .box (.agg [.sl false (.ints .i64 w), .map 1, .map 2]), .row .own 0 (.ints .i64 l)]) (fun k => l.length - k) (fun k => k ≤ l.length) 0 rfl rfl (Nat.zero_le _) ?_
    intro I back k hk
    have hm0 : ∀ (m1 m2 : Int → Bool), (∀ k, marksL w mark0 l k = true → m1 k = true) → ((∀ nd, nodeO w (w.getD 3 0) = some nd → nd.level = 0) → m1 = marksL w mark0 l) → reachQ w (.tup [.sl false (.ints .i64 (reached m1 nb)), .int .i64 0]) := by
      intro m1 m2 h1 h2
      unfold reachQ
      rw [hl]
      exact ⟨m1, h1, h2, by rw [hnb, Int.toNat_natCast]⟩
    by_cases hlt : k < l.length
    · obtain ⟨n, hn, _⟩ := hnodes (l.getD k 0) (getD_mem l k 0 hlt)
      obtain ⟨n1, n2, n3, n4, n5⟩ := n
      have hok := (nodeO_some hn).1
      have hs5 : n5.length ≤ 13 := hok.2.2.2.2.2.2.1
      simp only [arena_nodeOf.J, hn, Option.isNone_some, Option.getD_some, go_sem, Nat.reduceEqDiff, Nat.reduceLT, Nat.reduceAdd, Nat.reduceSub, Nat.reduceLeDiff, List.reduceReplicate, Int.reduceToNat]
      refine ⟨fun h => ⟨⟨by omega, by omega⟩, hlt, hS, ?_⟩, fun h => absurd h (by omega)⟩
      unfold arena_reach_node.K
      refine ⟨w, 1, 2, _, _, rfl, rfl, rfl, by decide, by omega, ?_⟩
      simp only [go_sem, Nat.reduceEqDiff, Nat.reduceLT, Nat.reduceAdd, Nat.reduceSub, Nat.reduceLeDiff, List.reduceReplicate, Int.reduceToNat]
      refine back (k + 1) (by omega) (by rw [wnext (by omega)]) ?_ (by omega)
      rw [take_next l k 0 hlt, marksL_snoc, hn]; rfl
    · obtain rfl : k = l.length := by omega
      simp only [super_Read.C, hr, hnb, List.take_length, go_sem, Nat.reduceEqDiff, Nat.reduceLT, Nat.reduceAdd, Nat.reduceSub, Nat.reduceLeDiff, List.reduceReplicate, Int.reduceToNat]
      refine ⟨fun h => absurd h (by omega), fun _ => ⟨hS.roomy, ?_⟩⟩
      unfold arena_reach_higher.K higherK
      refine ⟨w, 1, 2, _, _, rfl, rfl, rfl, hS, ?_, .inl ⟨rfl, rfl, by decide⟩, fun m1 m2 hp => ?_⟩
      · unfold unseen
        refine Nat.lt_of_le_of_lt List.countP_le_length ?_
        rw [List.length_range]; omega
      have hq := hm0 m1 m2 hp.1 hp.2.2
      simp only [go_sem, Nat.reduceEqDiff, Nat.reduceLT, Nat.reduceAdd, Nat.reduceSub, Nat.reduceLeDiff, List.reduceReplicate, Int.reduceToNat]
      unfold arena_Reach.L2
      refine loop2 (σ := Nat) (fun k => .sref false 5 (reached m1 k).length 0 (reached m1 k).length) (fun k => .int .i64 k) (fun k => [.box (.int .i64 0), .map (.ib m1), .map (.ib m2), .box (.agg [.sl false (.ints .i64 w), .map 1, .map 2]), .row .own 0 (.ints .i64 l), .row .own (reached m1 k).length (.ints .i64 (reached m1 k))]) (fun k => nb - k) (fun k => k ≤ nb) 0 rfl rfl (Nat.zero_le _) ?_
      intro I2 back2 j hj
      have hrl := reached_len m1 j
      have hnx := reached_next m1 j
      simp only [go_sem, Nat.reduceEqDiff, Nat.reduceLT, Nat.reduceAdd, Nat.reduceSub, Nat.reduceLeDiff, List.reduceReplicate, Int.reduceToNat]
      refine ⟨fun h => ?_, fun h => ?_⟩
      · rw [joinW_eq]
        refine ⟨fun hm => ?_, fun hm => ?_⟩
        · rw [if_pos hm] at hnx
          have hl1 : (reached m1 j ++ [(j : Int)]).length = (reached m1 j).length + 1 := by simp
          refine ⟨by rw [hl1]; unfold roomy; omega, ?_⟩
          simp only [go_sem, Nat.reduceEqDiff, Nat.reduceLT, Nat.reduceAdd, Nat.reduceSub, Nat.reduceLeDiff, List.reduceReplicate, Int.reduceToNat]
          refine back2 (j + 1) (by omega) ?_ ?_ (by omega)
          · rw [hnx, hl1, wnext (by omega)]
          · rw [hnx, hl1]
        · rw [if_neg (by rw [hm]; decide)] at hnx
          simp only [go_sem, Nat.reduceEqDiff, Nat.reduceLT, Nat.reduceAdd, Nat.reduceSub, Nat.reduceLeDiff, List.reduceReplicate, Int.reduceToNat]
          refine back2 (j + 1) (by omega) ?_ ?_ (by omega)
          · rw [hnx, wnext (by omega)]
          · rw [hnx]
      · obtain rfl : j = nb := by omega
        refine ⟨_, hq, post_val ?_ rfl⟩
        simp only [List.take_length, go_sem, Nat.reduceEqDiff, Nat.reduceLT, Nat.reduceAdd, Nat.reduceSub, Nat.reduceLeDiff, List.reduceReplicate, Int.reduceToNat]
end Lam
namespace Lam
open Go Go.Proofs
set_option linter.unusedVariables false
set_option linter.unnecessarySimpa false
set_option linter.unusedSimpArgs false
theorem look_parts {w l : List Int} (hl : lookO (readB w) w = some l) : chainO (readB w) w = some l ∧ leavesB w l 0 [] = true ∧ readB w = true := by
  unfold lookO at hl
  split at hl
  · cases hl
  · rename_i l' hl'
    split at hl
    · rename_i hb; cases hl; exact ⟨hl', hb, (chainO_some hl').1⟩
    · cases hl
theorem read_small {w : List Int} (h : readB w = true) : 2 ≤ w.length / 16 := by
  unfold readB at h
  simp only [Bool.and_eq_true, decide_eq_true_eq] at h
  omega
theorem read_blocks {w : List Int} (h : readB w = true) : w.getD 1 0 = ((w.length / 16 : Nat) : Int) := by
  unfold readB headB at h
  simp only [Bool.and_eq_true, decide_eq_true_eq] at h
  exact h.1.2.2
theorem marksL_base {w : List Int} : ∀ {l : List Int} {m : Int → Bool} {k : Int}, m k = true → marksL w m l k = true
  | [], _, _, h => h
  | b :: l, m, k, h => by
    simp only [marksL]
    exact marksL_base (by unfold markN; rw [h]; rfl)
theorem marksL_node {w : List Int} : ∀ {l : List Int} {m : Int → Bool} {b k : Int}, b ∈ l → markN (fun _ => false) ((nodeO w b).getD zeroNd) b k = true → marksL w m l k = true
  | [], _, _, _, h, _ => by cases h
  | a :: l, m, b, k, h, hk => by
    simp only [marksL]
    rcases List.mem_cons.1 h with rfl | h
    · refine marksL_base ?_
      unfold markN at hk ⊢
      simp only [Bool.false_or] at hk
      rw [Bool.or_assoc, Bool.or_assoc] 
      rw [Bool.or_assoc] at hk
      rw [hk, Bool.or_true]
    · exact marksL_node h hk
theorem reached_mem {m : Int → Bool} {n : Nat} {x : Int} : x ∈ reached m n ↔ 0 ≤ x ∧ x < (n : Int) ∧ m x = true := by
  unfold reached
  simp only [List.mem_filter, List.mem_map, List.mem_range]
  constructor
  · rintro ⟨⟨k, hk, rfl⟩, hm⟩; exact ⟨by omega, by omega, hm⟩
  · rintro ⟨h1, h2, h3⟩; exact ⟨⟨x.toNat, by omega, by omega⟩, h3⟩
theorem reached_rises (m : Int → Bool) (n : Nat) : (reached m n).Pairwise (· < ·) := by
  unfold reached
  refine List.Pairwise.filter _ ?_
  rw [List.pairwise_map]
  exact (List.pairwise_lt_range).imp fun h => by omega
end Lam
namespace Lam
open Go Go.Proofs
set_option linter.unusedVariables false
def lamplighterref02_Numbers.loops : Nat → LInfo
  | 4 => ⟨[5], [false], [0, 1], [], [], []⟩
  | _ => ⟨[], [], [], [], [], []⟩
def lamplighterref02_Numbers.L1 (c : Ctx) (J1 : List AObj → Prop) (K : AOut → List AObj → Prop) (lv : List AV) (h0 : List AObj) (n0 : Nat) (c0 : AV) (c1 : AV) : Prop :=
  ∃ I : Nat → List AV → List AObj → Prop, (∃ n, I n lv h0) ∧ ∀ n h, ∀ t5, I n [t5] h →
    runD (lenD T_sl_int h c0) h fun t13 h =>
    runD (binD T_int .lss t5 t13) h fun t14 h =>
    condW t14
    (runD (indexAddrD T_sl_int h c0 t5) h fun t19 h =>
    runD (fitD T_int (loadD h t19)) h fun t20 h =>
    runD (indexAddrD T_sl_int h c1 t5) h fun t23 h =>
    runD (fitD T_int (loadD h t23)) h fun t24 h =>
    runD (binD T_int .neq t20 t24) h fun t25 h =>
    condW t25
    (K (.ret (.bool false)) h)
    (runD (binD T_int .add t5 (.int .i64 1)) h fun t16 h =>
    (∃ m, m < n ∧ I m (AV.norms n0 h [t16]) (normH n0 h)) ∧ AV.norms n0 h [c0, c1] = [c0, c1]))
    (J1 h)
def lamplighterref02_Numbers.H (c : Ctx) (t0 : AV) (t1 : AV) (h : List AObj) (K : AOut → List AObj → Prop) : Prop :=
  runD (lenD T_sl_int h t0) h fun t7 h =>
  runD (lenD T_sl_int h t1) h fun t9 h =>
  runD (binD T_int .neq t7 t9) h fun t10 h =>
  condW t10
  (K (.ret (.bool false)) h)
  (joinW (fun (J1 : List AObj → Prop) =>
  promV [false] [(.int .i64 0)] h fun lv h => lamplighterref02_Numbers.L1 c J1 K (AV.norms h.length h lv) (normH h.length h) h.length (AV.norm h.length h t0) (AV.norm h.length h t1))
  (fun h => K (.ret (.bool true)) h))
def lamplighterref02_Text.loops : Nat → LInfo
  | 1 => ⟨[], [], [], [(3, none), (5, some [15, 20])], [], []⟩
  | 5 => ⟨[6, 7], [true, false], [0, 1], [], [], []⟩
  | 12 => ⟨[8, 9, 10], [false, false, false], [0, 1, 6, 7], [], [], []⟩
  | _ => ⟨[], [], [], [], [], []⟩
def lamplighterref02_Text.L2 (c : Ctx) (J4 : AV → AV → AV → AV → AV → List AObj → Prop) (K : AOut → List AObj → Prop) (lv : List AV) (h0 : List AObj) (n0 : Nat) (c0 : AV) (c1 : AV) (c6 : AV) (c7 : AV) : Prop :=
  ∃ I : Nat → List AV → List AObj → Prop, (∃ n, I n lv h0) ∧ ∀ n h, ∀ t8, ∀ t9, ∀ t10, I n [t8, t9, t10] h →
    runD (binD T_int .lss t10 (.int .i64 7)) h fun t38 h =>
    condW t38
    (runD (binD T_int .rem t9 (.int .i64 256)) h fun t42 h =>
    runD (convD h T_int T_uint8 t42) h fun t43 h =>
    runD (buildSliceD T_sl_uint8 1 [(0, t43)] h.length) h fun t44 h =>
    runDM (appendD T_sl_uint8 h t44 t8 h.length) (appendH T_sl_uint8 h t44 t8) h fun t46 h =>
    runD (binD T_int .quo t9 (.int .i64 256)) h fun t48 h =>
    runD (binD T_int .add t10 (.int .i64 1)) h fun t40 h =>
    (∃ m, m < n ∧ I m (AV.norms n0 h [t46, t48, t40]) (normH n0 h)) ∧ AV.norms n0 h [c0, c1, c6, c7] = [c0, c1, c6, c7])
    (J4 c0 c1 c6 c7 t8 h)
def lamplighterref02_Text.L1 (c : Ctx) (J2 : AV → AV → AV → List AObj → Prop) (K : AOut → List AObj → Prop) (lv : List AV) (h0 : List AObj) (n0 : Nat) (c0 : AV) (c1 : AV) : Prop :=
  ∃ I : Nat → List AV → List AObj → Prop, (∃ n, I n lv h0) ∧ ∀ n h, ∀ t6, ∀ t7, I n [t6, t7] h →
    runD (lenD T_sl_int h c0) h fun t24 h =>
    runD (binD T_int .lss t7 t24) h fun t25 h =>
    condW t25
    (joinW (fun (J3 : AV → AV → AV → AV → List AObj → Prop) =>
    runD (indexAddrD T_sl_int h c0 t7) h fun t30 h =>
    runD (fitD T_int (loadD h t30)) h fun t31 h =>
    runD (binD T_int .lss t31 (.int .i64 0)) h fun t32 h =>
    condW t32
    (K (.ret (.tup [(.str []), (.int .i64 20)])) h)
    (runD (indexAddrD T_sl_int h c0 t7) h fun t35 h =>
    runD (fitD T_int (loadD h t35)) h fun t36 h =>
    joinW (fun (J4 : AV → AV → AV → AV → AV → List AObj → Prop) =>
    promV [false, false, false] [(.sl true (.ints .u8 [])), t36, (.int .i64 0)] h fun lv h => lamplighterref02_Text.L2 c J4 K (AV.norms h.length h lv) (normH h.length h) h.length (AV.norm h.length h c0) (AV.norm h.length h c1) (AV.norm h.length h t6) (AV.norm h.length h t7))
    (fun t0 t1 t6 t7 t8 h => runDM (appendD T_sl_uint8 h t6 t8 h.length) (appendH T_sl_uint8 h t6 t8) h fun t51 h =>
    J3 t0 t1 t51 t7 h)))
    (fun t0 t1 t6 t7 h => runD (binD T_int .add t7 (.int .i64 1)) h fun t27 h =>
    (∃ m, m < n ∧ I m (AV.norms n0 h [t6, t27]) (normH n0 h)) ∧ AV.norms n0 h [t0, t1] = [c0, c1]))
    (J2 c0 c1 t6 h)
def lamplighterref02_Text.H (c : Ctx) (t0 : AV) (t1 : AV) (h : List AObj) (K : AOut → List AObj → Prop) : Prop :=
  runD (binD T_int .lss t1 (.int .i64 0)) h fun t14 h =>
  joinW (fun (J1 : AV → AV → List AObj → Prop) =>
  guardW t14 false
  (runD (lenD T_sl_int h t0) h fun t18 h =>
    runD (binD T_int .mul (.int .i64 7) t18) h fun t19 h =>
    runD (binD T_int .gtr t1 t19) h fun t20 h =>
    J1 (.bool false) t20 h)
  (J1 (.bool true) .und h))
  (fun t15 t20 h => runD (pickD t15 (.bool true) t20) h fun t21 h =>
  condW t21
  (K (.ret (.tup [(.str []), (.int .i64 20)])) h)
  (joinW (fun (J2 : AV → AV → AV → List AObj → Prop) =>
  promV [true, false] [(.sl true (.ints .u8 [])), (.int .i64 0)] h fun lv h => lamplighterref02_Text.L1 c J2 K (AV.norms h.length h lv) (normH h.length h) h.length (AV.norm h.length h t0) (AV.norm h.length h t1))
  (fun t0 t1 t6 h => runD (sliceD T_sl_uint8 h t6 none (some t1) none) h fun t54 h =>
  runD (convD h T_sl_uint8 T_string t54) h fun t55 h =>
  callW false c (.fn (.func 124) [] []) [t55] h (fun t57 h =>
  callW false c (.fn (.func 20) [] []) [t57, t0] h (fun t60 h =>
  runD (unD .not t60) h fun t61 h =>
  condW t61
  (K (.ret (.tup [(.str []), (.int .i64 20)])) h)
  (K (.ret (.tup [t55, (.int .i64 0)])) h))
  (fun v h => K (.pan v) h))
  (fun v h => K (.pan v) h))))
def lamplighterref02_Words.loops : Nat → LInfo
  | 3 => ⟨[3, 4], [true, false], [0], [], [], []⟩
  | 7 => ⟨[5, 6], [false, false], [0, 3, 4], [], [], []⟩
  | _ => ⟨[], [], [], [], [], []⟩
def lamplighterref02_Words.L2 (c : Ctx) (J3 : AV → AV → AV → AV → List AObj → Prop) (K : AOut → List AObj → Prop) (lv : List AV) (h0 : List AObj) (n0 : Nat) (c0 : AV) (c3 : AV) (c4 : AV) : Prop :=
  ∃ I : Nat → List AV → List AObj → Prop, (∃ n, I n lv h0) ∧ ∀ n h, ∀ t5, ∀ t6, I n [t5, t6] h →
    runD (binD T_int .add c4 (.int .i64 7)) h fun t16 h =>
    runD (binD T_int .lss t6 t16) h fun t17 h =>
    condW t17
    (runD (binD T_int .mul t5 (.int .i64 256)) h fun t21 h =>
    runD (lenD T_string h c0) h fun t24 h =>
    runD (binD T_int .lss t6 t24) h fun t25 h =>
    joinW (fun (J4 : AV → List AObj → Prop) =>
    condW t25
    (runD (indexD T_string c0 t6) h fun t29 h =>
      runD (convD h T_uint8 T_int t29) h fun t30 h =>
      runD (binD T_int .add t21 t30) h fun t31 h =>
      J4 t31 h)
    (J4 t21 h))
    (fun t5 h => runD (binD T_int .add t6 (.int .i64 1)) h fun t19 h =>
    (∃ m, m < n ∧ I m (AV.norms n0 h [t5, t19]) (normH n0 h)) ∧ AV.norms n0 h [c0, c3, c4] = [c0, c3, c4]))
    (J3 c0 c3 c4 t5 h)
def lamplighterref02_Words.L1 (c : Ctx) (J1 : AV → List AObj → Prop) (K : AOut → List AObj → Prop) (lv : List AV) (h0 : List AObj) (n0 : Nat) (c0 : AV) : Prop :=
  ∃ I : Nat → List AV → List AObj → Prop, (∃ n, I n lv h0) ∧ ∀ n h, ∀ t3, ∀ t4, I n [t3, t4] h →
    runD (lenD T_string h c0) h fun t9 h =>
    runD (binD T_int .lss t4 t9) h fun t10 h =>
    condW t10
    (joinW (fun (J2 : AV → AV → AV → List AObj → Prop) =>
    joinW (fun (J3 : AV → AV → AV → AV → List AObj → Prop) =>
    promV [false, false] [(.int .i64 0), t4] h fun lv h => lamplighterref02_Words.L2 c J3 K (AV.norms h.length h lv) (normH h.length h) h.length (AV.norm h.length h c0) (AV.norm h.length h t3) (AV.norm h.length h t4))
    (fun t0 t3 t4 t5 h => runD (buildSliceD T_sl_int 1 [(0, t5)] h.length) h fun t34 h =>
    runDM (appendD T_sl_int h t3 t34 h.length) (appendH T_sl_int h t3 t34) h fun t35 h =>
    J2 t0 t35 t4 h))
    (fun t0 t3 t4 h => runD (binD T_int .add t4 (.int .i64 7)) h fun t12 h =>
    (∃ m, m < n ∧ I m (AV.norms n0 h [t3, t12]) (normH n0 h)) ∧ AV.norms n0 h [t0] = [c0]))
    (J1 t3 h)
def lamplighterref02_Words.H (c : Ctx) (t0 : AV) (h : List AObj) (K : AOut → List AObj → Prop) : Prop :=
  joinW (fun (J1 : AV → List AObj → Prop) =>
  promV [true, false] [(.sl true (.ints .i64 [])), (.int .i64 0)] h fun lv h => lamplighterref02_Words.L1 c J1 K (AV.norms h.length h lv) (normH h.length h) h.length (AV.norm h.length h t0))
  (fun t3 h => K (.ret t3) h)
def lamplighterref02_Check.loops : Nat → LInfo
  | 1 => ⟨[], [], [], [(4, none), (3, some [6, 9])], [], []⟩
  | _ => ⟨[], [], [], [], [], []⟩
def lamplighterref02_Check.H (c : Ctx) (t0 : AV) (h : List AObj) (K : AOut → List AObj → Prop) : Prop :=
  runD (lenD T_string h t0) h fun t4 h =>
  runD (binD T_int .geq t4 (.int .i64 1)) h fun t5 h =>
  joinW (fun (J1 : AV → AV → List AObj → Prop) =>
  guardW t5 true
  (runD (lenD T_string h t0) h fun t8 h =>
    runD (binD T_int .leq t8 (.int .i64 21)) h fun t9 h =>
    J1 (.bool true) t9 h)
  (J1 (.bool false) .und h))
  (fun t6 t9 h => runD (pickD t6 t9 (.bool false)) h fun t10 h =>
  K (.ret t10) h)
def lamplighterref02_CheckVal.loops : Nat → LInfo
  | _ => ⟨[], [], [], [], [], []⟩
def lamplighterref02_CheckVal.H (c : Ctx) (t0 : AV) (h : List AObj) (K : AOut → List AObj → Prop) : Prop :=
  runD (lenD T_string h t0) h fun t4 h =>
  runD (binD T_int .leq t4 (.int .i64 21)) h fun t5 h =>
  K (.ret t5) h
theorem lamplighterref02_Numbers.eq (F : List (FuncId × Contract)) (S : List (FuncId × Con)) (t0 t1 : AV) (h : List AObj) (K : AOut → List AObj → Prop) : funW (ctx F S lamplighterref02_Numbers.loops) Try.f20 [t0, t1] h K = lamplighterref02_Numbers.H (ctx F S lamplighterref02_Numbers.loops) t0 t1 h K := by kernel_rfl
theorem lamplighterref02_Text.eq (F : List (FuncId × Contract)) (S : List (FuncId × Con)) (t0 t1 : AV) (h : List AObj) (K : AOut → List AObj → Prop) : funW (ctx F S lamplighterref02_Text.loops) Try.f96 [t0, t1] h K = lamplighterref02_Text.H (ctx F S lamplighterref02_Text.loops) t0 t1 h K := by kernel_rfl
theorem lamplighterref02_Words.eq (F : List (FuncId × Contract)) (S : List (FuncId × Con)) (t0 : AV) (h : List AObj) (K : AOut → List AObj → Prop) : funW (ctx F S lamplighterref02_Words.loops) Try.f124 [t0] h K = lamplighterref02_Words.H (ctx F S lamplighterref02_Words.loops) t0 h K := by kernel_rfl
theorem lamplighterref02_Check.eq (F : List (FuncId × Contract)) (S : List (FuncId × Con)) (t0 : AV) (h : List AObj) (K : AOut → List AObj → Prop) : funW (ctx F S lamplighterref02_Check.loops) Try.f142 [t0] h K = lamplighterref02_Check.H (ctx F S lamplighterref02_Check.loops) t0 h K := by kernel_rfl
theorem lamplighterref02_CheckVal.eq (F : List (FuncId × Contract)) (S : List (FuncId × Con)) (t0 : AV) (h : List AObj) (K : AOut → List AObj → Prop) : funW (ctx F S lamplighterref02_CheckVal.loops) Try.f143 [t0] h K = lamplighterref02_CheckVal.H (ctx F S lamplighterref02_CheckVal.loops) t0 h K := by kernel_rfl
theorem lamplighterref02_Numbers.at : Try.prog.funcs[20]? = some Try.f20 := by kernel_rfl
theorem lamplighterref02_Numbers.nm : (Try.f20.name == "runtime.NumGoroutine") = false := by kernel_rfl
theorem lamplighterref02_Numbers.bd : Try.f20.body.isNone = false := by kernel_rfl
theorem lamplighterref02_Text.at : Try.prog.funcs[96]? = some Try.f96 := by kernel_rfl
theorem lamplighterref02_Text.nm : (Try.f96.name == "runtime.NumGoroutine") = false := by kernel_rfl
theorem lamplighterref02_Text.bd : Try.f96.body.isNone = false := by kernel_rfl
theorem lamplighterref02_Words.at : Try.prog.funcs[124]? = some Try.f124 := by kernel_rfl
theorem lamplighterref02_Words.nm : (Try.f124.name == "runtime.NumGoroutine") = false := by kernel_rfl
theorem lamplighterref02_Words.bd : Try.f124.body.isNone = false := by kernel_rfl
theorem lamplighterref02_Check.at : Try.prog.funcs[142]? = some Try.f142 := by kernel_rfl
theorem lamplighterref02_Check.nm : (Try.f142.name == "runtime.NumGoroutine") = false := by kernel_rfl
theorem lamplighterref02_Check.bd : Try.f142.body.isNone = false := by kernel_rfl
theorem lamplighterref02_CheckVal.at : Try.prog.funcs[143]? = some Try.f143 := by kernel_rfl
theorem lamplighterref02_CheckVal.nm : (Try.f143.name == "runtime.NumGoroutine") = false := by kernel_rfl
theorem lamplighterref02_CheckVal.bd : Try.f143.body.isNone = false := by kernel_rfl
end Lam
namespace Lam
open Go Go.Proofs
set_option linter.unusedVariables false
set_option linter.unnecessarySimpa false
set_option linter.unusedSimpArgs false
def lamplighterref02_Numbers.C : Contract
  | [.sl _ (.ints .i64 a), .sl _ (.ints .i64 b)] => some (false, pD (roomy a.length) (.bool (decide (a = b))))
  | _ => none
set_option maxRecDepth 20000 in
theorem lamplighterref02_Numbers.spec : FSpec Try.prog 20 lamplighterref02_Numbers.C := by
  refine FSpec.of (ctx_ok (F := []) (S := []) (by simp) (by simp) lamplighterref02_Numbers.loops) lamplighterref02_Numbers.at lamplighterref02_Numbers.nm lamplighterref02_Numbers.bd ?_
  intro vs b S v news e hS
  unfold lamplighterref02_Numbers.C at e
  split at e
  rotate_left
  · cases e
  cases e
  rw [lamplighterref02_Numbers.eq]
  unfold lamplighterref02_Numbers.H
  simp (maxSteps := 4000000) only [go_sem, Nat.reduceEqDiff, Nat.reduceLT, Nat.reduceAdd, Nat.reduceSub, Nat.reduceLeDiff, List.reduceReplicate, Int.reduceToNat]
  rename_i a _ b
  unfold roomy at hS
  refine ⟨fun hne => ?_, fun heq => ?_⟩
  · have : decide (a = b) = false := by rw [decide_eq_false_iff_not]; rintro rfl; exact hne rfl
    rw [this]; exact post_val rfl rfl
  rw [joinW_eq]
  unfold lamplighterref02_Numbers.L1
  have hlen : a.length = b.length := by omega
  refine loop1 (fun k : Nat => .int .i64 k) (fun _ => []) (fun k => a.length - k) (fun k => k ≤ a.length ∧ ∀ i, i < k → a.getD i 0 = b.getD i 0) 0 rfl rfl ⟨Nat.zero_le _, fun i hi => absurd hi (Nat.not_lt_zero i)⟩ ?_
  rintro I back k ⟨hk, hall⟩
  simp only [go_sem, Nat.reduceEqDiff, Nat.reduceLT, Nat.reduceAdd, Nat.reduceSub, Nat.reduceLeDiff, List.reduceReplicate, Int.reduceToNat]
  refine ⟨fun hlt => ⟨by omega, by omega, fun h0 => ?_, fun h0 => ?_⟩, fun hge => ?_⟩
  · have : decide (a = b) = false := by rw [decide_eq_false_iff_not]; rintro rfl; exact h0 rfl
    rw [this]; exact post_val rfl rfl
  · refine back (k + 1) (by omega) (by rw [wnext (by omega)]) rfl ⟨by omega, fun i hi => ?_⟩
    by_cases e : i = k
    · subst e; exact h0
    · exact hall i (by omega)
  · rw [decide_eq_true (ext_d 0 hlen fun i hi => hall i (by omega))]; exact post_val rfl rfl
end Lam
namespace Lam
open Go Go.Proofs
set_option linter.unusedVariables false
def lamplighterlaw11_awake.loops : Nat → LInfo
  | 7 => ⟨[], [], [], [(4, none), (2, some [43, 45]), (2, none), (3, some [47, 50]), (2, none), (2, some [52, 54]), (2, none), (3, some [56, 59]), (2, none), (2, some [61, 63]), (2, none), (2, some [65, 67]), (2, none), (2, some [69, 71]), (2, none), (2, some [73, 75]), (2, none), (2, some [77, 79]), (2, none), (3, some [81, 84]), (2, none), (2, some [86, 88])], [], []⟩
  | _ => ⟨[], [], [], [], [], []⟩
def lamplighterlaw11_awake.H (c : Ctx) (h : List AObj) (K : AOut → List AObj → Prop) : Prop :=
  callW false c (.fn (.func 16) [] []) [(.int .i64 4)] h (fun t14 h =>
  runD (extractD t14 0) h fun t15 h =>
  runD (extractD t14 1) h fun t16 h =>
  callW false c (.fn (.func 17) [] []) [t15] h (fun t19 h =>
  runD (extractD t19 0) h fun t20 h =>
  runD (extractD t19 1) h fun t21 h =>
  callW false c (.fn (.func 18) [] []) [t15] h (fun t24 h =>
  runD (extractD t24 0) h fun t25 h =>
  runD (extractD t24 1) h fun t26 h =>
  callW false c (.fn (.func 22) [] []) [t15, (.int .i64 1)] h (fun t29 h =>
  runD (extractD t29 0) h fun t30 h =>
  runD (extractD t29 1) h fun t31 h =>
  callW false c (.fn (.func 16) [] []) [(.int .i64 1)] h (fun t33 h =>
  runD (extractD t33 0) h fun t34 h =>
  runD (extractD t33 1) h fun t35 h =>
  callW false c (.fn (.func 17) [] []) [(.sl true (.ints .i64 []))] h (fun t37 h =>
  runD (extractD t37 0) h fun t38 h =>
  runD (extractD t37 1) h fun t39 h =>
  runD (lenD T_sl_int h t15) h fun t41 h =>
  runD (binD T_int .eql t41 (.int .i64 64)) h fun t42 h =>
  joinW (fun (J1 : AV → AV → List AObj → Prop) =>
  guardW t42 true
  (runD (binD T_api_Errno .eql t16 (.int .i64 0)) h fun t45 h =>
    J1 (.bool true) t45 h)
  (J1 (.bool false) .und h))
  (fun t43 t45 h => runD (pickD t43 t45 (.bool false)) h fun t46 h =>
  joinW (fun (J2 : AV → AV → List AObj → Prop) =>
  guardW t46 true
  (runD (buildSliceD T_sl_int 1 [(0, (.int .i64 1))] h.length) h fun t49 h =>
    callW false c (.fn (.func 20) [] []) [t20, t49] h (fun t50 h =>
    J2 (.bool true) t50 h)
    (fun v h => K (.pan v) h))
  (J2 (.bool false) .und h))
  (fun t47 t50 h => runD (pickD t47 t50 (.bool false)) h fun t51 h =>
  joinW (fun (J3 : AV → AV → List AObj → Prop) =>
  guardW t51 true
  (runD (binD T_api_Errno .eql t21 (.int .i64 0)) h fun t54 h =>
    J3 (.bool true) t54 h)
  (J3 (.bool false) .und h))
  (fun t52 t54 h => runD (pickD t52 t54 (.bool false)) h fun t55 h =>
  joinW (fun (J4 : AV → AV → List AObj → Prop) =>
  guardW t55 true
  (runD (buildSliceD T_sl_int 2 [(0, (.int .i64 0)), (1, (.int .i64 1))] h.length) h fun t58 h =>
    callW false c (.fn (.func 20) [] []) [t25, t58] h (fun t59 h =>
    J4 (.bool true) t59 h)
    (fun v h => K (.pan v) h))
  (J4 (.bool false) .und h))
  (fun t56 t59 h => runD (pickD t56 t59 (.bool false)) h fun t60 h =>
  joinW (fun (J5 : AV → AV → List AObj → Prop) =>
  guardW t60 true
  (runD (binD T_api_Errno .eql t26 (.int .i64 0)) h fun t63 h =>
    J5 (.bool true) t63 h)
  (J5 (.bool false) .und h))
  (fun t61 t63 h => runD (pickD t61 t63 (.bool false)) h fun t64 h =>
  joinW (fun (J6 : AV → AV → List AObj → Prop) =>
  guardW t64 true
  (runD (binD T_string .eql t30 (.str [])) h fun t67 h =>
    J6 (.bool true) t67 h)
  (J6 (.bool false) .und h))
  (fun t65 t67 h => runD (pickD t65 t67 (.bool false)) h fun t68 h =>
  joinW (fun (J7 : AV → AV → List AObj → Prop) =>
  guardW t68 true
  (runD (binD T_api_Errno .eql t31 (.int .i64 0)) h fun t71 h =>
    J7 (.bool true) t71 h)
  (J7 (.bool false) .und h))
  (fun t69 t71 h => runD (pickD t69 t71 (.bool false)) h fun t72 h =>
  joinW (fun (J8 : AV → AV → List AObj → Prop) =>
  guardW t72 true
  (runD (binD T_api_Errno .eql t35 (.int .i64 1)) h fun t75 h =>
    J8 (.bool true) t75 h)
  (J8 (.bool false) .und h))
  (fun t73 t75 h => runD (pickD t73 t75 (.bool false)) h fun t76 h =>
  joinW (fun (J9 : AV → AV → List AObj → Prop) =>
  guardW t76 true
  (runD (binD T_api_Errno .eql t39 (.int .i64 110)) h fun t79 h =>
    J9 (.bool true) t79 h)
  (J9 (.bool false) .und h))
  (fun t77 t79 h => runD (pickD t77 t79 (.bool false)) h fun t80 h =>
  joinW (fun (J10 : AV → AV → List AObj → Prop) =>
  guardW t80 true
  (callW false c (.fn (.func 19) [] []) [t15] h (fun t83 h =>
    runD (binD T_api_Errno .eql t83 (.int .i64 0)) h fun t84 h =>
    J10 (.bool true) t84 h)
    (fun v h => K (.pan v) h))
  (J10 (.bool false) .und h))
  (fun t81 t84 h => runD (pickD t81 t84 (.bool false)) h fun t85 h =>
  joinW (fun (J11 : AV → AV → List AObj → Prop) =>
  guardW t85 true
  (callW false c (.fn (.func 19) [] []) [(.sl true (.ints .i64 []))] h (fun t87 h =>
    runD (binD T_api_Errno .eql t87 (.int .i64 110)) h fun t88 h =>
    J11 (.bool true) t88 h)
    (fun v h => K (.pan v) h))
  (J11 (.bool false) .und h))
  (fun t86 t88 h => runD (pickD t86 t88 (.bool false)) h fun t89 h =>
  runD (pickD t89 (.bool true) (.bool false)) h fun t91 h =>
  K (.ret t91) h))))))))))))
  (fun v h => K (.pan v) h))
  (fun v h => K (.pan v) h))
  (fun v h => K (.pan v) h))
  (fun v h => K (.pan v) h))
  (fun v h => K (.pan v) h))
  (fun v h => K (.pan v) h)
theorem lamplighterlaw11_awake.eq (F : List (FuncId × Contract)) (S : List (FuncId × Con)) (h : List AObj) (K : AOut → List AObj → Prop) : funW (ctx F S lamplighterlaw11_awake.loops) Try.f15 [] h K = lamplighterlaw11_awake.H (ctx F S lamplighterlaw11_awake.loops)  h K := by kernel_rfl
theorem lamplighterlaw11_awake.at : Try.prog.funcs[15]? = some Try.f15 := by kernel_rfl
theorem lamplighterlaw11_awake.nm : (Try.f15.name == "runtime.NumGoroutine") = false := by kernel_rfl
theorem lamplighterlaw11_awake.bd : Try.f15.body.isNone = false := by kernel_rfl
end Lam
namespace Lam
open Go Go.Proofs
set_option linter.unusedVariables false
def lamplighterref10_In.loops : Nat → LInfo
  | 2 => ⟨[5], [false], [0, 1], [], [], []⟩
  | _ => ⟨[], [], [], [], [], []⟩
def lamplighterref10_In.L1 (c : Ctx) (J1 : List AObj → Prop) (K : AOut → List AObj → Prop) (lv : List AV) (h0 : List AObj) (n0 : Nat) (c0 : AV) (c1 : AV) : Prop :=
  ∃ I : Nat → List AV → List AObj → Prop, (∃ n, I n lv h0) ∧ ∀ n h, ∀ t5, I n [t5] h →
    runD (lenD T_sl_int h c0) h fun t8 h =>
    runD (binD T_int .lss t5 t8) h fun t9 h =>
    condW t9
    (runD (indexAddrD T_sl_int h c0 t5) h fun t14 h =>
    runD (fitD T_int (loadD h t14)) h fun t15 h =>
    runD (binD T_int .eql t15 c1) h fun t17 h =>
    condW t17
    (K (.ret (.bool true)) h)
    (runD (binD T_int .add t5 (.int .i64 1)) h fun t11 h =>
    (∃ m, m < n ∧ I m (AV.norms n0 h [t11]) (normH n0 h)) ∧ AV.norms n0 h [c0, c1] = [c0, c1]))
    (J1 h)
def lamplighterref10_In.H (c : Ctx) (t0 : AV) (t1 : AV) (h : List AObj) (K : AOut → List AObj → Prop) : Prop :=
  joinW (fun (J1 : List AObj → Prop) =>
  promV [false] [(.int .i64 0)] h fun lv h => lamplighterref10_In.L1 c J1 K (AV.norms h.length h lv) (normH h.length h) h.length (AV.norm h.length h t0) (AV.norm h.length h t1))
  (fun h => K (.ret (.bool false)) h)
theorem lamplighterref10_In.eq (F : List (FuncId × Contract)) (S : List (FuncId × Con)) (t0 t1 : AV) (h : List AObj) (K : AOut → List AObj → Prop) : funW (ctx F S lamplighterref10_In.loops) Try.f21 [t0, t1] h K = lamplighterref10_In.H (ctx F S lamplighterref10_In.loops) t0 t1 h K := by kernel_rfl
theorem lamplighterref10_In.at : Try.prog.funcs[21]? = some Try.f21 := by kernel_rfl
theorem lamplighterref10_In.nm : (Try.f21.name == "runtime.NumGoroutine") = false := by kernel_rfl
theorem lamplighterref10_In.bd : Try.f21.body.isNone = false := by kernel_rfl
end Lam
namespace Lam
set_option maxRecDepth 20000
open Go Go.Proofs
set_option linter.unusedVariables false
set_option linter.unnecessarySimpa false
set_option linter.unusedSimpArgs false
def newAr (n : Nat) : List Int := superW n 1 ++ (wordsNd zeroNd ++ List.replicate (16 * n - 32) 0)
def newArV (n : Int) : AV := if (decide (n < 2) || decide (256 < n)) = true then .tup [.sl false (.ints .i64 []), .int .i64 1] else .tup [.sl false (.ints .i64 (newAr n.toNat)), .int .i64 0]
def arena_New.C : Contract
  | [.int .i64 n] => some (false, pD True (newArV n))
  | _ => none
set_option maxRecDepth 20000 in
theorem arena_New.spec : FSpec Try.prog 16 arena_New.C := by
  refine FSpec.of (ctx_ok (F := [(48, super_Words.C), (35, node_Words.C)]) (S := []) (by simpa using ⟨super_Words.spec, node_Words.spec⟩) (by simp) arena_New.loops) arena_New.at arena_New.nm arena_New.bd ?_
  intro vs b S v news e hS
  unfold arena_New.C at e
  split at e
  rotate_left
  · cases e
  cases e
  rw [arena_New.eq]
  unfold arena_New.H
  simp (maxSteps := 4000000) only [go_sem, Nat.reduceEqDiff, Nat.reduceLT, Nat.reduceAdd, Nat.reduceSub, Nat.reduceLeDiff, List.reduceReplicate, Int.reduceToNat, super_Words.C, node_Words.C]
  rename_i n
  refine ⟨fun h => ?_, fun h => ?_⟩
  · have : newArV n = .tup [.sl false (.ints .i64 []), .int .i64 1] := by unfold newArV; rw [if_pos h]
    rw [this]; refine post_val ?_ rfl; simp only [go_sem, Nat.reduceEqDiff, Nat.reduceLT, Nat.reduceAdd, Nat.reduceSub, Nat.reduceLeDiff, List.reduceReplicate, Int.reduceToNat]
  · have hv : newArV n = .tup [.sl false (.ints .i64 (newAr n.toNat)), .int .i64 0] := by unfold newArV; rw [if_neg (by rw [h]; decide)]
    rw [hv]
    clear hv
    simp only [Bool.or_eq_false_iff, decide_eq_false_iff_not] at h
    obtain ⟨k, rfl⟩ := Int.eq_ofNat_of_zero_le (show 0 ≤ n by omega)
    have hmay : mayB (k : Int) 1 = true := by unfold mayB; simp only [Bool.and_eq_true, decide_eq_true_eq]; omega
    have e1 : IntKind.i64.wrap (16 * (k : Int)) = ((16 * k : Nat) : Int) := by rw [w64 (by omega) (by omega)]; omega
    have hz : wordsV ⟨0, 0, 0, 0, []⟩ = .tup [.sl false (.ints .i64 (wordsNd zeroNd)), .int .i64 0] := by
      unfold wordsV; rw [if_pos (by decide)]; rfl
    have hsl : (superW (k : Int) 1).length = 16 := rfl
    have hzl : (wordsNd zeroNd).length = 16 := rfl
    have hrl : (List.replicate (16 * k) (0 : Int)).length = 16 * k := List.length_replicate
    simp only [hmay, if_true, e1, hz, Int.toNat_natCast, hsl, hzl, joinW_eq, guard_tt, guard_tf, guard_ft, guard_ff, Int.reduceEq, Int.reduceLT, Int.reduceLE, decide_false, decide_true, Bool.not_false, Bool.not_true, Bool.not_not, not_true_eq_false, not_false_eq_true, true_implies, false_implies, implies_true, and_true, true_and, reduceCtorEq, Bool.and_self, Bool.or_self, Bool.and_true, Bool.true_and, Bool.false_eq_true, if_true, if_false, go_sem, Nat.reduceEqDiff, Nat.reduceLT, Nat.reduceAdd, Nat.reduceSub, Nat.reduceLeDiff, List.reduceReplicate, Int.reduceToNat]
    refine ⟨⟨by omega, by omega, by unfold roomy; omega⟩, by omega, ?_⟩
    have m1 : min (16 * k) 16 = 16 := by omega
    have m2 : min (16 * k - 16) 16 = 16 := by omega
    have t1 : (superW (k : Int) 1).take (16 * k) = superW (k : Int) 1 := List.take_of_length_le (by rw [hsl]; omega)
    have t2 : (wordsNd zeroNd).take (16 * k - 16) = wordsNd zeroNd := List.take_of_length_le (by rw [hzl]; omega)
    refine post_val ?_ rfl
    simp only [m1, m2, t1, t2, go_sem, Nat.reduceEqDiff, Nat.reduceLT, Nat.reduceAdd, Nat.reduceSub, Nat.reduceLeDiff, List.reduceReplicate, Int.reduceToNat]
    have hR : List.take (16 * k - 16) (List.drop 16 (List.replicate (16 * k) (0 : Int))) = List.replicate (16 * k - 16) 0 := by simp
    rw [hR]
    have l1 : (superW (k : Int) 1 ++ List.replicate (16 * k - 16) (0 : Int)).length = 16 * k := by rw [List.length_append, hsl, List.length_replicate]; omega
    have l2 : (superW (k : Int) 1 ++ List.replicate (16 * k - 16) (0 : Int)).take 16 = superW (k : Int) 1 := List.take_left' hsl
    have l3 : (superW (k : Int) 1 ++ List.replicate (16 * k - 16) (0 : Int)).drop 32 = List.replicate (16 * k - 32) 0 := by
      rw [List.drop_append, hsl, List.drop_of_length_le (by rw [hsl]; omega), List.drop_replicate, List.nil_append]
      rw [show 16 * k - 16 - (32 - 16) = 16 * k - 32 by omega]
    rw [l1, l2, l3]
    have l4 : (List.replicate (16 * k - 32) (0 : Int)).take (16 * k - 32) = List.replicate (16 * k - 32) 0 := by simp
    rw [l4]
    have l5 : (superW (k : Int) 1 ++ (wordsNd zeroNd ++ List.replicate (16 * k - 32) (0 : Int))).take (16 * k) = newAr k := by
      rw [List.take_of_length_le]
      · rfl
      · simp only [List.length_append, hsl, hzl, List.length_replicate]; omega
    rw [l5]
def lamplighterref10_In.C : Contract
  | [.sl _ (.ints .i64 l), .int .i64 v] => some (false, pD (roomy l.length) (.bool (decide (v ∈ l))))
  | _ => none
set_option maxRecDepth 20000 in
theorem lamplighterref10_In.spec : FSpec Try.prog 21 lamplighterref10_In.C := by
  refine FSpec.of (ctx_ok (F := []) (S := []) (by simp) (by simp) lamplighterref10_In.loops) lamplighterref10_In.at lamplighterref10_In.nm lamplighterref10_In.bd ?_
  intro vs b S v news e hS
  unfold lamplighterref10_In.C at e
  split at e
  rotate_left
  · cases e
  cases e
  rw [lamplighterref10_In.eq]
  unfold lamplighterref10_In.H
  simp (maxSteps := 4000000) only [go_sem, Nat.reduceEqDiff, Nat.reduceLT, Nat.reduceAdd, Nat.reduceSub, Nat.reduceLeDiff, List.reduceReplicate, Int.reduceToNat]
  rename_i _ l v
  rw [joinW_eq]
  unfold lamplighterref10_In.L1
  have hr := hS
  unfold roomy at hr
  refine loop1 (σ := Nat) (fun k => .int .i64 k) (fun k => []) (fun k => l.length - k) (fun k => k ≤ l.length ∧ v ∉ l.take k) 0 rfl rfl ⟨Nat.zero_le _, by simp⟩ ?_
  rintro I back k ⟨hk, hall⟩
  simp only [go_sem, Nat.reduceEqDiff, Nat.reduceLT, Nat.reduceAdd, Nat.reduceSub, Nat.reduceLeDiff, List.reduceReplicate, Int.reduceToNat]
  refine ⟨fun hlt => ⟨by omega, fun h => ?_, fun h => ?_⟩, fun hge => ?_⟩
  · have : v ∈ l := by rw [← h]; exact getD_mem l k 0 (by omega)
    rw [decide_eq_true this]; exact post_val rfl rfl
  · refine back (k + 1) (by omega) (by rw [wnext (by omega)]) rfl ⟨by omega, fun hm => ?_⟩
    rw [take_next l k 0 (by omega), List.mem_append, List.mem_singleton] at hm
    rcases hm with hm | hm
    · exact hall hm
    · exact h hm.symm
  · obtain rfl : k = l.length := by omega
    rw [List.take_length] at hall
    rw [decide_eq_false hall]; exact post_val rfl rfl
def A4 : List Int := newAr 4
theorem A4_small : smallW A4 := by
  refine ⟨by decide +kernel, ?_⟩
  have : A4.all (fun x => decide (x < 9223372036854775808)) = true := by decide +kernel
  intro x hx
  exact of_decide_eq_true (List.all_eq_true.1 this x hx)
theorem aw11_0 : newArV 4 = .tup [.sl false (.ints .i64 A4), .int .i64 0] := by unfold newArV; rw [if_neg (by decide +kernel)]; rfl
theorem A4_chain : chainO (readB A4) A4 = some [1] := by decide +kernel
theorem A4_look : lookO (readB A4) A4 = some [1] := by decide +kernel
theorem aw11_1 : leavesV A4 = .tup [.sl false (.ints .i64 [1]), .int .i64 0] := by unfold leavesV; rw [A4_chain]
theorem aw11_2 : lowV A4 1 = .tup [.str [], .int .i64 0] := by unfold lowV; rw [show (nodeO A4 1).bind (lowO A4) = some [] from by decide +kernel]
theorem aw11_3 : newArV 1 = .tup [.sl false (.ints .i64 []), .int .i64 1] := by unfold newArV; rw [if_pos (by decide +kernel)]
theorem aw11_4 : leavesV [] = .tup [.sl false (.ints .i64 []), .int .i64 110] := by unfold leavesV; rw [show chainO (readB []) [] = none from by decide +kernel]
theorem aw11_5 : checkI A4 = 0 := by unfold checkI; rw [A4_look]; rfl
theorem aw11_6 : checkI [] = 110 := by unfold checkI; rw [show lookO (readB []) [] = none from by decide +kernel]; rfl
theorem aw11_7 {v : AV} (h : reachQ A4 v) : v = .tup [.sl false (.ints .i64 [0, 1]), .int .i64 0] := by
  unfold reachQ at h
  rw [A4_look] at h
  obtain ⟨a, _, h2, rfl⟩ := h
  rw [h2 (by
    have : nodeO A4 (A4.getD 3 0) = some zeroNd := by decide +kernel
    intro nd h; rw [this] at h; cases h; rfl)]
  have : reached (marksL A4 mark0 [1]) (A4.getD 1 0).toNat = [0, 1] := by decide +kernel
  rw [this]
theorem aw11_8 : A4.length = 64 := by decide +kernel
def lamplighterlaw11_awake.C : Contract
  | [] => some (false, pD True (.bool true))
  | _ => none
set_option maxRecDepth 20000 in
theorem lamplighterlaw11_awake.spec : FSpec Try.prog 15 lamplighterlaw11_awake.C := by
  refine FSpec.of (ctx_ok (F := [(16, arena_New.C), (17, arena_Leaves.C), (22, arena_Low.C), (19, arena_Check.C), (20, lamplighterref02_Numbers.C)]) (S := [(18, arena_Reach.K)]) (by simpa using ⟨arena_New.spec, arena_Leaves.spec, arena_Low.spec, arena_Check.spec, lamplighterref02_Numbers.spec⟩) (by simpa using arena_Reach.qspec.con) lamplighterlaw11_awake.loops) lamplighterlaw11_awake.at lamplighterlaw11_awake.nm lamplighterlaw11_awake.bd ?_
  intro vs b S v news e hS
  unfold lamplighterlaw11_awake.C at e
  split at e
  rotate_left
  · cases e
  cases e
  rw [lamplighterlaw11_awake.eq]
  unfold lamplighterlaw11_awake.H
  simp (maxSteps := 4000000) only [go_sem, Nat.reduceEqDiff, Nat.reduceLT, Nat.reduceAdd, Nat.reduceSub, Nat.reduceLeDiff, List.reduceReplicate, Int.reduceToNat, arena_New.C, arena_Leaves.C, arena_Low.C, arena_Check.C, lamplighterref02_Numbers.C, arena_Reach.K, arena_Reach.Q, aw11_0, aw11_1, aw11_2, aw11_3, aw11_4, aw11_5, aw11_6, aw11_8]
  have h0 : smallW [] := ⟨by decide, by intro x hx; cases hx⟩
  have r1 : roomy 1 := by unfold roomy; omega
  have r2 : roomy 2 := by unfold roomy; omega
  refine ⟨A4_small, A4_small, fun v hv => ?_⟩
  rw [aw11_7 hv]
  simp only [lamplighterref02_Numbers.C, joinW_eq, decide_true, joinW_eq, guard_tt, guard_tf, guard_ft, guard_ff, Int.reduceEq, Int.reduceLT, Int.reduceLE, decide_false, decide_true, Bool.not_false, Bool.not_true, Bool.not_not, not_true_eq_false, not_false_eq_true, true_implies, false_implies, implies_true, and_true, true_and, reduceCtorEq, Bool.and_self, Bool.or_self, Bool.and_true, Bool.true_and, Bool.false_eq_true, if_true, if_false, go_sem, Nat.reduceEqDiff, Nat.reduceLT, Nat.reduceAdd, Nat.reduceSub, Nat.reduceLeDiff, List.reduceReplicate, Int.reduceToNat]
  exact ⟨A4_small, h0, r1, r2, A4_small, h0, post_val rfl rfl⟩
end Lam
namespace Lam
open Go Go.Proofs
set_option linter.unusedVariables false
def lamplighterlaw11_ArenaReaches.loops : Nat → LInfo
  | 7 => ⟨[], [], [], [(2, none), (2, some [28, 30]), (2, none), (3, some [32, 35]), (2, none), (3, some [37, 40])], [], []⟩
  | 9 => ⟨[8], [false], [0, 3, 4, 6, 7], [], [], []⟩
  | 14 => ⟨[9], [false], [0, 3, 4, 6, 7], [], [], []⟩
  | 18 => ⟨[], [], [], [(2, none), (2, some [93, 95]), (2, none), (3, some [97, 100]), (2, none), (4, some [102, 106]), (2, none), (2, some [108, 110]), (2, none), (3, some [112, 115])], [], []⟩
  | _ => ⟨[], [], [], [], [], []⟩
def lamplighterlaw11_ArenaReaches.L1 (c : Ctx) (J4 : AV → AV → AV → AV → AV → List AObj → Prop) (K : AOut → List AObj → Prop) (lv : List AV) (h0 : List AObj) (n0 : Nat) (c0 : AV) (c3 : AV) (c4 : AV) (c6 : AV) (c7 : AV) : Prop :=
  ∃ I : Nat → List AV → List AObj → Prop, (∃ n, I n lv h0) ∧ ∀ n h, ∀ t8, I n [t8] h →
    runD (lenD T_sl_int h c4) h fun t44 h =>
    runD (binD T_int .lss t8 t44) h fun t45 h =>
    condW t45
    (runD (indexAddrD T_sl_int h c4 t8) h fun t50 h =>
    runD (fitD T_int (loadD h t50)) h fun t51 h =>
    runD (binD T_int .lss t51 (.int .i64 0)) h fun t52 h =>
    joinW (fun (J5 : AV → AV → List AObj → Prop) =>
    guardW t52 false
    (runD (indexAddrD T_sl_int h c4 t8) h fun t56 h =>
      runD (fitD T_int (loadD h t56)) h fun t57 h =>
      runD (lenD T_sl_int h c0) h fun t59 h =>
      runD (binD T_int .quo t59 (.int .i64 16)) h fun t60 h =>
      runD (binD T_int .geq t57 t60) h fun t61 h =>
      J5 (.bool false) t61 h)
    (J5 (.bool true) .und h))
    (fun t53 t61 h => runD (pickD t53 (.bool true) t61) h fun t62 h =>
    joinW (fun (J6 : AV → AV → List AObj → Prop) =>
    guardW t62 false
    (runD (binD T_int .gtr t8 (.int .i64 0)) h fun t65 h =>
      joinW (fun (J7 : AV → AV → List AObj → Prop) =>
      guardW t65 true
      (runD (indexAddrD T_sl_int h c4 t8) h fun t69 h =>
        runD (fitD T_int (loadD h t69)) h fun t70 h =>
        runD (binD T_int .sub t8 (.int .i64 1)) h fun t73 h =>
        runD (indexAddrD T_sl_int h c4 t73) h fun t74 h =>
        runD (fitD T_int (loadD h t74)) h fun t75 h =>
        runD (binD T_int .leq t70 t75) h fun t76 h =>
        J7 (.bool true) t76 h)
      (J7 (.bool false) .und h))
      (fun t66 t76 h => runD (pickD t66 t76 (.bool false)) h fun t77 h =>
      J6 (.bool false) t77 h))
    (J6 (.bool true) .und h))
    (fun t63 t77 h => runD (pickD t63 (.bool true) t77) h fun t78 h =>
    condW t78
    (K (.ret (.bool false)) h)
    (runD (binD T_int .add t8 (.int .i64 1)) h fun t47 h =>
    (∃ m, m < n ∧ I m (AV.norms n0 h [t47]) (normH n0 h)) ∧ AV.norms n0 h [c0, c3, c4, c6, c7] = [c0, c3, c4, c6, c7]))))
    (J4 c0 c3 c4 c6 c7 h)
def lamplighterlaw11_ArenaReaches.L2 (c : Ctx) (J8 : AV → AV → AV → AV → AV → List AObj → Prop) (K : AOut → List AObj → Prop) (lv : List AV) (h0 : List AObj) (n0 : Nat) (c0 : AV) (c3 : AV) (c4 : AV) (c6 : AV) (c7 : AV) : Prop :=
  ∃ I : Nat → List AV → List AObj → Prop, (∃ n, I n lv h0) ∧ ∀ n h, ∀ t9, I n [t9] h →
    runD (lenD T_sl_int h c6) h fun t81 h =>
    runD (binD T_int .lss t9 t81) h fun t82 h =>
    condW t82
    (runD (indexAddrD T_sl_int h c6 t9) h fun t88 h =>
    runD (fitD T_int (loadD h t88)) h fun t89 h =>
    callW false c (.fn (.func 21) [] []) [c4, t89] h (fun t90 h =>
    runD (unD .not t90) h fun t91 h =>
    condW t91
    (K (.ret (.bool false)) h)
    (runD (binD T_int .add t9 (.int .i64 1)) h fun t84 h =>
    (∃ m, m < n ∧ I m (AV.norms n0 h [t84]) (normH n0 h)) ∧ AV.norms n0 h [c0, c3, c4, c6, c7] = [c0, c3, c4, c6, c7]))
    (fun v h => K (.pan v) h))
    (J8 c0 c3 c4 c6 c7 h)
def lamplighterlaw11_ArenaReaches.H (c : Ctx) (t0 : AV) (h : List AObj) (K : AOut → List AObj → Prop) : Prop :=
  callW false c (.fn (.func 15) [] []) [] h (fun t10 h =>
  runD (lenD T_sl_int h t0) h fun t12 h =>
  runD (binD T_int .gtr t12 (.int .i64 1000)) h fun t13 h =>
  condW t13
  (K (.ret t10) h)
  (callW false c (.fn (.func 18) [] []) [t0] h (fun t17 h =>
  runD (extractD t17 0) h fun t18 h =>
  runD (extractD t17 1) h fun t19 h =>
  callW false c (.fn (.func 17) [] []) [t0] h (fun t22 h =>
  runD (extractD t22 0) h fun t23 h =>
  runD (extractD t22 1) h fun t24 h =>
  runD (binD T_api_Errno .neq t19 (.int .i64 0)) h fun t26 h =>
  condW t26
  (joinW (fun (J1 : AV → AV → List AObj → Prop) =>
    guardW t10 true
    (runD (binD T_api_Errno .eql t19 (.int .i64 110)) h fun t30 h =>
      J1 (.bool true) t30 h)
    (J1 (.bool false) .und h))
    (fun t28 t30 h => runD (pickD t28 t30 (.bool false)) h fun t31 h =>
    joinW (fun (J2 : AV → AV → List AObj → Prop) =>
    guardW t31 true
    (callW false c (.fn (.func 19) [] []) [t0] h (fun t34 h =>
      runD (binD T_api_Errno .eql t34 (.int .i64 110)) h fun t35 h =>
      J2 (.bool true) t35 h)
      (fun v h => K (.pan v) h))
    (J2 (.bool false) .und h))
    (fun t32 t35 h => runD (pickD t32 t35 (.bool false)) h fun t36 h =>
    joinW (fun (J3 : AV → AV → List AObj → Prop) =>
    guardW t36 true
    (runD (lenD T_sl_int h t18) h fun t39 h =>
      runD (binD T_int .eql t39 (.int .i64 0)) h fun t40 h =>
      J3 (.bool true) t40 h)
    (J3 (.bool false) .und h))
    (fun t37 t40 h => runD (pickD t37 t40 (.bool false)) h fun t41 h =>
    K (.ret t41) h))))
  (joinW (fun (J4 : AV → AV → AV → AV → AV → List AObj → Prop) =>
  promV [false] [(.int .i64 0)] h fun lv h => lamplighterlaw11_ArenaReaches.L1 c J4 K (AV.norms h.length h lv) (normH h.length h) h.length (AV.norm h.length h t0) (AV.norm h.length h t10) (AV.norm h.length h t18) (AV.norm h.length h t23) (AV.norm h.length h t24))
  (fun t0 t3 t4 t6 t7 h => joinW (fun (J8 : AV → AV → AV → AV → AV → List AObj → Prop) =>
  promV [false] [(.int .i64 0)] h fun lv h => lamplighterlaw11_ArenaReaches.L2 c J8 K (AV.norms h.length h lv) (normH h.length h) h.length (AV.norm h.length h t0) (AV.norm h.length h t3) (AV.norm h.length h t4) (AV.norm h.length h t6) (AV.norm h.length h t7))
  (fun t0 t3 t4 t6 t7 h => joinW (fun (J9 : AV → AV → List AObj → Prop) =>
  guardW t3 true
  (runD (binD T_api_Errno .eql t7 (.int .i64 0)) h fun t95 h =>
    J9 (.bool true) t95 h)
  (J9 (.bool false) .und h))
  (fun t93 t95 h => runD (pickD t93 t95 (.bool false)) h fun t96 h =>
  joinW (fun (J10 : AV → AV → List AObj → Prop) =>
  guardW t96 true
  (runD (lenD T_sl_int h t6) h fun t99 h =>
    runD (binD T_int .gtr t99 (.int .i64 0)) h fun t100 h =>
    J10 (.bool true) t100 h)
  (J10 (.bool false) .und h))
  (fun t97 t100 h => runD (pickD t97 t100 (.bool false)) h fun t101 h =>
  joinW (fun (J11 : AV → AV → List AObj → Prop) =>
  guardW t101 true
  (runD (indexAddrD T_sl_int h t6 (.int .i64 0)) h fun t104 h =>
    runD (fitD T_int (loadD h t104)) h fun t105 h =>
    runD (binD T_int .eql t105 (.int .i64 1)) h fun t106 h =>
    J11 (.bool true) t106 h)
  (J11 (.bool false) .und h))
  (fun t102 t106 h => runD (pickD t102 t106 (.bool false)) h fun t107 h =>
  joinW (fun (J12 : AV → AV → List AObj → Prop) =>
  guardW t107 true
  (callW false c (.fn (.func 21) [] []) [t4, (.int .i64 0)] h (fun t110 h =>
    J12 (.bool true) t110 h)
    (fun v h => K (.pan v) h))
  (J12 (.bool false) .und h))
  (fun t108 t110 h => runD (pickD t108 t110 (.bool false)) h fun t111 h =>
  joinW (fun (J13 : AV → AV → List AObj → Prop) =>
  guardW t111 true
  (callW false c (.fn (.func 19) [] []) [t0] h (fun t114 h =>
    runD (binD T_api_Errno .eql t114 (.int .i64 0)) h fun t115 h =>
    J13 (.bool true) t115 h)
    (fun v h => K (.pan v) h))
  (J13 (.bool false) .und h))
  (fun t112 t115 h => runD (pickD t112 t115 (.bool false)) h fun t116 h =>
  K (.ret t116) h)))))))))
  (fun v h => K (.pan v) h))
  (fun v h => K (.pan v) h)))
  (fun v h => K (.pan v) h)
theorem lamplighterlaw11_ArenaReaches.eq (F : List (FuncId × Contract)) (S : List (FuncId × Con)) (t0 : AV) (h : List AObj) (K : AOut → List AObj → Prop) : funW (ctx F S lamplighterlaw11_ArenaReaches.loops) Try.f4 [t0] h K = lamplighterlaw11_ArenaReaches.H (ctx F S lamplighterlaw11_ArenaReaches.loops) t0 h K := by kernel_rfl
theorem lamplighterlaw11_ArenaReaches.at : Try.prog.funcs[4]? = some Try.f4 := by kernel_rfl
theorem lamplighterlaw11_ArenaReaches.nm : (Try.f4.name == "runtime.NumGoroutine") = false := by kernel_rfl
theorem lamplighterlaw11_ArenaReaches.bd : Try.f4.body.isNone = false := by kernel_rfl
end Lam
namespace Lam
open Go Go.Proofs
set_option linter.unusedVariables false
set_option linter.unnecessarySimpa false
set_option linter.unusedSimpArgs false
abbrev ArenaReaches_ctx : Ctx := ctx [(15, lamplighterlaw11_awake.C), (17, arena_Leaves.C), (19, arena_Check.C), (21, lamplighterref10_In.C)] [(18, arena_Reach.K)] lamplighterlaw11_ArenaReaches.loops
set_option maxRecDepth 20000 in
set_option maxHeartbeats 1000000 in
theorem ArenaReaches_vc (words : List Int) (w_words : wfL (.ints .i64 words)) (n_words : words.length ≤ maxLen) : lamplighterlaw11_ArenaReaches.H ArenaReaches_ctx (.sl false (.ints .i64 words)) [] Told := by
  unfold lamplighterlaw11_ArenaReaches.H
  simp (maxSteps := 4000000) only [go_sem, Nat.reduceEqDiff, Nat.reduceLT, Nat.reduceAdd, Nat.reduceSub, Nat.reduceLeDiff, List.reduceReplicate, Int.reduceToNat, lamplighterlaw11_awake.C, arena_Leaves.C, arena_Check.C, lamplighterref10_In.C, arena_Reach.K, arena_Reach.Q]
  refine ⟨fun _ => rfl, fun hg => ?_⟩
  have hS : smallW words := ⟨by omega, wf_i64s w_words⟩
  have hw := hS.1
  refine ⟨hS, fun v hv => ?_⟩
  cases hl : lookO (readB words) words with
  | none =>
    have hc : checkI words = 110 := by unfold checkI; rw [hl]; rfl
    have hv' : v = .tup [.sl false (.ints .i64 []), .int .i64 110] := by unfold reachQ at hv; rw [hl] at hv; exact hv
    obtain ⟨L, e, hL⟩ : ∃ (L : List Int) (e : Int), leavesV words = .tup [.sl false (.ints .i64 L), .int .i64 e] := by
      unfold leavesV; split
      · exact ⟨_, _, rfl⟩
      · exact ⟨_, _, rfl⟩
    simp only [hv', hL, hc, joinW_eq, joinW_eq, guard_tt, guard_tf, guard_ft, guard_ff, Int.reduceEq, Int.reduceLT, Int.reduceLE, decide_false, decide_true, Bool.not_false, Bool.not_true, Bool.not_not, not_true_eq_false, not_false_eq_true, true_implies, false_implies, implies_true, and_true, true_and, reduceCtorEq, Bool.and_self, Bool.or_self, Bool.and_true, Bool.true_and, Bool.false_eq_true, if_true, if_false, go_sem, Nat.reduceEqDiff, Nat.reduceLT, Nat.reduceAdd, Nat.reduceSub, Nat.reduceLeDiff, List.reduceReplicate, Int.reduceToNat]
    exact ⟨hS, hS, rfl⟩
  | some l =>
    obtain ⟨h1, h2, h3⟩ := look_parts hl
    obtain ⟨hb, hnd, hrg, hlen, ⟨l', hl1⟩, _⟩ := chainO_some h1
    have hc : checkI words = 0 := by unfold checkI; rw [hl]; rfl
    have hL : leavesV words = .tup [.sl false (.ints .i64 l), .int .i64 0] := by unfold leavesV; rw [h1]
    obtain ⟨a, ha, _, rfl⟩ : ∃ a : Int → Bool, (∀ k, marksL words mark0 l k = true → a k = true) ∧ ((∀ nd, nodeO words (words.getD 3 0) = some nd → nd.level = 0) → a = marksL words mark0 l) ∧ v = .tup [.sl false (.ints .i64 (reached a (words.getD 1 0).toNat)), .int .i64 0] := by
      unfold reachQ at hv; rw [hl] at hv; exact hv
    have hnb := read_blocks hb
    rw [hnb, Int.toNat_natCast]
    have hrl := reached_len a (words.length / 16)
    have hrr : roomy (reached a (words.length / 16)).length := by unfold roomy; omega
    have hmem : ∀ x, 0 ≤ x → x < ((words.length / 16 : Nat) : Int) → marksL words mark0 l x = true → x ∈ reached a (words.length / 16) := fun x h1 h2 h3 => reached_mem.2 ⟨h1, h2, ha x h3⟩
    have hrs := reached_rises a (words.length / 16)
    have hri : ∀ x ∈ reached a (words.length / 16), 0 ≤ x ∧ x < ((words.length / 16 : Nat) : Int) := fun x hx => ⟨(reached_mem.1 hx).1, (reached_mem.1 hx).2.1⟩
    have h0 : (0 : Int) ∈ reached a (words.length / 16) := hmem 0 (by omega) (by have := (read_small hb); omega) (marksL_base rfl)
    generalize reached a (words.length / 16) = r at *
    simp only [hL, hc, joinW_eq, joinW_eq, guard_tt, guard_tf, guard_ft, guard_ff, Int.reduceEq, Int.reduceLT, Int.reduceLE, decide_false, decide_true, Bool.not_false, Bool.not_true, Bool.not_not, not_true_eq_false, not_false_eq_true, true_implies, false_implies, implies_true, and_true, true_and, reduceCtorEq, Bool.and_self, Bool.or_self, Bool.and_true, Bool.true_and, Bool.false_eq_true, if_true, if_false, go_sem, Nat.reduceEqDiff, Nat.reduceLT, Nat.reduceAdd, Nat.reduceSub, Nat.reduceLeDiff, List.reduceReplicate, Int.reduceToNat]
    refine ⟨hS, ?_⟩
    have hrise : ∀ k, 0 < k → k < r.length → r.getD (k - 1) 0 < r.getD k 0 := by
      intro k h0 hk
      have := List.pairwise_iff_getElem.1 hrs (k - 1) k (by omega) hk (by omega)
      rw [List.getD_eq_getElem?_getD, List.getD_eq_getElem?_getD, List.getElem?_eq_getElem hk, List.getElem?_eq_getElem (by omega)]
      exact this
    have e0 : IntKind.i64.wrap ((words.length : Int).tdiv 16) = ((words.length / 16 : Nat) : Int) := by
      rw [Int.tdiv_eq_ediv_of_nonneg (by omega)]; exact w64 (by omega) (by omega)
    unfold lamplighterlaw11_ArenaReaches.L1
    refine loop1 (σ := Nat) (fun k => .int .i64 k) (fun k => []) (fun k => r.length - k) (fun k => k ≤ r.length) 0 rfl rfl (Nat.zero_le _) ?_
    intro I back k hk
    simp only [e0, joinW_eq, guard_tt, guard_tf, guard_ft, guard_ff, Int.reduceEq, Int.reduceLT, Int.reduceLE, decide_false, decide_true, Bool.not_false, Bool.not_true, Bool.not_not, not_true_eq_false, not_false_eq_true, true_implies, false_implies, implies_true, and_true, true_and, reduceCtorEq, Bool.and_self, Bool.or_self, Bool.and_true, Bool.true_and, Bool.false_eq_true, if_true, if_false, go_sem, Nat.reduceEqDiff, Nat.reduceLT, Nat.reduceAdd, Nat.reduceSub, Nat.reduceLeDiff, List.reduceReplicate, Int.reduceToNat]
    refine ⟨fun h => ?_, fun h => ?_⟩
    · have hm := hri _ (getD_mem r k 0 (by omega))
      have d1 : decide (r.getD k 0 < 0) = false := decide_eq_false (by omega)
      have d2 : decide (((words.length / 16 : Nat) : Int) ≤ r.getD k 0) = false := decide_eq_false (by omega)
      have hb : ∃ m, m < r.length - k ∧ I m [.int .i64 (IntKind.i64.wrap ((k : Int) + 1))] [] := back (k + 1) (by omega) (by rw [wnext (by omega)]) rfl (by omega)
      refine ⟨⟨by omega, by omega⟩, ?_⟩
      simp only [d1, d2, joinW_eq, guard_tt, guard_tf, guard_ft, guard_ff, Int.reduceEq, Int.reduceLT, Int.reduceLE, decide_false, decide_true, Bool.not_false, Bool.not_true, Bool.not_not, not_true_eq_false, not_false_eq_true, true_implies, false_implies, implies_true, and_true, true_and, reduceCtorEq, Bool.and_self, Bool.or_self, Bool.and_true, Bool.true_and, Bool.false_eq_true, if_true, if_false, go_sem, Nat.reduceEqDiff, Nat.reduceLT, Nat.reduceAdd, Nat.reduceSub, Nat.reduceLeDiff, List.reduceReplicate, Int.reduceToNat]
      refine ⟨⟨by omega, by omega⟩, ?_⟩
      rw [guardW_bool]
      refine ⟨fun hk0 => ?_, fun _ => hb⟩
      have hk0 := of_decide_eq_true hk0
      have e1 : IntKind.i64.wrap ((k : Int) - 1) = ((k - 1 : Nat) : Int) := by rw [w64 (by omega) (by omega)]; omega
      have := hrise k (by omega) (by omega)
      rw [e1, Int.toNat_natCast]
      exact ⟨⟨by omega, by omega⟩, ⟨by omega, by omega⟩, fun h => absurd h (by omega), fun _ => hb⟩
    · unfold lamplighterlaw11_ArenaReaches.L2
      refine loop1 (σ := Nat) (fun k => .int .i64 k) (fun k => []) (fun k => l.length - k) (fun k => k ≤ l.length) 0 rfl rfl (Nat.zero_le _) ?_
      intro I2 back2 j hj
      have hl0 : l.getD 0 0 = 1 := by rw [hl1]; rfl
      have hlp : 0 < l.length := by rw [hl1]; simp
      have d1 : decide (0 < (l.length : Int)) = true := decide_eq_true (by omega)
      have dm : decide ((0 : Int) ∈ r) = true := decide_eq_true h0
      by_cases hjl : j < l.length
      · have hm := getD_mem l j 0 hjl
        have hr2 := hrg _ hm
        have dj : decide (l.getD j 0 ∈ r) = true := decide_eq_true (hmem _ hr2.1 hr2.2 (marksL_node hm (by unfold markN; simp)))
        simp only [lamplighterref10_In.C, dj, d1, joinW_eq, guard_tt, guard_tf, guard_ft, guard_ff, Int.reduceEq, Int.reduceLT, Int.reduceLE, decide_false, decide_true, Bool.not_false, Bool.not_true, Bool.not_not, not_true_eq_false, not_false_eq_true, true_implies, false_implies, implies_true, and_true, true_and, reduceCtorEq, Bool.and_self, Bool.or_self, Bool.and_true, Bool.true_and, Bool.false_eq_true, if_true, if_false, go_sem, Nat.reduceEqDiff, Nat.reduceLT, Nat.reduceAdd, Nat.reduceSub, Nat.reduceLeDiff, List.reduceReplicate, Int.reduceToNat]
        exact ⟨fun _ => ⟨⟨by omega, by omega⟩, hrr, back2 (j + 1) (by omega) (by rw [wnext (by omega)]) rfl (by omega)⟩, fun h => absurd h (by omega)⟩
      · simp only [lamplighterref10_In.C, arena_Check.C, hl0, hc, dm, d1, joinW_eq, guard_tt, guard_tf, guard_ft, guard_ff, Int.reduceEq, Int.reduceLT, Int.reduceLE, decide_false, decide_true, Bool.not_false, Bool.not_true, Bool.not_not, not_true_eq_false, not_false_eq_true, true_implies, false_implies, implies_true, and_true, true_and, reduceCtorEq, Bool.and_self, Bool.or_self, Bool.and_true, Bool.true_and, Bool.false_eq_true, if_true, if_false, go_sem, Nat.reduceEqDiff, Nat.reduceLT, Nat.reduceAdd, Nat.reduceSub, Nat.reduceLeDiff, List.reduceReplicate, Int.reduceToNat]
        exact ⟨fun h => absurd h (by omega), fun _ => ⟨by omega, hrr, hS, rfl⟩⟩
theorem ArenaReaches_ok : Ok Try.prog ArenaReaches_ctx := ctx_ok (by simpa using ⟨lamplighterlaw11_awake.spec, arena_Leaves.spec, arena_Check.spec, lamplighterref10_In.spec⟩) (by simpa using arena_Reach.qspec.con) _
theorem ArenaReaches_law (words : Lst) (k_words : words.kind = (.int .i64)) (w_words : wfL words) (n_words : words.len ≤ maxLen) : funW ArenaReaches_ctx Try.f4 [(.sl false words)] [] Told := by
  obtain ⟨words, rfl⟩ := gkind_ints k_words
  rw [ArenaReaches_ctx, lamplighterlaw11_ArenaReaches.eq]
  exact ArenaReaches_vc words w_words n_words
end Lam
