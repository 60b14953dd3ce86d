/- What functions of the program come to, each proved from its code. -/
import Derived.Test.YtdnhjeoacanbcacLm6
namespace Lam
open Go Go.Proofs
set_option linter.unusedVariables false
set_option linter.unnecessarySimpa false
set_option linter.unusedSimpArgs false
def arena_reach_higher.K : Con := higherK 100000
theorem arena_reach_higher.spec : SSpec Try.prog 55 arena_reach_higher.K := higher_sp _
def reachQ (w : List Int) (v : AV) : Prop := match lookO (readB w) w with
  | none => v = .tup [.sl false (.ints .i64 []), .int .i64 110]
  | some l => ∃ a : Int → Bool, (∀ k, marksL w mark0 l k = true → a k = true) ∧ ((∀ nd, nodeO w (w.getD 3 0) = some nd → nd.level = 0) → a = marksL w mark0 l) ∧ v = .tup [.sl false (.ints .i64 (reached a (w.getD 1 0).toNat)), .int .i64 0]
def arena_Reach.Q : QCon
  | [.sl _ (.ints .i64 w)] => some (smallW w, reachQ w)
  | _ => none
abbrev arena_Reach.K : Con := Qcon arena_Reach.Q
set_option maxRecDepth 20000 in
set_option maxHeartbeats 1000000 in
theorem arena_Reach.qspec : QSpec Try.prog 18 arena_Reach.Q := by
  refine QSpec.ofD (ctx_ok (F := [(54, super_Read.C)]) (S := [(51, arena_look.K), (53, arena_nodeOf.K), (52, arena_reach_node.K), (55, arena_reach_higher.K)]) (by simpa using super_Read.spec) (by simpa using ⟨arena_look.jspec.con, arena_nodeOf.jspec.con, arena_reach_node.spec, arena_reach_higher.spec⟩) arena_Reach.loops) arena_told.tspec arena_Reach.at arena_Reach.nm arena_Reach.bd ?_
  intro vs S q e hS
  unfold arena_Reach.Q at e
  split at e
  rotate_left
  · cases e
  cases e
  rw [arena_Reach.eq]
  unfold arena_Reach.H
  simp (maxSteps := 4000000) only [go_sem, Nat.reduceEqDiff, Nat.reduceLT, Nat.reduceAdd, Nat.reduceSub, Nat.reduceLeDiff, List.reduceReplicate, Int.reduceToNat, super_Read.C, arena_look.K, arena_look.J, arena_nodeOf.K, arena_nodeOf.J]
  rename_i _ w
  have hsl : ∀ {l : List Int}, lookO (readB w) w = some l → chainO (readB w) w = some l := by
    intro l h
    unfold lookO at h
    split at h
    · cases h
    · rename_i l' hl'
      split at h
      · cases h; exact hl'
      · cases h
  refine ⟨hS, fun hp => ⟨rfl, ?_⟩, fun hp => ?_⟩
  · rw [Option.isNone_iff_eq_none] at hp
    refine ⟨.tup [.sl false (.ints .i64 []), .int .i64 110], by unfold reachQ; rw [hp], post_val rfl rfl⟩
  · obtain ⟨l, hl⟩ := some_of hp
    obtain ⟨hb, hnd, hrg, hlen, _, hnodes⟩ := chainO_some (hsl hl)
    have hw16 := hS.1
    have hr : sreadV w = .tup [.int .i64 (w.getD 1 0), .int .i64 (w.getD 3 0), .int .i64 0] := by unfold sreadV; rw [hb]; rfl
    obtain ⟨nb, hnb, hnb2⟩ : ∃ nb : Nat, w.getD 1 0 = nb ∧ nb ≤ 256 := by
      unfold readB headB mayB at hb
      simp only [Bool.and_eq_true, decide_eq_true_eq] at hb
      exact ⟨(w.getD 1 0).toNat, by omega, by omega⟩
    simp only [hl, Option.getD_some, joinW_eq]
    unfold arena_Reach.L1
    refine loop1 (σ := Nat) (fun k => .int .i64 k) (fun k => [.box (.int .i64 0), .map (.ib (marksL w mark0 (l.take k))), .map (.ib fun _ => false), .box (.agg [.sl false (.ints .i64 w), .map 1, .map 2]), .row .own 0 (.ints .i64 l)]) (fun k => l.length - k) (fun k => k ≤ l.length) 0 rfl rfl (Nat.zero_le _) ?_
    intro I back k hk
    have hm0 : ∀ (m1 m2 : Int → Bool), (∀ k, marksL w mark0 l k = true → m1 k = true) → ((∀ nd, nodeO w (w.getD 3 0) = some nd → nd.level = 0) → m1 = marksL w mark0 l) → reachQ w (.tup [.sl false (.ints .i64 (reached m1 nb)), .int .i64 0]) := by
      intro m1 m2 h1 h2
      unfold reachQ
      rw [hl]
      exact ⟨m1, h1, h2, by rw [hnb, Int.toNat_natCast]⟩
    by_cases hlt : k < l.length
    · obtain ⟨n, hn, _⟩ := hnodes (l.getD k 0) (getD_mem l k 0 hlt)
      obtain ⟨n1, n2, n3, n4, n5⟩ := n
      have hok := (nodeO_some hn).1
      have hs5 : n5.length ≤ 13 := hok.2.2.2.2.2.2.1
      simp only [arena_nodeOf.J, hn, Option.isNone_some, Option.getD_some, go_sem, Nat.reduceEqDiff, Nat.reduceLT, Nat.reduceAdd, Nat.reduceSub, Nat.reduceLeDiff, List.reduceReplicate, Int.reduceToNat]
      refine ⟨fun h => ⟨⟨by omega, by omega⟩, hlt, hS, ?_⟩, fun h => absurd h (by omega)⟩
      unfold arena_reach_node.K
      refine ⟨w, 1, 2, _, _, rfl, rfl, rfl, by decide, by omega, ?_⟩
      simp only [go_sem, Nat.reduceEqDiff, Nat.reduceLT, Nat.reduceAdd, Nat.reduceSub, Nat.reduceLeDiff, List.reduceReplicate, Int.reduceToNat]
      refine back (k + 1) (by omega) (by rw [wnext (by omega)]) ?_ (by omega)
      rw [take_next l k 0 hlt, marksL_snoc, hn]; rfl
    · obtain rfl : k = l.length := by omega
      simp only [super_Read.C, hr, hnb, List.take_length, go_sem, Nat.reduceEqDiff, Nat.reduceLT, Nat.reduceAdd, Nat.reduceSub, Nat.reduceLeDiff, List.reduceReplicate, Int.reduceToNat]
      refine ⟨fun h => absurd h (by omega), fun _ => ⟨hS.roomy, ?_⟩⟩
      unfold arena_reach_higher.K higherK
      refine ⟨w, 1, 2, _, _, rfl, rfl, rfl, hS, ?_, .inl ⟨rfl, rfl, by decide⟩, fun m1 m2 hp => ?_⟩
      · unfold unseen
        refine Nat.lt_of_le_of_lt List.countP_le_length ?_
        rw [List.length_range]; omega
      have hq := hm0 m1 m2 hp.1 hp.2.2
      simp only [go_sem, Nat.reduceEqDiff, Nat.reduceLT, Nat.reduceAdd, Nat.reduceSub, Nat.reduceLeDiff, List.reduceReplicate, Int.reduceToNat]
      unfold arena_Reach.L2
      refine loop2 (σ := Nat) (fun k => .sref false 5 (reached m1 k).length 0 (reached m1 k).length) (fun k => .int .i64 k) (fun k => [.box (.int .i64 0), .map (.ib m1), .map (.ib m2), .box (.agg [.sl false (.ints .i64 w), .map 1, .map 2]), .row .own 0 (.ints .i64 l), .row .own (reached m1 k).length (.ints .i64 (reached m1 k))]) (fun k => nb - k) (fun k => k ≤ nb) 0 rfl rfl (Nat.zero_le _) ?_
      intro I2 back2 j hj
      have hrl := reached_len m1 j
      have hnx := reached_next m1 j
      simp only [go_sem, Nat.reduceEqDiff, Nat.reduceLT, Nat.reduceAdd, Nat.reduceSub, Nat.reduceLeDiff, List.reduceReplicate, Int.reduceToNat]
      refine ⟨fun h => ?_, fun h => ?_⟩
      · rw [joinW_eq]
        refine ⟨fun hm => ?_, fun hm => ?_⟩
        · rw [if_pos hm] at hnx
          have hl1 : (reached m1 j ++ [(j : Int)]).length = (reached m1 j).length + 1 := by simp
          refine ⟨by rw [hl1]; unfold roomy; omega, ?_⟩
          simp only [go_sem, Nat.reduceEqDiff, Nat.reduceLT, Nat.reduceAdd, Nat.reduceSub, Nat.reduceLeDiff, List.reduceReplicate, Int.reduceToNat]
          refine back2 (j + 1) (by omega) ?_ ?_ (by omega)
          · rw [hnx, hl1, wnext (by omega)]
          · rw [hnx, hl1]
        · rw [if_neg (by rw [hm]; decide)] at hnx
          simp only [go_sem, Nat.reduceEqDiff, Nat.reduceLT, Nat.reduceAdd, Nat.reduceSub, Nat.reduceLeDiff, List.reduceReplicate, Int.reduceToNat]
          refine back2 (j + 1) (by omega) ?_ ?_ (by omega)
          · rw [hnx, wnext (by omega)]
          · rw [hnx]
      · obtain rfl : j = nb := by omega
        refine ⟨_, hq, post_val ?_ rfl⟩
        simp only [List.take_length, go_sem, Nat.reduceEqDiff, Nat.reduceLT, Nat.reduceAdd, Nat.reduceSub, Nat.reduceLeDiff, List.reduceReplicate, Int.reduceToNat]
end Lam
namespace Lam
open Go Go.Proofs
set_option linter.unusedVariables false
set_option linter.unnecessarySimpa false
set_option linter.unusedSimpArgs false
theorem look_parts {w l : List Int} (hl : lookO (readB w) w = some l) : chainO (readB w) w = some l ∧ leavesB w l 0 [] = true ∧ readB w = true := by
  unfold lookO at hl
  split at hl
  · cases hl
  · rename_i l' hl'
    split at hl
    · rename_i hb; cases hl; exact ⟨hl', hb, (chainO_some hl').1⟩
    · cases hl
theorem read_small {w : List Int} (h : readB w = true) : 2 ≤ w.length / 16 := by
  unfold readB at h
  simp only [Bool.and_eq_true, decide_eq_true_eq] at h
  omega
theorem read_blocks {w : List Int} (h : readB w = true) : w.getD 1 0 = ((w.length / 16 : Nat) : Int) := by
  unfold readB headB at h
  simp only [Bool.and_eq_true, decide_eq_true_eq] at h
  exact h.1.2.2
theorem marksL_base {w : List Int} : ∀ {l : List Int} {m : Int → Bool} {k : Int}, m k = true → marksL w m l k = true
  | [], _, _, h => h
  | b :: l, m, k, h => by
    simp only [marksL]
    exact marksL_base (by unfold markN; rw [h]; rfl)
theorem marksL_node {w : List Int} : ∀ {l : List Int} {m : Int → Bool} {b k : Int}, b ∈ l → markN (fun _ => false) ((nodeO w b).getD zeroNd) b k = true → marksL w m l k = true
  | [], _, _, _, h, _ => by cases h
  | a :: l, m, b, k, h, hk => by
    simp only [marksL]
    rcases List.mem_cons.1 h with rfl | h
    · refine marksL_base ?_
      unfold markN at hk ⊢
      simp only [Bool.false_or] at hk
      rw [Bool.or_assoc, Bool.or_assoc] 
      rw [Bool.or_assoc] at hk
      rw [hk, Bool.or_true]
    · exact marksL_node h hk
theorem reached_mem {m : Int → Bool} {n : Nat} {x : Int} : x ∈ reached m n ↔ 0 ≤ x ∧ x < (n : Int) ∧ m x = true := by
  unfold reached
  simp only [List.mem_filter, List.mem_map, List.mem_range]
  constructor
  · rintro ⟨⟨k, hk, rfl⟩, hm⟩; exact ⟨by omega, by omega, hm⟩
  · rintro ⟨h1, h2, h3⟩; exact ⟨⟨x.toNat, by omega, by omega⟩, h3⟩
theorem reached_rises (m : Int → Bool) (n : Nat) : (reached m n).Pairwise (· < ·) := by
  unfold reached
  refine List.Pairwise.filter _ ?_
  rw [List.pairwise_map]
  exact (List.pairwise_lt_range).imp fun h => by omega
end Lam
namespace Lam
open Go Go.Proofs
set_option linter.unusedVariables false
def lamplighterref02_Numbers.loops : Nat → LInfo
  | 4 => ⟨[5], [false], [0, 1], [], [], []⟩
  | _ => ⟨[], [], [], [], [], []⟩
def lamplighterref02_Numbers.L1 (c : Ctx) (J1 : List AObj → Prop) (K : AOut → List AObj → Prop) (lv : List AV) (h0 : List AObj) (n0 : Nat) (c0 : AV) (c1 : AV) : Prop :=
  ∃ I : Nat → List AV → List AObj → Prop, (∃ n, I n lv h0) ∧ ∀ n h, ∀ t5, I n [t5] h →
    runD (lenD T_sl_int h c0) h fun t13 h =>
    runD (binD T_int .lss t5 t13) h fun t14 h =>
    condW t14
    (runD (indexAddrD T_sl_int h c0 t5) h fun t19 h =>
    runD (fitD T_int (loadD h t19)) h fun t20 h =>
    runD (indexAddrD T_sl_int h c1 t5) h fun t23 h =>
    runD (fitD T_int (loadD h t23)) h fun t24 h =>
    runD (binD T_int .neq t20 t24) h fun t25 h =>
    condW t25
    (K (.ret (.bool false)) h)
    (runD (binD T_int .add t5 (.int .i64 1)) h fun t16 h =>
    (∃ m, m < n ∧ I m (AV.norms n0 h [t16]) (normH n0 h)) ∧ AV.norms n0 h [c0, c1] = [c0, c1]))
    (J1 h)
def lamplighterref02_Numbers.H (c : Ctx) (t0 : AV) (t1 : AV) (h : List AObj) (K : AOut → List AObj → Prop) : Prop :=
  runD (lenD T_sl_int h t0) h fun t7 h =>
  runD (lenD T_sl_int h t1) h fun t9 h =>
  runD (binD T_int .neq t7 t9) h fun t10 h =>
  condW t10
  (K (.ret (.bool false)) h)
  (joinW (fun (J1 : List AObj → Prop) =>
  promV [false] [(.int .i64 0)] h fun lv h => lamplighterref02_Numbers.L1 c J1 K (AV.norms h.length h lv) (normH h.length h) h.length (AV.norm h.length h t0) (AV.norm h.length h t1))
  (fun h => K (.ret (.bool true)) h))
def lamplighterref02_Text.loops : Nat → LInfo
  | 1 => ⟨[], [], [], [(3, none), (5, some [15, 20])], [], []⟩
  | 5 => ⟨[6, 7], [true, false], [0, 1], [], [], []⟩
  | 12 => ⟨[8, 9, 10], [false, false, false], [0, 1, 6, 7], [], [], []⟩
  | _ => ⟨[], [], [], [], [], []⟩
def lamplighterref02_Text.L2 (c : Ctx) (J4 : AV → AV → AV → AV → AV → List AObj → Prop) (K : AOut → List AObj → Prop) (lv : List AV) (h0 : List AObj) (n0 : Nat) (c0 : AV) (c1 : AV) (c6 : AV) (c7 : AV) : Prop :=
  ∃ I : Nat → List AV → List AObj → Prop, (∃ n, I n lv h0) ∧ ∀ n h, ∀ t8, ∀ t9, ∀ t10, I n [t8, t9, t10] h →
    runD (binD T_int .lss t10 (.int .i64 7)) h fun t38 h =>
    condW t38
    (runD (binD T_int .rem t9 (.int .i64 256)) h fun t42 h =>
    runD (convD h T_int T_uint8 t42) h fun t43 h =>
    runD (buildSliceD T_sl_uint8 1 [(0, t43)] h.length) h fun t44 h =>
    runDM (appendD T_sl_uint8 h t44 t8 h.length) (appendH T_sl_uint8 h t44 t8) h fun t46 h =>
    runD (binD T_int .quo t9 (.int .i64 256)) h fun t48 h =>
    runD (binD T_int .add t10 (.int .i64 1)) h fun t40 h =>
    (∃ m, m < n ∧ I m (AV.norms n0 h [t46, t48, t40]) (normH n0 h)) ∧ AV.norms n0 h [c0, c1, c6, c7] = [c0, c1, c6, c7])
    (J4 c0 c1 c6 c7 t8 h)
def lamplighterref02_Text.L1 (c : Ctx) (J2 : AV → AV → AV → List AObj → Prop) (K : AOut → List AObj → Prop) (lv : List AV) (h0 : List AObj) (n0 : Nat) (c0 : AV) (c1 : AV) : Prop :=
  ∃ I : Nat → List AV → List AObj → Prop, (∃ n, I n lv h0) ∧ ∀ n h, ∀ t6, ∀ t7, I n [t6, t7] h →
    runD (lenD T_sl_int h c0) h fun t24 h =>
    runD (binD T_int .lss t7 t24) h fun t25 h =>
    condW t25
    (joinW (fun (J3 : AV → AV → AV → AV → List AObj → Prop) =>
    runD (indexAddrD T_sl_int h c0 t7) h fun t30 h =>
    runD (fitD T_int (loadD h t30)) h fun t31 h =>
    runD (binD T_int .lss t31 (.int .i64 0)) h fun t32 h =>
    condW t32
    (K (.ret (.tup [(.str []), (.int .i64 20)])) h)
    (runD (indexAddrD T_sl_int h c0 t7) h fun t35 h =>
    runD (fitD T_int (loadD h t35)) h fun t36 h =>
    joinW (fun (J4 : AV → AV → AV → AV → AV → List AObj → Prop) =>
    promV [false, false, false] [(.sl true (.ints .u8 [])), t36, (.int .i64 0)] h fun lv h => lamplighterref02_Text.L2 c J4 K (AV.norms h.length h lv) (normH h.length h) h.length (AV.norm h.length h c0) (AV.norm h.length h c1) (AV.norm h.length h t6) (AV.norm h.length h t7))
    (fun t0 t1 t6 t7 t8 h => runDM (appendD T_sl_uint8 h t6 t8 h.length) (appendH T_sl_uint8 h t6 t8) h fun t51 h =>
    J3 t0 t1 t51 t7 h)))
    (fun t0 t1 t6 t7 h => runD (binD T_int .add t7 (.int .i64 1)) h fun t27 h =>
    (∃ m, m < n ∧ I m (AV.norms n0 h [t6, t27]) (normH n0 h)) ∧ AV.norms n0 h [t0, t1] = [c0, c1]))
    (J2 c0 c1 t6 h)
def lamplighterref02_Text.H (c : Ctx) (t0 : AV) (t1 : AV) (h : List AObj) (K : AOut → List AObj → Prop) : Prop :=
  runD (binD T_int .lss t1 (.int .i64 0)) h fun t14 h =>
  joinW (fun (J1 : AV → AV → List AObj → Prop) =>
  guardW t14 false
  (runD (lenD T_sl_int h t0) h fun t18 h =>
    runD (binD T_int .mul (.int .i64 7) t18) h fun t19 h =>
    runD (binD T_int .gtr t1 t19) h fun t20 h =>
    J1 (.bool false) t20 h)
  (J1 (.bool true) .und h))
  (fun t15 t20 h => runD (pickD t15 (.bool true) t20) h fun t21 h =>
  condW t21
  (K (.ret (.tup [(.str []), (.int .i64 20)])) h)
  (joinW (fun (J2 : AV → AV → AV → List AObj → Prop) =>
  promV [true, false] [(.sl true (.ints .u8 [])), (.int .i64 0)] h fun lv h => lamplighterref02_Text.L1 c J2 K (AV.norms h.length h lv) (normH h.length h) h.length (AV.norm h.length h t0) (AV.norm h.length h t1))
  (fun t0 t1 t6 h => runD (sliceD T_sl_uint8 h t6 none (some t1) none) h fun t54 h =>
  runD (convD h T_sl_uint8 T_string t54) h fun t55 h =>
  callW false c (.fn (.func 124) [] []) [t55] h (fun t57 h =>
  callW false c (.fn (.func 20) [] []) [t57, t0] h (fun t60 h =>
  runD (unD .not t60) h fun t61 h =>
  condW t61
  (K (.ret (.tup [(.str []), (.int .i64 20)])) h)
  (K (.ret (.tup [t55, (.int .i64 0)])) h))
  (fun v h => K (.pan v) h))
  (fun v h => K (.pan v) h))))
def lamplighterref02_Words.loops : Nat → LInfo
  | 3 => ⟨[3, 4], [true, false], [0], [], [], []⟩
  | 7 => ⟨[5, 6], [false, false], [0, 3, 4], [], [], []⟩
  | _ => ⟨[], [], [], [], [], []⟩
def lamplighterref02_Words.L2 (c : Ctx) (J3 : AV → AV → AV → AV → List AObj → Prop) (K : AOut → List AObj → Prop) (lv : List AV) (h0 : List AObj) (n0 : Nat) (c0 : AV) (c3 : AV) (c4 : AV) : Prop :=
  ∃ I : Nat → List AV → List AObj → Prop, (∃ n, I n lv h0) ∧ ∀ n h, ∀ t5, ∀ t6, I n [t5, t6] h →
    runD (binD T_int .add c4 (.int .i64 7)) h fun t16 h =>
    runD (binD T_int .lss t6 t16) h fun t17 h =>
    condW t17
    (runD (binD T_int .mul t5 (.int .i64 256)) h fun t21 h =>
    runD (lenD T_string h c0) h fun t24 h =>
    runD (binD T_int .lss t6 t24) h fun t25 h =>
    joinW (fun (J4 : AV → List AObj → Prop) =>
    condW t25
    (runD (indexD T_string c0 t6) h fun t29 h =>
      runD (convD h T_uint8 T_int t29) h fun t30 h =>
      runD (binD T_int .add t21 t30) h fun t31 h =>
      J4 t31 h)
    (J4 t21 h))
    (fun t5 h => runD (binD T_int .add t6 (.int .i64 1)) h fun t19 h =>
    (∃ m, m < n ∧ I m (AV.norms n0 h [t5, t19]) (normH n0 h)) ∧ AV.norms n0 h [c0, c3, c4] = [c0, c3, c4]))
    (J3 c0 c3 c4 t5 h)
def lamplighterref02_Words.L1 (c : Ctx) (J1 : AV → List AObj → Prop) (K : AOut → List AObj → Prop) (lv : List AV) (h0 : List AObj) (n0 : Nat) (c0 : AV) : Prop :=
  ∃ I : Nat → List AV → List AObj → Prop, (∃ n, I n lv h0) ∧ ∀ n h, ∀ t3, ∀ t4, I n [t3, t4] h →
    runD (lenD T_string h c0) h fun t9 h =>
    runD (binD T_int .lss t4 t9) h fun t10 h =>
    condW t10
    (joinW (fun (J2 : AV → AV → AV → List AObj → Prop) =>
    joinW (fun (J3 : AV → AV → AV → AV → List AObj → Prop) =>
    promV [false, false] [(.int .i64 0), t4] h fun lv h => lamplighterref02_Words.L2 c J3 K (AV.norms h.length h lv) (normH h.length h) h.length (AV.norm h.length h c0) (AV.norm h.length h t3) (AV.norm h.length h t4))
    (fun t0 t3 t4 t5 h => runD (buildSliceD T_sl_int 1 [(0, t5)] h.length) h fun t34 h =>
    runDM (appendD T_sl_int h t3 t34 h.length) (appendH T_sl_int h t3 t34) h fun t35 h =>
    J2 t0 t35 t4 h))
    (fun t0 t3 t4 h => runD (binD T_int .add t4 (.int .i64 7)) h fun t12 h =>
    (∃ m, m < n ∧ I m (AV.norms n0 h [t3, t12]) (normH n0 h)) ∧ AV.norms n0 h [t0] = [c0]))
    (J1 t3 h)
def lamplighterref02_Words.H (c : Ctx) (t0 : AV) (h : List AObj) (K : AOut → List AObj → Prop) : Prop :=
  joinW (fun (J1 : AV → List AObj → Prop) =>
  promV [true, false] [(.sl true (.ints .i64 [])), (.int .i64 0)] h fun lv h => lamplighterref02_Words.L1 c J1 K (AV.norms h.length h lv) (normH h.length h) h.length (AV.norm h.length h t0))
  (fun t3 h => K (.ret t3) h)
def lamplighterref02_Check.loops : Nat → LInfo
  | 1 => ⟨[], [], [], [(4, none), (3, some [6, 9])], [], []⟩
  | _ => ⟨[], [], [], [], [], []⟩
def lamplighterref02_Check.H (c : Ctx) (t0 : AV) (h : List AObj) (K : AOut → List AObj → Prop) : Prop :=
  runD (lenD T_string h t0) h fun t4 h =>
  runD (binD T_int .geq t4 (.int .i64 1)) h fun t5 h =>
  joinW (fun (J1 : AV → AV → List AObj → Prop) =>
  guardW t5 true
  (runD (lenD T_string h t0) h fun t8 h =>
    runD (binD T_int .leq t8 (.int .i64 21)) h fun t9 h =>
    J1 (.bool true) t9 h)
  (J1 (.bool false) .und h))
  (fun t6 t9 h => runD (pickD t6 t9 (.bool false)) h fun t10 h =>
  K (.ret t10) h)
def lamplighterref02_CheckVal.loops : Nat → LInfo
  | _ => ⟨[], [], [], [], [], []⟩
def lamplighterref02_CheckVal.H (c : Ctx) (t0 : AV) (h : List AObj) (K : AOut → List AObj → Prop) : Prop :=
  runD (lenD T_string h t0) h fun t4 h =>
  runD (binD T_int .leq t4 (.int .i64 21)) h fun t5 h =>
  K (.ret t5) h
theorem lamplighterref02_Numbers.eq (F : List (FuncId × Contract)) (S : List (FuncId × Con)) (t0 t1 : AV) (h : List AObj) (K : AOut → List AObj → Prop) : funW (ctx F S lamplighterref02_Numbers.loops) Try.f20 [t0, t1] h K = lamplighterref02_Numbers.H (ctx F S lamplighterref02_Numbers.loops) t0 t1 h K := by kernel_rfl
theorem lamplighterref02_Text.eq (F : List (FuncId × Contract)) (S : List (FuncId × Con)) (t0 t1 : AV) (h : List AObj) (K : AOut → List AObj → Prop) : funW (ctx F S lamplighterref02_Text.loops) Try.f96 [t0, t1] h K = lamplighterref02_Text.H (ctx F S lamplighterref02_Text.loops) t0 t1 h K := by kernel_rfl
theorem lamplighterref02_Words.eq (F : List (FuncId × Contract)) (S : List (FuncId × Con)) (t0 : AV) (h : List AObj) (K : AOut → List AObj → Prop) : funW (ctx F S lamplighterref02_Words.loops) Try.f124 [t0] h K = lamplighterref02_Words.H (ctx F S lamplighterref02_Words.loops) t0 h K := by kernel_rfl
theorem lamplighterref02_Check.eq (F : List (FuncId × Contract)) (S : List (FuncId × Con)) (t0 : AV) (h : List AObj) (K : AOut → List AObj → Prop) : funW (ctx F S lamplighterref02_Check.loops) Try.f142 [t0] h K = lamplighterref02_Check.H (ctx F S lamplighterref02_Check.loops) t0 h K := by kernel_rfl
theorem lamplighterref02_CheckVal.eq (F : List (FuncId × Contract)) (S : List (FuncId × Con)) (t0 : AV) (h : List AObj) (K : AOut → List AObj → Prop) : funW (ctx F S lamplighterref02_CheckVal.loops) Try.f143 [t0] h K = lamplighterref02_CheckVal.H (ctx F S lamplighterref02_CheckVal.loops) t0 h K := by kernel_rfl
theorem lamplighterref02_Numbers.at : Try.prog.funcs[20]? = some Try.f20 := by kernel_rfl
theorem lamplighterref02_Numbers.nm : (Try.f20.name == "runtime.NumGoroutine") = false := by kernel_rfl
theorem lamplighterref02_Numbers.bd : Try.f20.body.isNone = false := by kernel_rfl
theorem lamplighterref02_Text.at : Try.prog.funcs[96]? = some Try.f96 := by kernel_rfl
theorem lamplighterref02_Text.nm : (Try.f96.name == "runtime.NumGoroutine") = false := by kernel_rfl
theorem lamplighterref02_Text.bd : Try.f96.body.isNone = false := by kernel_rfl
theorem lamplighterref02_Words.at : Try.prog.funcs[124]? = some Try.f124 := by kernel_rfl
theorem lamplighterref02_Words.nm : (Try.f124.name == "runtime.NumGoroutine") = false := by kernel_rfl
theorem lamplighterref02_Words.bd : Try.f124.body.isNone = false := by kernel_rfl
theorem lamplighterref02_Check.at : Try.prog.funcs[142]? = some Try.f142 := by kernel_rfl
theorem lamplighterref02_Check.nm : (Try.f142.name == "runtime.NumGoroutine") = false := by kernel_rfl
theorem lamplighterref02_Check.bd : Try.f142.body.isNone = false := by kernel_rfl
theorem lamplighterref02_CheckVal.at : Try.prog.funcs[143]? = some Try.f143 := by kernel_rfl
theorem lamplighterref02_CheckVal.nm : (Try.f143.name == "runtime.NumGoroutine") = false := by kernel_rfl
theorem lamplighterref02_CheckVal.bd : Try.f143.body.isNone = false := by kernel_rfl
end Lam
namespace Lam
open Go Go.Proofs
set_option linter.unusedVariables false
set_option linter.unnecessarySimpa false
set_option linter.unusedSimpArgs false
def lamplighterref02_Numbers.C : Contract
  | [.sl _ (.ints .i64 a), .sl _ (.ints .i64 b)] => some (false, pD (roomy a.length) (.bool (decide (a = b))))
  | _ => none
set_option maxRecDepth 20000 in
theorem lamplighterref02_Numbers.spec : FSpec Try.prog 20 lamplighterref02_Numbers.C := by
  refine FSpec.of (ctx_ok (F := []) (S := []) (by simp) (by simp) lamplighterref02_Numbers.loops) lamplighterref02_Numbers.at lamplighterref02_Numbers.nm lamplighterref02_Numbers.bd ?_
  intro vs b S v news e hS
  unfold lamplighterref02_Numbers.C at e
  split at e
  rotate_left
  · cases e
  cases e
  rw [lamplighterref02_Numbers.eq]
  unfold lamplighterref02_Numbers.H
  simp (maxSteps := 4000000) only [go_sem, Nat.reduceEqDiff, Nat.reduceLT, Nat.reduceAdd, Nat.reduceSub, Nat.reduceLeDiff, List.reduceReplicate, Int.reduceToNat]
  rename_i a _ b
  unfold roomy at hS
  refine ⟨fun hne => ?_, fun heq => ?_⟩
  · have : decide (a = b) = false := by rw [decide_eq_false_iff_not]; rintro rfl; exact hne rfl
    rw [this]; exact post_val rfl rfl
  rw [joinW_eq]
  unfold lamplighterref02_Numbers.L1
  have hlen : a.length = b.length := by omega
  refine loop1 (fun k : Nat => .int .i64 k) (fun _ => []) (fun k => a.length - k) (fun k => k ≤ a.length ∧ ∀ i, i < k → a.getD i 0 = b.getD i 0) 0 rfl rfl ⟨Nat.zero_le _, fun i hi => absurd hi (Nat.not_lt_zero i)⟩ ?_
  rintro I back k ⟨hk, hall⟩
  simp only [go_sem, Nat.reduceEqDiff, Nat.reduceLT, Nat.reduceAdd, Nat.reduceSub, Nat.reduceLeDiff, List.reduceReplicate, Int.reduceToNat]
  refine ⟨fun hlt => ⟨by omega, by omega, fun h0 => ?_, fun h0 => ?_⟩, fun hge => ?_⟩
  · have : decide (a = b) = false := by rw [decide_eq_false_iff_not]; rintro rfl; exact h0 rfl
    rw [this]; exact post_val rfl rfl
  · refine back (k + 1) (by omega) (by rw [wnext (by omega)]) rfl ⟨by omega, fun i hi => ?_⟩
    by_cases e : i = k
    · subst e; exact h0
    · exact hall i (by omega)
  · rw [decide_eq_true (ext_d 0 hlen fun i hi => hall i (by omega))]; exact post_val rfl rfl
end Lam
namespace Lam
open Go Go.Proofs
set_option linter.unusedVariables false
def lamplighterlaw11_awake.loops : Nat → LInfo
  | 7 => ⟨[], [], [], [(4, none), (2, some [43, 45]), (2, none), (3, some [47, 50]), (2, none), (2, some [52, 54]), (2, none), (3, some [56, 59]), (2, none), (2, some [61, 63]), (2, none), (2, some [65, 67]), (2, none), (2, some [69, 71]), (2, none), (2, some [73, 75]), (2, none), (2, some [77, 79]), (2, none), (3, some [81, 84]), (2, none), (2, some [86, 88])], [], []⟩
  | _ => ⟨[], [], [], [], [], []⟩
def lamplighterlaw11_awake.H (c : Ctx) (h : List AObj) (K : AOut → List AObj → Prop) : Prop :=
  callW false c (.fn (.func 16) [] []) [(.int .i64 4)] h (fun t14 h =>
  runD (extractD t14 0) h fun t15 h =>
  runD (extractD t14 1) h fun t16 h =>
  callW false c (.fn (.func 17) [] []) [t15] h (fun t19 h =>
  runD (extractD t19 0) h fun t20 h =>
  runD (extractD t19 1) h fun t21 h =>
  callW false c (.fn (.func 18) [] []) [t15] h (fun t24 h =>
  runD (extractD t24 0) h fun t25 h =>
  runD (extractD t24 1) h fun t26 h =>
  callW false c (.fn (.func 22) [] []) [t15, (.int .i64 1)] h (fun t29 h =>
  runD (extractD t29 0) h fun t30 h =>
  runD (extractD t29 1) h fun t31 h =>
  callW false c (.fn (.func 16) [] []) [(.int .i64 1)] h (fun t33 h =>
  runD (extractD t33 0) h fun t34 h =>
  runD (extractD t33 1) h fun t35 h =>
  callW false c (.fn (.func 17) [] []) [(.sl true (.ints .i64 []))] h (fun t37 h =>
  runD (extractD t37 0) h fun t38 h =>
  runD (extractD t37 1) h fun t39 h =>
  runD (lenD T_sl_int h t15) h fun t41 h =>
  runD (binD T_int .eql t41 (.int .i64 64)) h fun t42 h =>
  joinW (fun (J1 : AV → AV → List AObj → Prop) =>
  guardW t42 true
  (runD (binD T_api_Errno .eql t16 (.int .i64 0)) h fun t45 h =>
    J1 (.bool true) t45 h)
  (J1 (.bool false) .und h))
  (fun t43 t45 h => runD (pickD t43 t45 (.bool false)) h fun t46 h =>
  joinW (fun (J2 : AV → AV → List AObj → Prop) =>
  guardW t46 true
  (runD (buildSliceD T_sl_int 1 [(0, (.int .i64 1))] h.length) h fun t49 h =>
    callW false c (.fn (.func 20) [] []) [t20, t49] h (fun t50 h =>
    J2 (.bool true) t50 h)
    (fun v h => K (.pan v) h))
  (J2 (.bool false) .und h))
  (fun t47 t50 h => runD (pickD t47 t50 (.bool false)) h fun t51 h =>
  joinW (fun (J3 : AV → AV → List AObj → Prop) =>
  guardW t51 true
  (runD (binD T_api_Errno .eql t21 (.int .i64 0)) h fun t54 h =>
    J3 (.bool true) t54 h)
  (J3 (.bool false) .und h))
  (fun t52 t54 h => runD (pickD t52 t54 (.bool false)) h fun t55 h =>
  joinW (fun (J4 : AV → AV → List AObj → Prop) =>
  guardW t55 true
  (runD (buildSliceD T_sl_int 2 [(0, (.int .i64 0)), (1, (.int .i64 1))] h.length) h fun t58 h =>
    callW false c (.fn (.func 20) [] []) [t25, t58] h (fun t59 h =>
    J4 (.bool true) t59 h)
    (fun v h => K (.pan v) h))
  (J4 (.bool false) .und h))
  (fun t56 t59 h => runD (pickD t56 t59 (.bool false)) h fun t60 h =>
  joinW (fun (J5 : AV → AV → List AObj → Prop) =>
  guardW t60 true
  (runD (binD T_api_Errno .eql t26 (.int .i64 0)) h fun t63 h =>
    J5 (.bool true) t63 h)
  (J5 (.bool false) .und h))
  (fun t61 t63 h => runD (pickD t61 t63 (.bool false)) h fun t64 h =>
  joinW (fun (J6 : AV → AV → List AObj → Prop) =>
  guardW t64 true
  (runD (binD T_string .eql t30 (.str [])) h fun t67 h =>
    J6 (.bool true) t67 h)
  (J6 (.bool false) .und h))
  (fun t65 t67 h => runD (pickD t65 t67 (.bool false)) h fun t68 h =>
  joinW (fun (J7 : AV → AV → List AObj → Prop) =>
  guardW t68 true
  (runD (binD T_api_Errno .eql t31 (.int .i64 0)) h fun t71 h =>
    J7 (.bool true) t71 h)
  (J7 (.bool false) .und h))
  (fun t69 t71 h => runD (pickD t69 t71 (.bool false)) h fun t72 h =>
  joinW (fun (J8 : AV → AV → List AObj → Prop) =>
  guardW t72 true
  (runD (binD T_api_Errno .eql t35 (.int .i64 1)) h fun t75 h =>
    J8 (.bool true) t75 h)
  (J8 (.bool false) .und h))
  (fun t73 t75 h => runD (pickD t73 t75 (.bool false)) h fun t76 h =>
  joinW (fun (J9 : AV → AV → List AObj → Prop) =>
  guardW t76 true
  (runD (binD T_api_Errno .eql t39 (.int .i64 110)) h fun t79 h =>
    J9 (.bool true) t79 h)
  (J9 (.bool false) .und h))
  (fun t77 t79 h => runD (pickD t77 t79 (.bool false)) h fun t80 h =>
  joinW (fun (J10 : AV → AV → List AObj → Prop) =>
  guardW t80 true
  (callW false c (.fn (.func 19) [] []) [t15] h (fun t83 h =>
    runD (binD T_api_Errno .eql t83 (.int .i64 0)) h fun t84 h =>
    J10 (.bool true) t84 h)
    (fun v h => K (.pan v) h))
  (J10 (.bool false) .und h))
  (fun t81 t84 h => runD (pickD t81 t84 (.bool false)) h fun t85 h =>
  joinW (fun (J11 : AV → AV → List AObj → Prop) =>
  guardW t85 true
  (callW false c (.fn (.func 19) [] []) [(.sl true (.ints .i64 []))] h (fun t87 h =>
    runD (binD T_api_Errno .eql t87 (.int .i64 110)) h fun t88 h =>
    J11 (.bool true) t88 h)
    (fun v h => K (.pan v) h))
  (J11 (.bool false) .und h))
  (fun t86 t88 h => runD (pickD t86 t88 (.bool false)) h fun t89 h =>
  runD (pickD t89 (.bool true) (.bool false)) h fun t91 h =>
  K (.ret t91) h))))))))))))
  (fun v h => K (.pan v) h))
  (fun v h => K (.pan v) h))
  (fun v h => K (.pan v) h))
  (fun v h => K (.pan v) h))
  (fun v h => K (.pan v) h))
  (fun v h => K (.pan v) h)
theorem lamplighterlaw11_awake.eq (F : List (FuncId × Contract)) (S : List (FuncId × Con)) (h : List AObj) (K : AOut → List AObj → Prop) : funW (ctx F S lamplighterlaw11_awake.loops) Try.f15 [] h K = lamplighterlaw11_awake.H (ctx F S lamplighterlaw11_awake.loops)  h K := by kernel_rfl
theorem lamplighterlaw11_awake.at : Try.prog.funcs[15]? = some Try.f15 := by kernel_rfl
theorem lamplighterlaw11_awake.nm : (Try.f15.name == "runtime.NumGoroutine") = false := by kernel_rfl
theorem lamplighterlaw11_awake.bd : Try.f15.body.isNone = false := by kernel_rfl
end Lam
namespace Lam
open Go Go.Proofs
set_option linter.unusedVariables false
def lamplighterref10_In.loops : Nat → LInfo
  | 2 => ⟨[5], [false], [0, 1], [], [], []⟩
  | _ => ⟨[], [], [], [], [], []⟩
def lamplighterref10_In.L1 (c : Ctx) (J1 : List AObj → Prop) (K : AOut → List AObj → Prop) (lv : List AV) (h0 : List AObj) (n0 : Nat) (c0 : AV) (c1 : AV) : Prop :=
  ∃ I : Nat → List AV → List AObj → Prop, (∃ n, I n lv h0) ∧ ∀ n h, ∀ t5, I n [t5] h →
    runD (lenD T_sl_int h c0) h fun t8 h =>
    runD (binD T_int .lss t5 t8) h fun t9 h =>
    condW t9
    (runD (indexAddrD T_sl_int h c0 t5) h fun t14 h =>
    runD (fitD T_int (loadD h t14)) h fun t15 h =>
    runD (binD T_int .eql t15 c1) h fun t17 h =>
    condW t17
    (K (.ret (.bool true)) h)
    (runD (binD T_int .add t5 (.int .i64 1)) h fun t11 h =>
    (∃ m, m < n ∧ I m (AV.norms n0 h [t11]) (normH n0 h)) ∧ AV.norms n0 h [c0, c1] = [c0, c1]))
    (J1 h)
def lamplighterref10_In.H (c : Ctx) (t0 : AV) (t1 : AV) (h : List AObj) (K : AOut → List AObj → Prop) : Prop :=
  joinW (fun (J1 : List AObj → Prop) =>
  promV [false] [(.int .i64 0)] h fun lv h => lamplighterref10_In.L1 c J1 K (AV.norms h.length h lv) (normH h.length h) h.length (AV.norm h.length h t0) (AV.norm h.length h t1))
  (fun h => K (.ret (.bool false)) h)
theorem lamplighterref10_In.eq (F : List (FuncId × Contract)) (S : List (FuncId × Con)) (t0 t1 : AV) (h : List AObj) (K : AOut → List AObj → Prop) : funW (ctx F S lamplighterref10_In.loops) Try.f21 [t0, t1] h K = lamplighterref10_In.H (ctx F S lamplighterref10_In.loops) t0 t1 h K := by kernel_rfl
theorem lamplighterref10_In.at : Try.prog.funcs[21]? = some Try.f21 := by kernel_rfl
theorem lamplighterref10_In.nm : (Try.f21.name == "runtime.NumGoroutine") = false := by kernel_rfl
theorem lamplighterref10_In.bd : Try.f21.body.isNone = false := by kernel_rfl
end Lam
namespace Lam
set_option maxRecDepth 20000
open Go Go.Proofs
set_option linter.unusedVariables false
set_option linter.unnecessarySimpa false
set_option linter.unusedSimpArgs false
def newAr (n : Nat) : List Int := superW n 1 ++ (wordsNd zeroNd ++ List.replicate (16 * n - 32) 0)
def newArV (n : Int) : AV := if (decide (n < 2) || decide (256 < n)) = true then .tup [.sl false (.ints .i64 []), .int .i64 1] else .tup [.sl false (.ints .i64 (newAr n.toNat)), .int .i64 0]
def arena_New.C : Contract
  | [.int .i64 n] => some (false, pD True (newArV n))
  | _ => none
set_option maxRecDepth 20000 in
theorem arena_New.spec : FSpec Try.prog 16 arena_New.C := by
  refine FSpec.of (ctx_ok (F := [(48, super_Words.C), (35, node_Words.C)]) (S := []) (by simpa using ⟨super_Words.spec, node_Words.spec⟩) (by simp) arena_New.loops) arena_New.at arena_New.nm arena_New.bd ?_
  intro vs b S v news e hS
  unfold arena_New.C at e
  split at e
  rotate_left
  · cases e
  cases e
  rw [arena_New.eq]
  unfold arena_New.H
  simp (maxSteps := 4000000) only [go_sem, Nat.reduceEqDiff, Nat.reduceLT, Nat.reduceAdd, Nat.reduceSub, Nat.reduceLeDiff, List.reduceReplicate, Int.reduceToNat, super_Words.C, node_Words.C]
  rename_i n
  refine ⟨fun h => ?_, fun h => ?_⟩
  · have : newArV n = .tup [.sl false (.ints .i64 []), .int .i64 1] := by unfold newArV; rw [if_pos h]
    rw [this]; refine post_val ?_ rfl; simp only [go_sem, Nat.reduceEqDiff, Nat.reduceLT, Nat.reduceAdd, Nat.reduceSub, Nat.reduceLeDiff, List.reduceReplicate, Int.reduceToNat]
  · have hv : newArV n = .tup [.sl false (.ints .i64 (newAr n.toNat)), .int .i64 0] := by unfold newArV; rw [if_neg (by rw [h]; decide)]
    rw [hv]
    clear hv
    simp only [Bool.or_eq_false_iff, decide_eq_false_iff_not] at h
    obtain ⟨k, rfl⟩ := Int.eq_ofNat_of_zero_le (show 0 ≤ n by omega)
    have hmay : mayB (k : Int) 1 = true := by unfold mayB; simp only [Bool.and_eq_true, decide_eq_true_eq]; omega
    have e1 : IntKind.i64.wrap (16 * (k : Int)) = ((16 * k : Nat) : Int) := by rw [w64 (by omega) (by omega)]; omega
    have hz : wordsV ⟨0, 0, 0, 0, []⟩ = .tup [.sl false (.ints .i64 (wordsNd zeroNd)), .int .i64 0] := by
      unfold wordsV; rw [if_pos (by decide)]; rfl
    have hsl : (superW (k : Int) 1).length = 16 := rfl
    have hzl : (wordsNd zeroNd).length = 16 := rfl
    have hrl : (List.replicate (16 * k) (0 : Int)).length = 16 * k := List.length_replicate
    simp only [hmay, if_true, e1, hz, Int.toNat_natCast, hsl, hzl, joinW_eq, guard_tt, guard_tf, guard_ft, guard_ff, Int.reduceEq, Int.reduceLT, Int.reduceLE, decide_false, decide_true, Bool.not_false, Bool.not_true, Bool.not_not, not_true_eq_false, not_false_eq_true, true_implies, false_implies, implies_true, and_true, true_and, reduceCtorEq, Bool.and_self, Bool.or_self, Bool.and_true, Bool.true_and, Bool.false_eq_true, if_true, if_false, go_sem, Nat.reduceEqDiff, Nat.reduceLT, Nat.reduceAdd, Nat.reduceSub, Nat.reduceLeDiff, List.reduceReplicate, Int.reduceToNat]
    refine ⟨⟨by omega, by omega, by unfold roomy; omega⟩, by omega, ?_⟩
    have m1 : min (16 * k) 16 = 16 := by omega
    have m2 : min (16 * k - 16) 16 = 16 := by omega
    have t1 : (superW (k : Int) 1).take (16 * k) = superW (k : Int) 1 := List.take_of_length_le (by rw [hsl]; omega)
    have t2 : (wordsNd zeroNd).take (16 * k - 16) = wordsNd zeroNd := List.take_of_length_le (by rw [hzl]; omega)
    refine post_val ?_ rfl
    simp only [m1, m2, t1, t2, go_sem, Nat.reduceEqDiff, Nat.reduceLT, Nat.reduceAdd, Nat.reduceSub, Nat.reduceLeDiff, List.reduceReplicate, Int.reduceToNat]
    have hR : List.take (16 * k - 16) (List.drop 16 (List.replicate (16 * k) (0 : Int))) = List.replicate (16 * k - 16) 0 := by simp
    rw [hR]
    have l1 : (superW (k : Int) 1 ++ List.replicate (16 * k - 16) (0 : Int)).length = 16 * k := by rw [List.length_append, hsl, List.length_replicate]; omega
    have l2 : (superW (k : Int) 1 ++ List.replicate (16 * k - 16) (0 : Int)).take 16 = superW (k : Int) 1 := List.take_left' hsl
    have l3 : (superW (k : Int) 1 ++ List.replicate (16 * k - 16) (0 : Int)).drop 32 = List.replicate (16 * k - 32) 0 := by
      rw [List.drop_append, hsl, List.drop_of_length_le (by rw [hsl]; omega), List.drop_replicate, List.nil_append]
      rw [show 16 * k - 16 - (32 - 16) = 16 * k - 32 by omega]
    rw [l1, l2, l3]
    have l4 : (List.replicate (16 * k - 32) (0 : Int)).take (16 * k - 32) = List.replicate (16 * k - 32) 0 := by simp
    rw [l4]
    have l5 : (superW (k : Int) 1 ++ (wordsNd zeroNd ++ List.replicate (16 * k - 32) (0 : Int))).take (16 * k) = newAr k := by
      rw [List.take_of_length_le]
      · rfl
      · simp only [List.length_append, hsl, hzl, List.length_replicate]; omega
    rw [l5]
def lamplighterref10_In.C : Contract
  | [.sl _ (.ints .i64 l), .int .i64 v] => some (false, pD (roomy l.length) (.bool (decide (v ∈ l))))
  | _ => none
set_option maxRecDepth 20000 in
theorem lamplighterref10_In.spec : FSpec Try.prog 21 lamplighterref10_In.C := by
  refine FSpec.of (ctx_ok (F := []) (S := []) (by simp) (by simp) lamplighterref10_In.loops) lamplighterref10_In.at lamplighterref10_In.nm lamplighterref10_In.bd ?_
  intro vs b S v news e hS
  unfold lamplighterref10_In.C at e
  split at e
  rotate_left
  · cases e
  cases e
  rw [lamplighterref10_In.eq]
  unfold lamplighterref10_In.H
  simp (maxSteps := 4000000) only [go_sem, Nat.reduceEqDiff, Nat.reduceLT, Nat.reduceAdd, Nat.reduceSub, Nat.reduceLeDiff, List.reduceReplicate, Int.reduceToNat]
  rename_i _ l v
  rw [joinW_eq]
  unfold lamplighterref10_In.L1
  have hr := hS
  unfold roomy at hr
  refine loop1 (σ := Nat) (fun k => .int .i64 k) (fun k => []) (fun k => l.length - k) (fun k => k ≤ l.length ∧ v ∉ l.take k) 0 rfl rfl ⟨Nat.zero_le _, by simp⟩ ?_
  rintro I back k ⟨hk, hall⟩
  simp only [go_sem, Nat.reduceEqDiff, Nat.reduceLT, Nat.reduceAdd, Nat.reduceSub, Nat.reduceLeDiff, List.reduceReplicate, Int.reduceToNat]
  refine ⟨fun hlt => ⟨by omega, fun h => ?_, fun h => ?_⟩, fun hge => ?_⟩
  · have : v ∈ l := by rw [← h]; exact getD_mem l k 0 (by omega)
    rw [decide_eq_true this]; exact post_val rfl rfl
  · refine back (k + 1) (by omega) (by rw [wnext (by omega)]) rfl ⟨by omega, fun hm => ?_⟩
    rw [take_next l k 0 (by omega), List.mem_append, List.mem_singleton] at hm
    rcases hm with hm | hm
    · exact hall hm
    · exact h hm.symm
  · obtain rfl : k = l.length := by omega
    rw [List.take_length] at hall
    rw [decide_eq_false hall]; exact post_val rfl rfl
def A4 : List Int := newAr 4
theorem A4_small : smallW A4 := by
  refine ⟨by decide +kernel, ?_⟩
  have : A4.all (fun x => decide (x < 9223372036854775808)) = true := by decide +kernel
  intro x hx
  exact of_decide_eq_true (List.all_eq_true.1 this x hx)
theorem aw11_0 : newArV 4 = .tup [.sl false (.ints .i64 A4), .int .i64 0] := by unfold newArV; rw [if_neg (by decide +kernel)]; rfl
theorem A4_chain : chainO (readB A4) A4 = some [1] := by decide +kernel
theorem A4_look : lookO (readB A4) A4 = some [1] := by decide +kernel
theorem aw11_1 : leavesV A4 = .tup [.sl false (.ints .i64 [1]), .int .i64 0] := by unfold leavesV; rw [A4_chain]
theorem aw11_2 : lowV A4 1 = .tup [.str [], .int .i64 0] := by unfold lowV; rw [show (nodeO A4 1).bind (lowO A4) = some [] from by decide +kernel]
theorem aw11_3 : newArV 1 = .tup [.sl false (.ints .i64 []), .int .i64 1] := by unfold newArV; rw [if_pos (by decide +kernel)]
theorem aw11_4 : leavesV [] = .tup [.sl false (.ints .i64 []), .int .i64 110] := by unfold leavesV; rw [show chainO (readB []) [] = none from by decide +kernel]
theorem aw11_5 : checkI A4 = 0 := by unfold checkI; rw [A4_look]; rfl
theorem aw11_6 : checkI [] = 110 := by unfold checkI; rw [show lookO (readB []) [] = none from by decide +kernel]; rfl
theorem aw11_7 {v : AV} (h : reachQ A4 v) : v = .tup [.sl false (.ints .i64 [0, 1]), .int .i64 0] := by
  unfold reachQ at h
  rw [A4_look] at h
  obtain ⟨a, _, h2, rfl⟩ := h
  rw [h2 (by
    have : nodeO A4 (A4.getD 3 0) = some zeroNd := by decide +kernel
    intro nd h; rw [this] at h; cases h; rfl)]
  have : reached (marksL A4 mark0 [1]) (A4.getD 1 0).toNat = [0, 1] := by decide +kernel
  rw [this]
theorem aw11_8 : A4.length = 64 := by decide +kernel
def lamplighterlaw11_awake.C : Contract
  | [] => some (false, pD True (.bool true))
  | _ => none
set_option maxRecDepth 20000 in
theorem lamplighterlaw11_awake.spec : FSpec Try.prog 15 lamplighterlaw11_awake.C := by
  refine FSpec.of (ctx_ok (F := [(16, arena_New.C), (17, arena_Leaves.C), (22, arena_Low.C), (19, arena_Check.C), (20, lamplighterref02_Numbers.C)]) (S := [(18, arena_Reach.K)]) (by simpa using ⟨arena_New.spec, arena_Leaves.spec, arena_Low.spec, arena_Check.spec, lamplighterref02_Numbers.spec⟩) (by simpa using arena_Reach.qspec.con) lamplighterlaw11_awake.loops) lamplighterlaw11_awake.at lamplighterlaw11_awake.nm lamplighterlaw11_awake.bd ?_
  intro vs b S v news e hS
  unfold lamplighterlaw11_awake.C at e
  split at e
  rotate_left
  · cases e
  cases e
  rw [lamplighterlaw11_awake.eq]
  unfold lamplighterlaw11_awake.H
  simp (maxSteps := 4000000) only [go_sem, Nat.reduceEqDiff, Nat.reduceLT, Nat.reduceAdd, Nat.reduceSub, Nat.reduceLeDiff, List.reduceReplicate, Int.reduceToNat, arena_New.C, arena_Leaves.C, arena_Low.C, arena_Check.C, lamplighterref02_Numbers.C, arena_Reach.K, arena_Reach.Q, aw11_0, aw11_1, aw11_2, aw11_3, aw11_4, aw11_5, aw11_6, aw11_8]
  have h0 : smallW [] := ⟨by decide, by intro x hx; cases hx⟩
  have r1 : roomy 1 := by unfold roomy; omega
  have r2 : roomy 2 := by unfold roomy; omega
  refine ⟨A4_small, A4_small, fun v hv => ?_⟩
  rw [aw11_7 hv]
  simp only [lamplighterref02_Numbers.C, joinW_eq, decide_true, joinW_eq, guard_tt, guard_tf, guard_ft, guard_ff, Int.reduceEq, Int.reduceLT, Int.reduceLE, decide_false, decide_true, Bool.not_false, Bool.not_true, Bool.not_not, not_true_eq_false, not_false_eq_true, true_implies, false_implies, implies_true, and_true, true_and, reduceCtorEq, Bool.and_self, Bool.or_self, Bool.and_true, Bool.true_and, Bool.false_eq_true, if_true, if_false, go_sem, Nat.reduceEqDiff, Nat.reduceLT, Nat.reduceAdd, Nat.reduceSub, Nat.reduceLeDiff, List.reduceReplicate, Int.reduceToNat]
  exact ⟨A4_small, h0, r1, r2, A4_small, h0, post_val rfl rfl⟩
end Lam
namespace Lam
open Go
set_option linter.unusedVariables false
set_option linter.unusedSimpArgs false
theorem nodeO_congr {w w' : List Int} {b : Int} (hl : w'.length = w.length) (hb : 0 ≤ b → blockAt w' b.toNat = blockAt w b.toNat) : nodeO w' b = nodeO w b := by
  unfold nodeO
  rw [hl]
  by_cases h : (decide (b < 0) || decide (((w.length / 16 : Nat) : Int) ≤ b)) = true
  · rw [if_pos h, if_pos h]
  · rw [if_neg h, if_neg h]
    simp only [Bool.or_eq_true, decide_eq_true_eq, not_or] at h
    rw [hb (by omega)]
theorem recO_congr {w w' : List Int} {b : Int} (hl : w'.length = w.length) (hb : 0 ≤ b → blockAt w' b.toNat = blockAt w b.toNat) : recO w' b = recO w b := by
  unfold recO
  rw [hl]
  by_cases h : (decide (b < 0) || decide (((w.length / 16 : Nat) : Int) ≤ b)) = true
  · rw [if_pos h, if_pos h]
  · rw [if_neg h, if_neg h]
    simp only [Bool.or_eq_true, decide_eq_true_eq, not_or] at h
    rw [hb (by omega)]
theorem chainF_congr {w w' : List Int} : ∀ (m : Nat) (b : Int) (out l : List Int), chainF w m b out = some l → out.Nodup → (∀ x ∈ out, 0 ≤ x ∧ x < ((w.length / 16 : Nat) : Int)) → (∀ x ∈ l, x ≠ 0 → nodeO w' x = nodeO w x) → chainF w' m b out = some l
  | 0, b, out, l, h, _, _, _ => by cases h
  | m + 1, b, out, l, h, hn, hr, hg => by
    have h' := h
    simp only [chainF] at h ⊢
    by_cases h0 : b = 0
    · rw [if_pos h0] at h ⊢; exact h
    · rw [if_neg h0] at h ⊢
      have hbl : b ∈ l := by
        obtain ⟨_, _, r, e, hr', _⟩ := chainF_some _ _ _ _ h' hn hr
        obtain ⟨r', e'⟩ := hr' h0
        rw [e, e']; simp
      rw [hg b hbl h0]
      cases hnd : nodeO w b with
      | none => rw [hnd] at h; cases h
      | some n =>
        rw [hnd] at h
        simp only at h ⊢
        by_cases hc : n.level = 0 ∧ b ∉ out
        · rw [if_pos hc] at h ⊢
          obtain ⟨_, q0, q1, _⟩ := nodeO_some hnd
          refine chainF_congr m _ _ _ h ?_ ?_ hg
          · rw [List.nodup_append]
            refine ⟨hn, by simp, fun a ha b' hb' => ?_⟩
            simp only [List.mem_singleton] at hb'
            subst hb'
            rintro rfl
            exact hc.2 ha
          · intro x hx
            simp only [List.mem_append, List.mem_singleton] at hx
            rcases hx with hx | rfl
            · exact hr x hx
            · exact ⟨q0, q1⟩
        · rw [if_neg hc] at h; cases h
theorem chainO_congr {w w' l : List Int} {hb hb' : Bool} (hl : w'.length = w.length) (hbb : hb' = hb) (h : chainO hb w = some l) (hg : ∀ x ∈ l, x ≠ 0 → nodeO w' x = nodeO w x) : chainO hb' w' = some l := by
  unfold chainO at h ⊢
  rw [hbb, hl]
  split at h
  · rename_i e
    rw [if_pos e]
    exact chainF_congr _ _ _ _ h List.nodup_nil (by simp) hg
  · cases h
theorem chainF_nz {w : List Int} : ∀ (m : Nat) (b : Int) (out l : List Int), chainF w m b out = some l → (∀ x ∈ out, x ≠ 0) → ∀ x ∈ l, x ≠ 0
  | 0, _, _, _, h, _ => by cases h
  | m + 1, b, out, l, h, ho => by
    simp only [chainF] at h
    split at h
    · cases h; exact ho
    · rename_i h0
      split at h
      · cases h
      · split at h
        · refine chainF_nz m _ _ _ h fun x hx => ?_
          simp only [List.mem_append, List.mem_singleton] at hx
          rcases hx with hx | rfl
          · exact ho x hx
          · exact h0
        · cases h
theorem chainO_nz {hb : Bool} {w l : List Int} (h : chainO hb w = some l) : ∀ x ∈ l, x ≠ 0 := by
  unfold chainO at h
  split at h
  · exact chainF_nz _ _ _ _ h (by simp)
  · cases h
theorem mem_plain : ∀ {l : List Int} {x : Int}, x ∈ plain l ↔ x ∈ l
  | [], x => by simp [plain]
  | [a], x => by simp [plain]
  | a :: b :: r, x => by
    simp only [plain]
    have ih := mem_plain (l := b :: r) (x := x)
    split
    · rename_i e
      subst e
      rw [ih]; simp
    · rw [List.mem_cons, ih, List.mem_cons (a := x) (b := a)]
theorem slotsB_congr {w w' : List Int} {low : Bytes} : ∀ {l : List Int} {k : Nat} {last : Bytes}, (∀ s ∈ l, recO w' s = recO w s) → slotsB w' low l k last = slotsB w low l k last
  | [], _, _, _ => rfl
  | s :: r, k, last, h => by
    simp only [slotsB]
    rw [h s (by simp)]
    cases recO w s with
    | none => rfl
    | some x => simp only [slotsB_congr (l := r) fun s hs => h s (by simp [hs])]
theorem slotsB_some {w : List Int} {low : Bytes} : ∀ {l : List Int} {k : Nat} {last : Bytes}, slotsB w low l k last = true → ∀ s ∈ l, ∃ x, recO w s = some x ∧ x.kind = 1
  | [], _, _, _, s, hs => by cases hs
  | a :: r, k, last, h, s, hs => by
    simp only [slotsB] at h
    cases hx : recO w a with
    | none => rw [hx] at h; cases h
    | some x =>
      rw [hx] at h
      simp only [Bool.and_eq_true, decide_eq_true_eq] at h
      rcases List.mem_cons.1 hs with rfl | hs
      · exact ⟨x, hx, h.1.1.1⟩
      · exact slotsB_some h.2 s hs
/-- what a sound leaf has -/
theorem leafO_some {w : List Int} {i : Nat} {last low : Bytes} {b : Int} (h : leafO w i last b = some low) : ∃ n, nodeO w b = some n ∧ lowO w n = some low ∧ slotsB w low (plain n.slots) 0 low = true := by
  unfold leafO at h
  cases hn : nodeO w b with
  | none => rw [hn] at h; cases h
  | some n =>
    rw [hn] at h
    simp only at h
    cases hw : lowO w n with
    | none => rw [hw] at h; cases h
    | some lo =>
      rw [hw] at h
      simp only at h
      split at h
      rotate_left
      · cases h
      rename_i hc
      cases h
      simp only [Bool.and_eq_true] at hc
      exact ⟨n, rfl, hw, hc.2⟩
theorem leavesB_each {w : List Int} : ∀ {l : List Int} {i : Nat} {last : Bytes}, leavesB w l i last = true → ∀ b ∈ l, ∃ j la low, leafO w j la b = some low
  | [], _, _, _, b, hb => by cases hb
  | a :: r, i, last, h, b, hb => by
    simp only [leavesB] at h
    split at h
    · cases h
    · rename_i low hl
      rcases List.mem_cons.1 hb with rfl | hb
      · exact ⟨i, last, low, hl⟩
      · exact leavesB_each h b hb
/-- what a sound leaf reaches, is there -/
theorem leaf_reach {w : List Int} {i : Nat} {last low : Bytes} {b : Int} (h : leafO w i last b = some low) : ∃ n, nodeO w b = some n ∧ (n.low ≠ 0 → ∃ x, recO w n.low = some x) ∧ ∀ s ∈ n.slots, ∃ x, recO w s = some x ∧ x.kind = 1 := by
  obtain ⟨n, h1, h2, h3⟩ := leafO_some h
  refine ⟨n, h1, fun hl => ?_, fun s hs => slotsB_some h3 s (mem_plain.2 hs)⟩
  unfold lowO at h2
  rw [if_neg hl] at h2
  cases hx : recO w n.low with
  | none => rw [hx] at h2; cases h2
  | some x => exact ⟨x, rfl⟩
theorem leafO_congr {w w' : List Int} {i : Nat} {last low : Bytes} {b : Int} (h : leafO w i last b = some low) (hn : nodeO w' b = nodeO w b) (hr : ∀ n, nodeO w b = some n → (n.low ≠ 0 → recO w' n.low = recO w n.low) ∧ ∀ s ∈ n.slots, recO w' s = recO w s) : leafO w' i last b = some low := by
  rw [← h]
  obtain ⟨n, h1, h2, h3⟩ := leafO_some h
  obtain ⟨q1, q2⟩ := hr n h1
  have hlo : lowO w' n = lowO w n := by
    unfold lowO
    by_cases e : n.low = 0
    · rw [if_pos e, if_pos e]
    · rw [if_neg e, if_neg e, q1 e]
  unfold leafO
  rw [hn, h1]
  simp only [hlo, h2, slotsB_congr (low := low) (k := 0) (last := low) fun s hs => q2 s (mem_plain.1 hs)]
theorem leavesB_congr {w w' : List Int} : ∀ {l : List Int} {i : Nat} {last : Bytes}, leavesB w l i last = true → (∀ b ∈ l, nodeO w' b = nodeO w b ∧ ∀ n, nodeO w b = some n → (n.low ≠ 0 → recO w' n.low = recO w n.low) ∧ ∀ s ∈ n.slots, recO w' s = recO w s) → leavesB w' l i last = true
  | [], _, _, _, _ => rfl
  | a :: r, i, last, h, hg => by
    simp only [leavesB] at h ⊢
    split at h
    · cases h
    · rename_i low hl
      rw [leafO_congr hl (hg a (by simp)).1 (hg a (by simp)).2]
      exact leavesB_congr h fun b hb => hg b (by simp [hb])
theorem blockAt_ext {w w' : List Int} {b : Nat} (hl : w'.length = w.length) (h : ∀ k, k / 16 = b → w'.getD k 0 = w.getD k 0) : blockAt w' b = blockAt w b := by
  have e1 : (blockAt w' b).length = (blockAt w b).length := by unfold blockAt; simp [hl]
  refine List.ext_getElem? fun i => ?_
  rcases Nat.lt_or_ge i (blockAt w b).length with hi | hi
  · have hi16 : i < 16 := by unfold blockAt at hi; simp at hi; omega
    have hil : 16 * b + i < w.length := by unfold blockAt at hi; simp at hi; omega
    have := h (16 * b + i) (by omega)
    unfold blockAt
    rw [List.getElem?_take, List.getElem?_take, if_pos hi16, if_pos hi16, List.getElem?_drop, List.getElem?_drop]
    rw [List.getD_eq_getElem?_getD, List.getD_eq_getElem?_getD, List.getElem?_eq_getElem hil, List.getElem?_eq_getElem (by omega)] at this
    rw [List.getElem?_eq_getElem hil, List.getElem?_eq_getElem (by omega)]
    simpa using this
  · rw [List.getElem?_eq_none (by omega), List.getElem?_eq_none hi]
end Lam
namespace Lam
open Go
set_option linter.unusedVariables false
set_option linter.unnecessarySimpa false
set_option linter.unusedSimpArgs false
theorem bitS'_zero {z : Nat} (h : z < 2 ^ 32) (e : bitS' z = 0) : z = 0 := by
  unfold bitS' at e
  split at e
  · have : z / 2 = 3988292384 := by
      have h1 : z / 2 ^^^ 3988292384 ^^^ 3988292384 = 3988292384 := by rw [e, Nat.zero_xor]
      rwa [Nat.xor_assoc, Nat.xor_self, Nat.xor_zero] at h1
    omega
  · omega
theorem bitN'_zero {z : Nat} (h : z < 2 ^ 32) : ∀ n, bitN' n z = 0 → z = 0
  | 0, e => e
  | n + 1, e => bitN'_zero h n (bitS'_zero (bitN'_lt h n) e)
theorem xor_eq_zero {a b : Nat} (h : a ^^^ b = 0) : a = b := by
  have : a ^^^ b ^^^ b = b := by rw [h, Nat.zero_xor]
  rwa [Nat.xor_assoc, Nat.xor_self, Nat.xor_zero] at this
theorem bitN'_inj {x y : Nat} (hx : x < 2 ^ 32) (hy : y < 2 ^ 32) {n : Nat} (e : bitN' n x = bitN' n y) : x = y := by
  apply xor_eq_zero
  apply bitN'_zero (Nat.xor_lt_two_pow hx hy) n
  rw [bitN'_xor, e, Nat.xor_self]
def UB (u k : Nat) : Nat := u / 256 ^ (7 - k) % 256
def wN (u : Nat) : Nat → Nat → Nat
  | 0, c => c
  | k + 1, c => byteS' (wN u k c) (UB u k)
theorem UB_lt (u k : Nat) : UB u k < 256 := Nat.mod_lt _ (by decide)
theorem wN_lt (u : Nat) {c : Nat} (h : c < 2 ^ 32) : ∀ k, wN u k c < 2 ^ 32
  | 0 => h
  | k + 1 => byteS'_lt (wN_lt u h k) (by have := UB_lt u k; omega)
theorem UB_xor (u d k : Nat) : UB (u ^^^ d) k = UB u k ^^^ UB d k := by
  unfold UB
  have e : (256 : Nat) ^ (7 - k) = 2 ^ (8 * (7 - k)) := by rw [Nat.pow_mul]
  rw [e, ← Nat.shiftRight_eq_div_pow, ← Nat.shiftRight_eq_div_pow, ← Nat.shiftRight_eq_div_pow, Nat.shiftRight_xor_distrib, show (256 : Nat) = 2 ^ 8 from rfl, Nat.xor_mod_two_pow]
theorem byteS'_xor (c x b e : Nat) : byteS' (c ^^^ x) (b ^^^ e) = byteS' c b ^^^ byteS' x e := by
  unfold byteS'
  rw [← bitN'_xor]
  congr 1
  rw [Nat.xor_assoc, Nat.xor_assoc]; congr 1
  rw [← Nat.xor_assoc, Nat.xor_comm x b, Nat.xor_assoc]
theorem wN_xor (u d c x : Nat) : ∀ k, wN (u ^^^ d) k (c ^^^ x) = wN u k c ^^^ wN d k x
  | 0 => rfl
  | k + 1 => by rw [wN, wN, wN, wN_xor u d c x k, UB_xor, byteS'_xor]
theorem byteS'_nz {x b : Nat} (hx : x < 2 ^ 32) (hb : b < 256) (h : byteS' x b = 0) : x = b := by
  unfold byteS' at h
  exact xor_eq_zero (bitN'_zero (Nat.xor_lt_two_pow hx (by omega)) 8 h)
theorem UB_zero (k : Nat) : UB 0 k = 0 := by unfold UB; rw [Nat.zero_div]
theorem wN_zero_nz {x : Nat} (hx : x < 2 ^ 32) : ∀ k, wN 0 k x = 0 → x = 0
  | 0, h => h
  | k + 1, h => by
    rw [wN, UB_zero] at h
    exact wN_zero_nz hx k (byteS'_nz (wN_lt 0 hx k) (by decide) h)
/-- four bytes, from none -/
theorem four_nz {e0 e1 e2 e3 : Nat} (h0 : e0 < 256) (h1 : e1 < 256) (h2 : e2 < 256) (h3 : e3 < 256) (h : byteS' (byteS' (byteS' (byteS' 0 e0) e1) e2) e3 = 0) : e0 = 0 ∧ e1 = 0 ∧ e2 = 0 ∧ e3 = 0 := by
  have l0 : byteS' 0 e0 < 2 ^ 32 := byteS'_lt (by decide) (by omega)
  have l1 : byteS' (byteS' 0 e0) e1 < 2 ^ 32 := byteS'_lt l0 (by omega)
  have l2 : byteS' (byteS' (byteS' 0 e0) e1) e2 < 2 ^ 32 := byteS'_lt l1 (by omega)
  have pull : ∀ X e A, X < 2 ^ 32 → e < 256 → A < 2 ^ 24 → byteS' X e = A → X = (A * 256) ^^^ e := by
    intro X e A hX he hA h
    unfold byteS' at h
    have h' : bitN' 8 (X ^^^ e) = bitN' 8 (A * 2 ^ 8) := by rw [h, bitN'_shift]
    have := bitN'_inj (Nat.xor_lt_two_pow hX (by omega)) (by omega) h'
    have h2 : X ^^^ e ^^^ e = A * 256 ^^^ e := by rw [this]
    rwa [Nat.xor_assoc, Nat.xor_self, Nat.xor_zero] at h2
  have sum : ∀ A e, e < 256 → (A * 256) ^^^ e = A * 256 + e := by
    intro A e he
    have hz := or_add (i := 8) (a := A) (b := e) (by omega)
    rw [Nat.mul_comm] at hz
    have hz : A * 256 ||| e = A * 256 + e := hz
    rw [← hz]
    apply Nat.eq_of_testBit_eq
    intro i
    rw [Nat.testBit_xor, Nat.testBit_or]
    by_cases hi : i < 8
    · have : (A * 256).testBit i = false := by
        rw [show (256 : Nat) = 2 ^ 8 from rfl, Nat.testBit_mul_two_pow]; simp; omega
      rw [this]; simp
    · have : e.testBit i = false := Nat.testBit_lt_two_pow (Nat.lt_of_lt_of_le (show e < 2 ^ 8 by omega) (Nat.pow_le_pow_right (by decide) (by omega)))
      rw [this]; simp
  have a3 := byteS'_nz l2 h3 h
  have a2 := pull _ _ _ l1 h2 (by omega) a3
  rw [sum _ _ h2] at a2
  have a1 := pull _ _ _ l0 h1 (by omega) a2
  rw [sum _ _ h1] at a1
  by_cases hbig : (e3 * 256 + e2) * 256 + e1 < 2 ^ 24
  · have a0 := pull _ _ _ (by decide) h0 hbig a1
    rw [sum _ _ h0] at a0
    omega
  · omega
theorem UB_low {d : Nat} (h : d < 2 ^ 32) {k : Nat} (hk : k < 4) : UB d k = 0 := by
  unfold UB
  have : (2 : Nat) ^ 32 ≤ 256 ^ (7 - k) := by rw [show (256 : Nat) ^ (7 - k) = 2 ^ (8 * (7 - k)) from by rw [Nat.pow_mul]]; exact Nat.pow_le_pow_right (by decide) (by omega)
  rw [Nat.div_eq_of_lt (by omega)]
theorem low_nz {d : Nat} (h : d < 2 ^ 32) (hd : d ≠ 0) : wN d 8 0 ≠ 0 := by
  intro e
  have hz : byteS' 0 0 = 0 := by decide
  have w4 : wN d 4 0 = 0 := by
    show byteS' (byteS' (byteS' (byteS' 0 (UB d 0)) (UB d 1)) (UB d 2)) (UB d 3) = 0
    rw [UB_low h (by decide), UB_low h (by decide), UB_low h (by decide), UB_low h (by decide), hz, hz, hz, hz]
  have e : byteS' (byteS' (byteS' (byteS' (wN d 4 0) (UB d 4)) (UB d 5)) (UB d 6)) (UB d 7) = 0 := e
  rw [w4] at e
  have := four_nz (UB_lt d 4) (UB_lt d 5) (UB_lt d 6) (UB_lt d 7) e
  unfold UB at this
  simp only [Nat.reduceSub, Nat.reducePow, Nat.div_one] at this
  omega
theorem high_nz {d : Nat} (h : d < 2 ^ 32) (hd : d ≠ 0) : wN (d * 2 ^ 32) 8 0 ≠ 0 := by
  intro e
  have e : byteS' (byteS' (byteS' (byteS' (wN (d * 2 ^ 32) 4 0) (UB (d * 2 ^ 32) 4)) (UB (d * 2 ^ 32) 5)) (UB (d * 2 ^ 32) 6)) (UB (d * 2 ^ 32) 7) = 0 := e
  have u4 : UB (d * 2 ^ 32) 4 = 0 := by unfold UB; simp only [Nat.reduceSub, Nat.reducePow]; omega
  have u5 : UB (d * 2 ^ 32) 5 = 0 := by unfold UB; simp only [Nat.reduceSub, Nat.reducePow]; omega
  have u6 : UB (d * 2 ^ 32) 6 = 0 := by unfold UB; simp only [Nat.reduceSub, Nat.reducePow]; omega
  have u7 : UB (d * 2 ^ 32) 7 = 0 := by unfold UB; simp only [Nat.reduceSub, Nat.reducePow]; omega
  have l := wN_lt (d * 2 ^ 32) (c := 0) (by decide) 4
  rw [u4, u5, u6, u7] at e
  have s1 := byteS'_nz (byteS'_lt (byteS'_lt (byteS'_lt l (by decide)) (by decide)) (by decide)) (by decide) e
  have s2 := byteS'_nz (byteS'_lt (byteS'_lt l (by decide)) (by decide)) (by decide) s1
  have s3 := byteS'_nz (byteS'_lt l (by decide)) (by decide) s2
  have s4 := byteS'_nz l (by decide) s3
  have s4 : byteS' (byteS' (byteS' (byteS' 0 (UB (d * 2 ^ 32) 0)) (UB (d * 2 ^ 32) 1)) (UB (d * 2 ^ 32) 2)) (UB (d * 2 ^ 32) 3) = 0 := s4
  have := four_nz (UB_lt _ 0) (UB_lt _ 1) (UB_lt _ 2) (UB_lt _ 3) s4
  unfold UB at this
  simp only [Nat.reduceSub, Nat.reducePow] at this
  omega
/-! ### The check of words of which one is changed -/
def U64 (a : Int) : Nat := (IntKind.u64.wrap a).toNat
theorem u64_mod (a : Int) : IntKind.u64.wrap a = a % 18446744073709551616 := by simp [IntKind.wrap, IntKind.bits, IntKind.signed]
theorem U64_bv (a : Int) : (BitVec.ofInt 64 a).toNat = U64 a := by
  unfold U64; rw [u64_mod, BitVec.toNat_ofInt]; rfl
theorem U64_i64 {n : Nat} (h : n < 18446744073709551616) : U64 (IntKind.i64.wrap (n : Int)) = n := by
  unfold U64; rw [u64_mod, IntKind.wrap_i64]; omega
theorem U64_xor (a b : Int) : U64 (xorI .i64 a b) = U64 a ^^^ U64 b := by
  have e : xorI .i64 a b = IntKind.i64.wrap ((U64 a ^^^ U64 b : Nat) : Int) := by
    show IntKind.i64.wrap ((BitVec.ofInt 64 a ^^^ BitVec.ofInt 64 b).toNat : Int) = _
    rw [BitVec.toNat_xor, U64_bv, U64_bv]
  rw [e]
  apply U64_i64
  have h1 : U64 a < 2 ^ 64 := by unfold U64; rw [u64_mod]; omega
  have h2 : U64 b < 2 ^ 64 := by unfold U64; rw [u64_mod]; omega
  exact Nat.xor_lt_two_pow h1 h2
theorem byteAt_nat (w : Int) {k : Nat} (hk : k < 8) : byteAt w k = (UB (U64 w) k : Nat) := by
  unfold byteAt UB U64
  have h0 : 0 ≤ IntKind.u64.wrap w := by rw [u64_mod]; omega
  obtain ⟨n, hn⟩ := Int.eq_ofNat_of_zero_le h0
  rw [hn, Int.toNat_natCast]
  have e1 : (Int.toNat (56 - 8 * (k : Int))) = 8 * (7 - k) := by omega
  have e2 : (2 : Int) ^ (8 * (7 - k)) = ((256 ^ (7 - k) : Nat) : Int) := by rw [Int.pow_mul]; norm_cast
  rw [e1, Nat.min_eq_left (by omega), e2, Int.fdiv_eq_ediv_of_nonneg _ (Int.natCast_nonneg _), ← Int.natCast_ediv]
  simp [IntKind.wrap, IntKind.bits, IntKind.signed]
theorem wordN_nat (w : Int) {c : Nat} (h : c < 2 ^ 32) : ∀ k, k ≤ 8 → wordN tabL w k c = (wN (U64 w) k c : Nat)
  | 0, _ => rfl
  | k + 1, hk => by
    rw [wordN, wN, wordN_nat w h k (by omega), byteAt_nat w (by omega), with_nat (wN_lt _ h k) (UB_lt _ _)]
def fN (l : List Int) (c : Nat) : Nat := l.foldl (fun c w => wN (U64 w) 8 c) c
theorem fN_lt : ∀ (l : List Int) {c : Nat}, c < 2 ^ 32 → fN l c < 2 ^ 32
  | [], c, h => h
  | w :: l, c, h => fN_lt l (c := wN (U64 w) 8 c) (wN_lt _ h 8)
theorem fold_nat : ∀ (l : List Int) {c : Nat}, c < 2 ^ 32 → l.foldl (wordS tabL) (c : Int) = (fN l c : Nat)
  | [], c, h => rfl
  | w :: l, c, h => by
    rw [List.foldl_cons]
    have : wordS tabL (c : Int) w = (wN (U64 w) 8 c : Nat) := wordN_nat w h 8 (Nat.le_refl _)
    rw [this, fold_nat l (wN_lt _ h 8)]; rfl
theorem wN_inj {u c c' : Nat} (h : c < 2 ^ 32) (h' : c' < 2 ^ 32) (hne : c ≠ c') : wN u 8 c ≠ wN u 8 c' := by
  intro e
  have := wN_xor u 0 c (c ^^^ c') 8
  rw [Nat.xor_zero, ← Nat.xor_assoc, Nat.xor_self, Nat.zero_xor] at this
  rw [this] at e
  have hz : wN 0 8 (c ^^^ c') = 0 := by
    have h2 : wN u 8 c ^^^ wN u 8 c = wN u 8 c ^^^ (wN u 8 c ^^^ wN 0 8 (c ^^^ c')) := by rw [← e]
    rw [Nat.xor_self, ← Nat.xor_assoc, Nat.xor_self, Nat.zero_xor] at h2
    exact h2.symm
  exact hne (xor_eq_zero (wN_zero_nz (Nat.xor_lt_two_pow h h') 8 hz))
theorem fN_inj : ∀ (l : List Int) {c c' : Nat}, c < 2 ^ 32 → c' < 2 ^ 32 → c ≠ c' → fN l c ≠ fN l c'
  | [], c, c', h, h', hne => hne
  | w :: l, c, c', h, h', hne => fN_inj l (wN_lt _ h 8) (wN_lt _ h' 8) (wN_inj h h' hne)
theorem fN_cons (w : Int) (l : List Int) (c : Nat) : fN (w :: l) c = fN l (wN (U64 w) 8 c) := by
  unfold fN; rw [List.foldl_cons]
theorem fN_set (l : List Int) : ∀ (j c : Nat), c < 2 ^ 32 → j < l.length → ∀ (w' : Int) (d : Nat), U64 w' = U64 (l.getD j 0) ^^^ d → wN d 8 0 ≠ 0 → fN (l.set j w') c ≠ fN l c := by
  induction l with
  | nil => intro j c h hj; exact absurd hj (Nat.not_lt_zero j)
  | cons w l ih =>
    intro j c h hj w' d hd hn
    cases j with
    | zero =>
      rw [List.set_cons_zero, fN_cons, fN_cons]
      refine fN_inj l (wN_lt _ h 8) (wN_lt _ h 8) ?_
      rw [List.getD_cons_zero] at hd
      have := wN_xor (U64 w) d c 0 8
      rw [Nat.xor_zero] at this
      rw [hd, this]
      intro e
      apply hn
      have h2 : wN (U64 w) 8 c ^^^ (wN (U64 w) 8 c ^^^ wN d 8 0) = wN (U64 w) 8 c ^^^ wN (U64 w) 8 c := by rw [e]
      rwa [← Nat.xor_assoc, Nat.xor_self, Nat.zero_xor] at h2
    | succ j =>
      rw [List.set_cons_succ, fN_cons, fN_cons]
      rw [List.getD_cons_succ] at hd
      exact ih j _ (wN_lt _ h 8) (by simpa using hj) w' d hd hn
theorem sumOf_nat (l : List Int) : sumOf l = 4294967295 - (fN l 4294967295 : Nat) := by
  have hl := fN_lt l (c := 4294967295) (by decide)
  unfold sumOf sumC
  rw [show (4294967295 : Int) = ((4294967295 : Nat) : Int) from rfl, fold_nat l (by decide), notI32 (by omega) (by omega), wrap32 (by omega) (by omega), w64 (by omega) (by omega)]
  rfl
theorem sumOf_set (l : List Int) {j : Nat} (hj : j < l.length) {w' : Int} {d : Nat} (hd : U64 w' = U64 (l.getD j 0) ^^^ d) (hn : wN d 8 0 ≠ 0) : sumOf (l.set j w') ≠ sumOf l := by
  rw [sumOf_nat, sumOf_nat]
  have h1 := fN_set l j 4294967295 (by decide) hj w' d hd hn
  have h2 := fN_lt l (c := 4294967295) (by decide)
  have h3 := fN_lt (l.set j w') (c := 4294967295) (by decide)
  omega
/-- a record's words, of which one half of one is changed, are none's -/
theorem form_changed {x y : Rc} (hx : x.ok) (hy : y.ok) {j : Nat} (hj : j < 16) {w' : Int} {d : Nat} (hd : U64 w' = U64 ((formR x).getD j 0) ^^^ d) (hn : wN d 8 0 ≠ 0) (hne : w' ≠ (formR x).getD j 0) : formR y ≠ (formR x).set j w' := by
  intro e
  have hxl := form_len hx
  have hg : ∀ i, (formR y).getD i 0 = if j = i then w' else (formR x).getD i 0 := fun i => by
    rw [e, getD_set]
    by_cases h : j = i
    · rw [if_pos ⟨h, by omega⟩, if_pos h]
    · rw [if_neg (fun h' => h h'.1), if_neg h]
  have hc : ∀ z : Rc, (formR z).getD 2 0 = sumOf ((formR z).getD 0 0 :: (formR z).getD 1 0 :: (formR z).drop 3) := fun z => rfl
  have cx := hc x
  have cy := hc y
  have hl3 : ((formR x).drop 3).length = 13 := by simp; omega
  rcases j with _|_|_|j
  · have h2 := hg 2
    rw [if_neg (by decide)] at h2
    have e3 : (formR y).drop 3 = (formR x).drop 3 := by rw [e]; rfl
    have e0 : (formR y).getD 0 0 = w' := by rw [hg, if_pos rfl]
    have e1 : (formR y).getD 1 0 = (formR x).getD 1 0 := by rw [hg, if_neg (by decide)]
    rw [h2, cx, e0, e1, e3] at cy
    exact sumOf_set ((formR x).getD 0 0 :: (formR x).getD 1 0 :: (formR x).drop 3) (j := 0) (by simp) hd hn cy.symm
  · have h2 := hg 2
    rw [if_neg (by decide)] at h2
    have e3 : (formR y).drop 3 = (formR x).drop 3 := by rw [e]; rfl
    have e0 : (formR y).getD 0 0 = (formR x).getD 0 0 := by rw [hg, if_neg (by decide)]
    have e1 : (formR y).getD 1 0 = w' := by rw [hg, if_pos rfl]
    rw [h2, cx, e0, e1, e3] at cy
    exact sumOf_set ((formR x).getD 0 0 :: (formR x).getD 1 0 :: (formR x).drop 3) (j := 1) (by simp) hd hn cy.symm
  · have h2 := hg 2
    rw [if_pos rfl] at h2
    have e3 : (formR y).drop 3 = (formR x).drop 3 := by rw [e]; rfl
    have e0 : (formR y).getD 0 0 = (formR x).getD 0 0 := by rw [hg, if_neg (by decide)]
    have e1 : (formR y).getD 1 0 = (formR x).getD 1 0 := by rw [hg, if_neg (by decide)]
    rw [h2, e0, e1, e3, ← cx] at cy
    exact hne cy
  · have h2 := hg 2
    rw [if_neg (by omega)] at h2
    have e3 : (formR y).drop 3 = ((formR x).drop 3).set j w' := by
      rw [e]
      refine ext_d 0 (by simp) fun i hi => ?_
      rw [getD_drop, getD_set, getD_set, getD_drop]
      by_cases h : j = i
      · subst h
        rw [if_pos ⟨by omega, by omega⟩, if_pos ⟨rfl, by omega⟩]
      · rw [if_neg (by omega), if_neg (fun h' => h h'.1)]
    have e0 : (formR y).getD 0 0 = (formR x).getD 0 0 := by rw [hg, if_neg (by omega)]
    have e1 : (formR y).getD 1 0 = (formR x).getD 1 0 := by rw [hg, if_neg (by omega)]
    rw [h2, cx, e0, e1, e3] at cy
    have hidx : ((formR x).getD 0 0 :: (formR x).getD 1 0 :: (formR x).drop 3).getD (j + 2) 0 = (formR x).getD (j + 1 + 1 + 1) 0 := by
      rw [List.getD_cons_succ, List.getD_cons_succ, getD_drop]; congr 1; omega
    have hd' : U64 w' = U64 (((formR x).getD 0 0 :: (formR x).getD 1 0 :: (formR x).drop 3).getD (j + 2) 0) ^^^ d := by
      rw [hidx]; exact hd
    exact sumOf_set ((formR x).getD 0 0 :: (formR x).getD 1 0 :: (formR x).drop 3) (j := j + 2) (by simp; omega) hd' hn cy.symm
end Lam
namespace Lam
open Go Go.Proofs
set_option linter.unusedVariables false
set_option linter.unnecessarySimpa false
set_option linter.unusedSimpArgs false
theorem wf_u32' {n : Int} (h : (Lit.int .u32 n).wf = true) : 0 ≤ n ∧ n < 4294967296 := by
  simp [Lit.wf, IntKind.min, IntKind.max, IntKind.signed, IntKind.bits] at h; omega
theorem block_set (words : List Int) (b j : Nat) (hj : j < 16) (v : Int) : blockAt (words.set (16 * b + j) v) b = (blockAt words b).set j v := by
  refine ext_d 0 (by unfold blockAt; simp) fun i hi => ?_
  have hi : i < 16 ∧ 16 * b + i < words.length := by unfold blockAt at hi; simp at hi; omega
  have hbl : i < (blockAt words b).length := by unfold blockAt; simp; omega
  rw [getD_set]
  unfold blockAt at *
  rw [getD_take, if_pos hi.1, getD_drop, getD_set]
  by_cases e : j = i
  · subst e; rw [if_pos ⟨rfl, hi.2⟩, if_pos ⟨rfl, hbl⟩]
  · rw [if_neg (by omega), if_neg (fun h => e h.1), getD_take, if_pos hi.1, getD_drop]
theorem check_lookO {w : List Int} (h : checkI w = 0) : ∃ l, lookO (readB w) w = some l := by
  unfold checkI at h
  cases hl : lookO (readB w) w with
  | none => rw [hl] at h; cases h
  | some l => exact ⟨l, rfl⟩
theorem readB_block {w w' : List Int} (hl : w'.length = w.length) (h : blockAt w' 0 = blockAt w 0) : readB w' = readB w := by
  have hg : ∀ (v : List Int) k, k < 16 → v.getD k 0 = (blockAt v 0).getD k 0 := fun v k hk => by
    unfold blockAt; rw [getD_take, if_pos hk, getD_drop]; simp
  have hd : ∀ v : List Int, (v.drop 4).take 12 = (blockAt v 0).drop 4 := fun v => by
    unfold blockAt; rw [List.drop_take]; simp
  unfold readB headB
  rw [hl, hd w', hd w, h, hg w' 0 (by decide), hg w' 1 (by decide), hg w' 2 (by decide), hg w' 3 (by decide), hg w 0 (by decide), hg w 1 (by decide), hg w 2 (by decide), hg w 3 (by decide), h]
/-- the parts of a sound arena are reached -/
theorem parts_marked {w l : List Int} {m : Int → Bool} (h : lookO (readB w) w = some l) {b : Int} (hb : b ∈ l) : ∃ n, nodeO w b = some n ∧ marksL w m l b = true ∧ (n.low ≠ 0 → ∃ x, recO w n.low = some x ∧ marksL w m l n.low = true) ∧ ∀ s ∈ n.slots, ∃ x, recO w s = some x ∧ x.kind = 1 ∧ marksL w m l s = true := by
  obtain ⟨h1, h2, _⟩ := look_parts h
  obtain ⟨j, la, low, hlf⟩ := leavesB_each h2 b hb
  obtain ⟨n, hn, hlo, hsl⟩ := leaf_reach hlf
  refine ⟨n, hn, marksL_node hb (by unfold markN; simp), fun hz => ?_, fun s hs => ?_⟩
  · obtain ⟨x, hx⟩ := hlo hz
    exact ⟨x, hx, marksL_node hb (by unfold markN; rw [hn]; simp [hz])⟩
  · obtain ⟨x, hx, hk⟩ := hsl s hs
    exact ⟨x, hx, hk, marksL_node hb (by unfold markN; rw [hn]; simp [hs])⟩
/-- blocks alike but the first one: the same leaves -/
theorem same_arena {w w' l : List Int} (hlen : w'.length = w.length) (h : lookO (readB w) w = some l) (hr : readB w' = readB w) (hd : ∀ b : Int, b ≠ 0 → 0 ≤ b → b < ((w.length / 16 : Nat) : Int) → marksL w mark0 l b = true → blockAt w' b.toNat = blockAt w b.toNat) : lookO (readB w') w' = some l ∧ chainO (readB w') w' = some l := by
  obtain ⟨h1, h2, h3⟩ := look_parts h
  have hnz := chainO_nz h1
  have hz : ∀ b ∈ l, ∀ n, nodeO w b = some n → ∀ s ∈ n.slots, s ≠ 0 := fun b _ n hn s hs => by
    have := (nodeO_some hn).1.2.2.2.2.2.2.2 s hs
    omega
  have hN : ∀ b ∈ l, nodeO w' b = nodeO w b := fun b hb => by
    obtain ⟨n, hn, hm, _, _⟩ := parts_marked (m := mark0) h hb
    exact nodeO_congr hlen fun h0 => hd b (hnz b hb) h0 (nodeO_some hn).2.2.1 hm
  have hc : chainO (readB w') w' = some l := chainO_congr hlen hr h1 fun x hx _ => hN x hx
  have hL : leavesB w' l 0 [] = true := by
    refine leavesB_congr h2 fun b hb => ⟨hN b hb, fun n hn => ?_⟩
    obtain ⟨n', hn', _, q1, q2⟩ := parts_marked (m := mark0) h hb
    rw [hn] at hn'
    cases hn'
    refine ⟨fun hl => ?_, fun s hs => ?_⟩
    · obtain ⟨x, hx, hm⟩ := q1 hl
      exact recO_congr hlen fun h0 => hd _ hl h0 (recO_some hx).2.2.1 hm
    · obtain ⟨x, hx, _, hm⟩ := q2 s hs
      exact recO_congr hlen fun h0 => hd _ (hz b hb n hn s hs) h0 (recO_some hx).2.2.1 hm
  refine ⟨?_, hc⟩
  unfold lookO
  rw [hc]
  simp only [hL, if_true]
theorem recO_none {w : List Int} {b : Int} (h : recO w b = none) (h0 : 0 ≤ b) (h1 : b < ((w.length / 16 : Nat) : Int)) : recOf (blockAt w b.toNat) = none := by
  unfold recO at h
  rw [if_neg (by simp only [Bool.or_eq_true, decide_eq_true_eq, not_or]; omega)] at h
  exact h
/-- a record's block is no node's -/
theorem rec_noNode {w : List Int} {b : Int} {x : Rc} (h : recO w b = some x) : nodeO w b = none := by
  obtain ⟨hok, _, _, hr⟩ := recO_some h
  cases hn : nodeO w b with
  | none => rfl
  | some n =>
    obtain ⟨nok, _, _, hr2⟩ := nodeO_some hn
    have e1 := (recOf_some hr).2
    have e2 := (readN_some hr2).2
    have : (formR x).getD 0 0 = (wordsNd n).getD 0 0 := by rw [e1, e2]
    have e : x.kind = 1152921504606846976 + 16 * n.turn + n.level := this
    have h1 := nok.1
    have h2 := nok.2.2.1
    rcases hok with hk | hk
    · have := hk.1; omega
    · have := hk.1; omega
/-- a record half of a word of which was changed is none -/
theorem rec_damaged {w : List Int} {S : Nat} {x : Rc} (h : recO w (S : Int) = some x) {j : Nat} (hj : j < 16) {w' : Int} {d : Nat} (hd : U64 w' = U64 (w.getD (16 * S + j) 0) ^^^ d) (hn : wN d 8 0 ≠ 0) : recO (w.set (16 * S + j) w') (S : Int) = none := by
  obtain ⟨hok, _, hS, hr⟩ := recO_some h
  have e1 := (recOf_some hr).2
  rw [Int.toNat_natCast] at e1
  cases hx : recO (w.set (16 * S + j) w') (S : Int) with
  | none => rfl
  | some y =>
    exfalso
    obtain ⟨yok, _, _, hr2⟩ := recO_some hx
    have e2 := (recOf_some hr2).2
    rw [Int.toNat_natCast, block_set w S j hj, ← e1] at e2
    have hwj : (formR x).getD j 0 = w.getD (16 * S + j) 0 := by
      rw [e1]; unfold blockAt; rw [getD_take, if_pos hj, getD_drop]
    rw [← hwj] at hd
    refine form_changed hok yok hj hd hn ?_ e2
    intro e
    rw [e] at hd
    have : d = 0 := by
      have h2 : U64 ((formR x).getD j 0) ^^^ U64 ((formR x).getD j 0) = U64 ((formR x).getD j 0) ^^^ (U64 ((formR x).getD j 0) ^^^ d) := by rw [← hd]
      rw [Nat.xor_self, ← Nat.xor_assoc, Nat.xor_self, Nat.zero_xor] at h2
      exact h2.symm
    subst this
    exact hn (by decide +kernel)
theorem block_other (w : List Int) (k : Nat) (v : Int) {b : Nat} (h : k / 16 ≠ b) : blockAt (w.set k v) b = blockAt w b := by
  refine blockAt_ext (by simp) fun i hi => ?_
  rw [getD_set, if_neg (by omega)]
theorem look_det {w l l' : List Int} (h : lookO (readB w) w = some l') (hc : chainO (readB w) w = some l) : leavesB w l 0 [] = true := by
  obtain ⟨h1, h2, _⟩ := look_parts h
  rw [hc] at h1
  cases h1
  exact h2
/-- an arena a slot's record of which was changed so is not sound -/
theorem arena_damaged {w l : List Int} (h : lookO (readB w) w = some l) {b : Int} (hb : b ∈ l) {n : Nd} (hn : nodeO w b = some n) {S : Nat} (hs : (S : Int) ∈ n.slots) {j : Nat} (hj : j < 16) {w' : Int} {d : Nat} (hd : U64 w' = U64 (w.getD (16 * S + j) 0) ^^^ d) (hnz : wN d 8 0 ≠ 0) : checkI (w.set (16 * S + j) w') = 110 := by
  obtain ⟨h1, h2, h3⟩ := look_parts h
  obtain ⟨n', hn', _, _, q⟩ := parts_marked (m := mark0) h hb
  rw [hn] at hn'; cases hn'
  obtain ⟨x, hx, hk, _⟩ := q _ hs
  have hS1 : (S : Int) ≠ 0 := by
    have := (nodeO_some hn).1.2.2.2.2.2.2.2 _ hs
    omega
  have hN : ∀ c, c ≠ (S : Int) → nodeO (w.set (16 * S + j) w') c = nodeO w c := fun c hc =>
    nodeO_congr (by simp) fun h0 => block_other w _ _ (by omega)
  have hleaf : ∀ c ∈ l, c ≠ (S : Int) := by
    rintro c hc rfl
    obtain ⟨m, hm, _⟩ := parts_marked (m := mark0) h hc
    rw [rec_noNode hx] at hm; cases hm
  have hr : readB (w.set (16 * S + j) w') = readB w := readB_block (by simp) (block_other w _ _ (by omega))
  have hc : chainO (readB (w.set (16 * S + j) w')) (w.set (16 * S + j) w') = some l := chainO_congr (by simp) hr h1 fun c hc _ => hN c (hleaf c hc)
  unfold checkI
  cases hl : lookO (readB (w.set (16 * S + j) w')) (w.set (16 * S + j) w') with
  | none => rfl
  | some l' =>
    exfalso
    have h4 := look_det hl hc
    obtain ⟨i, la, low, hlf⟩ := leavesB_each h4 b hb
    obtain ⟨m, hm, _, hsl⟩ := leaf_reach hlf
    rw [hN b (hleaf b hb), hn] at hm
    cases hm
    obtain ⟨y, hy, _⟩ := hsl _ hs
    rw [rec_damaged hx hj hd hnz] at hy
    cases hy
end Lam
namespace Lam
open Go Go.Proofs
set_option linter.unusedVariables false
def lamplighterlaw11_ArenaRoots.loops : Nat → LInfo
  | 2 => ⟨[], [], [], [(4, none), (3, some [21, 24]), (2, none), (3, some [26, 29]), (2, none), (6, some [31, 37])], [], []⟩
  | 15 => ⟨[16], [false], [5, 6, 7, 8, 9, 10, 12, 13, 14, 15], [], [], []⟩
  | 19 => ⟨[], [], [], [(2, none), (2, some [90, 92]), (2, none), (2, some [94, 96]), (2, none), (2, some [98, 100]), (2, none), (2, some [102, 104]), (2, none), (3, some [106, 109]), (2, none), (3, some [111, 114])], [], []⟩
  | _ => ⟨[], [], [], [], [], []⟩
def lamplighterlaw11_ArenaRoots.L1 (c : Ctx) (J4 : AV → AV → AV → AV → AV → AV → AV → AV → List AObj → Prop) (K : AOut → List AObj → Prop) (lv : List AV) (h0 : List AObj) (n0 : Nat) (c5 : AV) (c6 : AV) (c7 : AV) (c8 : AV) (c9 : AV) (c10 : AV) (c12 : AV) (c13 : AV) (c14 : AV) (c15 : AV) : Prop :=
  ∃ I : Nat → List AV → List AObj → Prop, (∃ n, I n lv h0) ∧ ∀ n h, ∀ t16, I n [t16] h →
    runD (lenD T_sl_int h c14) h fun t78 h =>
    runD (binD T_int .lss t16 t78) h fun t79 h =>
    condW t79
    (runD (indexAddrD T_sl_int h c14 t16) h fun t85 h =>
    runD (fitD T_int (loadD h t85)) h fun t86 h =>
    callW false c (.fn (.func 21) [] []) [c12, t86] h (fun t87 h =>
    runD (unD .not t87) h fun t88 h =>
    condW t88
    (K (.ret (.bool false)) h)
    (runD (binD T_int .add t16 (.int .i64 1)) h fun t81 h =>
    (∃ m, m < n ∧ I m (AV.norms n0 h [t81]) (normH n0 h)) ∧ AV.norms n0 h [c5, c6, c7, c8, c9, c10, c12, c13, c14, c15] = [c5, c6, c7, c8, c9, c10, c12, c13, c14, c15]))
    (fun v h => K (.pan v) h))
    (J4 c5 c6 c7 c8 c9 c10 c13 c15 h)
def lamplighterlaw11_ArenaRoots.H (c : Ctx) (t0 : AV) (t1 : AV) (h : List AObj) (K : AOut → List AObj → Prop) : Prop :=
  callW false c (.fn (.func 15) [] []) [] h (fun t17 h =>
  runD (lenD T_sl_int h t0) h fun t19 h =>
  runD (binD T_int .gtr t19 (.int .i64 1000)) h fun t20 h =>
  joinW (fun (J1 : AV → AV → List AObj → Prop) =>
  guardW t20 false
  (runD (lenD T_sl_int h t0) h fun t23 h =>
    runD (binD T_int .lss t23 (.int .i64 32)) h fun t24 h =>
    J1 (.bool false) t24 h)
  (J1 (.bool true) .und h))
  (fun t21 t24 h => runD (pickD t21 (.bool true) t24) h fun t25 h =>
  joinW (fun (J2 : AV → AV → List AObj → Prop) =>
  guardW t25 false
  (runD (convD h T_uint8 T_int t1) h fun t28 h =>
    runD (binD T_int .lss t28 (.int .i64 1)) h fun t29 h =>
    J2 (.bool false) t29 h)
  (J2 (.bool true) .und h))
  (fun t26 t29 h => runD (pickD t26 (.bool true) t29) h fun t30 h =>
  joinW (fun (J3 : AV → AV → List AObj → Prop) =>
  guardW t30 false
  (runD (convD h T_uint8 T_int t1) h fun t33 h =>
    runD (lenD T_sl_int h t0) h fun t35 h =>
    runD (binD T_int .quo t35 (.int .i64 16)) h fun t36 h =>
    runD (binD T_int .geq t33 t36) h fun t37 h =>
    J3 (.bool false) t37 h)
  (J3 (.bool true) .und h))
  (fun t31 t37 h => runD (pickD t31 (.bool true) t37) h fun t38 h =>
  condW t38
  (K (.ret t17) h)
  (runD (buildSliceD T_sl_int 0 [] h.length) h fun t40 h =>
  runDM (appendD T_sl_int h t40 t0 h.length) (appendH T_sl_int h t40 t0) h fun t42 h =>
  runD (convD h T_uint8 T_int t1) h fun t45 h =>
  runD (indexAddrD T_sl_int h t42 (.int .i64 3)) h fun t46 h =>
  runH (storeH T_int h t46 t45) h fun _ h =>
  callW false c (.fn (.func 17) [] []) [t0] h (fun t49 h =>
  runD (extractD t49 0) h fun t50 h =>
  runD (extractD t49 1) h fun t51 h =>
  callW false c (.fn (.func 17) [] []) [t42] h (fun t54 h =>
  runD (extractD t54 0) h fun t55 h =>
  runD (extractD t54 1) h fun t56 h =>
  callW false c (.fn (.func 19) [] []) [t0] h (fun t58 h =>
  runD (binD T_api_Errno .neq t58 (.int .i64 0)) h fun t59 h =>
  condW t59
  (K (.ret t17) h)
  (runD (buildSliceD T_sl_int 0 [] h.length) h fun t61 h =>
  runDM (appendD T_sl_int h t61 t0 h.length) (appendH T_sl_int h t61 t0) h fun t63 h =>
  runD (indexAddrD T_sl_int h t63 (.int .i64 3)) h fun t65 h =>
  runH (storeH T_int h t65 (.int .i64 1)) h fun _ h =>
  callW false c (.fn (.func 18) [] []) [t42] h (fun t68 h =>
  runD (extractD t68 0) h fun t69 h =>
  runD (extractD t68 1) h fun t70 h =>
  callW false c (.fn (.func 18) [] []) [t63] h (fun t73 h =>
  runD (extractD t73 0) h fun t74 h =>
  runD (extractD t73 1) h fun t75 h =>
  joinW (fun (J4 : AV → AV → AV → AV → AV → AV → AV → AV → List AObj → Prop) =>
  promV [false] [(.int .i64 0)] h fun lv h => lamplighterlaw11_ArenaRoots.L1 c J4 K (AV.norms h.length h lv) (normH h.length h) h.length (AV.norm h.length h t17) (AV.norm h.length h t42) (AV.norm h.length h t50) (AV.norm h.length h t51) (AV.norm h.length h t55) (AV.norm h.length h t56) (AV.norm h.length h t69) (AV.norm h.length h t70) (AV.norm h.length h t74) (AV.norm h.length h t75))
  (fun t5 t6 t7 t8 t9 t10 t13 t15 h => joinW (fun (J5 : AV → AV → List AObj → Prop) =>
  guardW t5 true
  (runD (binD T_api_Errno .eql t8 (.int .i64 0)) h fun t92 h =>
    J5 (.bool true) t92 h)
  (J5 (.bool false) .und h))
  (fun t90 t92 h => runD (pickD t90 t92 (.bool false)) h fun t93 h =>
  joinW (fun (J6 : AV → AV → List AObj → Prop) =>
  guardW t93 true
  (runD (binD T_api_Errno .eql t10 (.int .i64 0)) h fun t96 h =>
    J6 (.bool true) t96 h)
  (J6 (.bool false) .und h))
  (fun t94 t96 h => runD (pickD t94 t96 (.bool false)) h fun t97 h =>
  joinW (fun (J7 : AV → AV → List AObj → Prop) =>
  guardW t97 true
  (runD (binD T_api_Errno .eql t13 (.int .i64 0)) h fun t100 h =>
    J7 (.bool true) t100 h)
  (J7 (.bool false) .und h))
  (fun t98 t100 h => runD (pickD t98 t100 (.bool false)) h fun t101 h =>
  joinW (fun (J8 : AV → AV → List AObj → Prop) =>
  guardW t101 true
  (runD (binD T_api_Errno .eql t15 (.int .i64 0)) h fun t104 h =>
    J8 (.bool true) t104 h)
  (J8 (.bool false) .und h))
  (fun t102 t104 h => runD (pickD t102 t104 (.bool false)) h fun t105 h =>
  joinW (fun (J9 : AV → AV → List AObj → Prop) =>
  guardW t105 true
  (callW false c (.fn (.func 19) [] []) [t6] h (fun t108 h =>
    runD (binD T_api_Errno .eql t108 (.int .i64 0)) h fun t109 h =>
    J9 (.bool true) t109 h)
    (fun v h => K (.pan v) h))
  (J9 (.bool false) .und h))
  (fun t106 t109 h => runD (pickD t106 t109 (.bool false)) h fun t110 h =>
  joinW (fun (J10 : AV → AV → List AObj → Prop) =>
  guardW t110 true
  (callW false c (.fn (.func 20) [] []) [t7, t9] h (fun t114 h =>
    J10 (.bool true) t114 h)
    (fun v h => K (.pan v) h))
  (J10 (.bool false) .und h))
  (fun t111 t114 h => runD (pickD t111 t114 (.bool false)) h fun t115 h =>
  K (.ret t115) h))))))))
  (fun v h => K (.pan v) h))
  (fun v h => K (.pan v) h)))
  (fun v h => K (.pan v) h))
  (fun v h => K (.pan v) h))
  (fun v h => K (.pan v) h))))))
  (fun v h => K (.pan v) h)
theorem lamplighterlaw11_ArenaRoots.eq (F : List (FuncId × Contract)) (S : List (FuncId × Con)) (t0 t1 : AV) (h : List AObj) (K : AOut → List AObj → Prop) : funW (ctx F S lamplighterlaw11_ArenaRoots.loops) Try.f8 [t0, t1] h K = lamplighterlaw11_ArenaRoots.H (ctx F S lamplighterlaw11_ArenaRoots.loops) t0 t1 h K := by kernel_rfl
theorem lamplighterlaw11_ArenaRoots.at : Try.prog.funcs[8]? = some Try.f8 := by kernel_rfl
theorem lamplighterlaw11_ArenaRoots.nm : (Try.f8.name == "runtime.NumGoroutine") = false := by kernel_rfl
theorem lamplighterlaw11_ArenaRoots.bd : Try.f8.body.isNone = false := by kernel_rfl
end Lam
namespace Lam
open Go Go.Proofs
set_option linter.unusedVariables false
set_option linter.unnecessarySimpa false
set_option linter.unusedSimpArgs false
theorem marksL_congr {w w' : List Int} : ∀ {l : List Int} {m : Int → Bool}, (∀ b ∈ l, nodeO w' b = nodeO w b) → marksL w' m l = marksL w m l
  | [], _, _ => rfl
  | a :: r, m, h => by
    simp only [marksL]
    rw [h a (by simp)]
    exact marksL_congr fun b hb => h b (by simp [hb])
theorem readB_root {w : List Int} (h : readB w = true) {r : Int} (h1 : 1 ≤ r) (h2 : r < ((w.length / 16 : Nat) : Int)) : readB (w.set 3 r) = true := by
  have hb := read_blocks h
  have h32 := read_small h
  unfold readB headB mayB at h ⊢
  simp only [Bool.and_eq_true, decide_eq_true_eq] at h ⊢
  have g : ∀ k, k ≠ 3 → (w.set 3 r).getD k 0 = w.getD k 0 := fun k hk => by rw [getD_set, if_neg (by omega)]
  have g3 : (w.set 3 r).getD 3 0 = r := by rw [getD_set, if_pos ⟨rfl, by omega⟩]
  have gd : (w.set 3 r).drop 4 = w.drop 4 := by rw [List.drop_set_of_lt (by omega)]
  rw [g 0 (by decide), g 1 (by decide), g 2 (by decide), g3, gd, List.length_set]
  obtain ⟨⟨q1, ⟨⟨q2, q3⟩, ⟨⟨q4, q5⟩, q6⟩, q7⟩, q8⟩, q9⟩ := h
  exact ⟨⟨q1, ⟨⟨q2, q3⟩, ⟨⟨q4, q5⟩, h1⟩, by omega⟩, q8⟩, q9⟩
theorem root_arena {w l : List Int} (h : lookO (readB w) w = some l) {r : Int} (h1 : 1 ≤ r) (h2 : r < ((w.length / 16 : Nat) : Int)) : lookO (readB (w.set 3 r)) (w.set 3 r) = some l ∧ chainO (readB (w.set 3 r)) (w.set 3 r) = some l ∧ marksL (w.set 3 r) mark0 l = marksL w mark0 l := by
  obtain ⟨c1, c2, c3⟩ := look_parts h
  have hb : ∀ b : Int, b ≠ 0 → 0 ≤ b → blockAt (w.set 3 r) b.toNat = blockAt w b.toNat := fun b hb h0 => block_other w 3 r (by omega)
  obtain ⟨q1, q2⟩ := same_arena (w' := w.set 3 r) (by simp) h (by rw [readB_root c3 h1 h2, c3]) fun b hb0 h0 _ _ => hb b hb0 h0
  exact ⟨q1, q2, marksL_congr fun b hbl => nodeO_congr (by simp) fun h0 => hb b (chainO_nz c1 b hbl) h0⟩
theorem reach_some {w l : List Int} {v : AV} (h : lookO (readB w) w = some l) (hv : reachQ w v) : ∃ a : Int → Bool, (∀ k, marksL w mark0 l k = true → a k = true) ∧ ((∀ nd, nodeO w (w.getD 3 0) = some nd → nd.level = 0) → a = marksL w mark0 l) ∧ v = .tup [.sl false (.ints .i64 (reached a (w.length / 16))), .int .i64 0] := by
  unfold reachQ at hv
  rw [h] at hv
  obtain ⟨a, h1, h2, h3⟩ := hv
  rw [read_blocks (look_parts h).2.2, Int.toNat_natCast] at h3
  exact ⟨a, h1, h2, h3⟩
abbrev ArenaRoots_ctx : Ctx := ctx [(15, lamplighterlaw11_awake.C), (17, arena_Leaves.C), (19, arena_Check.C), (21, lamplighterref10_In.C), (20, lamplighterref02_Numbers.C)] [(18, arena_Reach.K)] lamplighterlaw11_ArenaRoots.loops
set_option maxRecDepth 20000 in
set_option maxHeartbeats 1000000 in
theorem ArenaRoots_vc (words : List Int) (root : Int) (w_words : wfL (.ints .i64 words)) (n_words : words.length ≤ maxLen) (w_root : (Lit.int .u8 root).wf = true) : lamplighterlaw11_ArenaRoots.H ArenaRoots_ctx (.sl false (.ints .i64 words)) (.int .u8 root) [] Told := by
  unfold lamplighterlaw11_ArenaRoots.H
  simp (maxSteps := 4000000) only [go_sem, Nat.reduceEqDiff, Nat.reduceLT, Nat.reduceAdd, Nat.reduceSub, Nat.reduceLeDiff, List.reduceReplicate, Int.reduceToNat, lamplighterlaw11_awake.C, arena_Leaves.C, arena_Check.C, lamplighterref10_In.C, lamplighterref02_Numbers.C, arena_Reach.K, arena_Reach.Q]
  have hr8 := wf_u8 w_root
  obtain ⟨ro, rfl⟩ := Int.eq_ofNat_of_zero_le hr8.1
  have er : IntKind.i64.wrap (ro : Int) = (ro : Int) := w64 (by omega) (by omega)
  have e0 : words.length ≤ 1000 → IntKind.i64.wrap ((words.length : Int).tdiv 16) = ((words.length / 16 : Nat) : Int) := fun h => by
    rw [Int.tdiv_eq_ediv_of_nonneg (by omega)]; exact w64 (by omega) (by omega)
  rw [er]
  refine ⟨fun _ => by decide, fun _ => rfl, fun hg => ?_⟩
  simp only [Bool.or_eq_false_iff, decide_eq_false_iff_not] at hg
  obtain ⟨⟨⟨g1, g2⟩, g3⟩, g4⟩ := hg
  have hS : smallW words := ⟨by omega, wf_i64s w_words⟩
  have hw := hS.1
  rw [e0 (by omega)] at g4
  have hSr : ∀ r : Int, r < 256 → smallW (words.set 3 r) := fun r hr => ⟨by simp; omega, fun x hx => by
    rcases List.mem_or_eq_of_mem_set hx with hx | rfl
    · exact hS.2 x hx
    · omega⟩
  have hrr : roomy words.length := hS.roomy
  have tk : ∀ v, (words.set 3 v).take words.length = words.set 3 v := fun v => take_len _ (by simp)
  have hS1 := hSr ro (by omega)
  have hS2 := hSr 1 (by omega)
  refine ⟨hrr, ⟨by omega, by omega⟩, by omega, hS, ?_⟩
  obtain ⟨L2, f2, hL2⟩ : ∃ (L : List Int) (e : Int), leavesV (words.set 3 ro) = .tup [.sl false (.ints .i64 L), .int .i64 e] := by
    unfold leavesV; split
    · exact ⟨_, _, rfl⟩
    · exact ⟨_, _, rfl⟩
  by_cases hc : checkI words = 0
  rotate_left
  · obtain ⟨L, f, hL⟩ : ∃ (L : List Int) (e : Int), leavesV words = .tup [.sl false (.ints .i64 L), .int .i64 e] := by
      unfold leavesV; split
      · exact ⟨_, _, rfl⟩
      · exact ⟨_, _, rfl⟩
    simp only [hL, hL2, tk, hc, arena_Leaves.C, arena_Check.C, joinW_eq, guard_tt, guard_tf, guard_ft, guard_ff, Int.reduceEq, Int.reduceLT, Int.reduceLE, decide_false, decide_true, Bool.not_false, Bool.not_true, Bool.not_not, not_true_eq_false, not_false_eq_true, true_implies, false_implies, implies_true, and_true, true_and, reduceCtorEq, Bool.and_self, Bool.or_self, Bool.and_true, Bool.true_and, Bool.false_eq_true, if_true, if_false, go_sem, Nat.reduceEqDiff, Nat.reduceLT, Nat.reduceAdd, Nat.reduceSub, Nat.reduceLeDiff, List.reduceReplicate, Int.reduceToNat]
    exact ⟨hS1, hS, rfl⟩
  · obtain ⟨l, hl⟩ := check_lookO hc
    obtain ⟨h1, h2, h3⟩ := look_parts hl
    obtain ⟨hb, hnd, hrg, hlen, ⟨l', hl1⟩, hnod⟩ := chainO_some h1
    obtain ⟨p1, p2, p3⟩ := root_arena hl (r := ro) (by omega) (by omega)
    obtain ⟨b1, b2, b3⟩ := root_arena hl (r := 1) (by omega) (by omega)
    have hL : leavesV words = .tup [.sl false (.ints .i64 l), .int .i64 0] := by unfold leavesV; rw [h1]
    have hL3 : leavesV (words.set 3 ro) = .tup [.sl false (.ints .i64 l), .int .i64 0] := by unfold leavesV; rw [p2]
    have hc3 : checkI (words.set 3 ro) = 0 := by unfold checkI; rw [p1]; rfl
    have hlr : roomy l.length := by unfold roomy; omega
    simp only [hL, hL3, tk, hc, arena_Leaves.C, arena_Check.C, arena_Reach.Q, joinW_eq, joinW_eq, guard_tt, guard_tf, guard_ft, guard_ff, Int.reduceEq, Int.reduceLT, Int.reduceLE, decide_false, decide_true, Bool.not_false, Bool.not_true, Bool.not_not, not_true_eq_false, not_false_eq_true, true_implies, false_implies, implies_true, and_true, true_and, reduceCtorEq, Bool.and_self, Bool.or_self, Bool.and_true, Bool.true_and, Bool.false_eq_true, if_true, if_false, go_sem, Nat.reduceEqDiff, Nat.reduceLT, Nat.reduceAdd, Nat.reduceSub, Nat.reduceLeDiff, List.reduceReplicate, Int.reduceToNat]
    refine ⟨hS1, hS, hrr, by omega, by omega, hS1, fun v hv => ?_⟩
    obtain ⟨a, ha, _, rfl⟩ := reach_some p1 hv
    have ral := reached_len a ((words.set 3 (ro : Int)).length / 16)
    simp only [arena_Reach.Q, tk, joinW_eq, guard_tt, guard_tf, guard_ft, guard_ff, Int.reduceEq, Int.reduceLT, Int.reduceLE, decide_false, decide_true, Bool.not_false, Bool.not_true, Bool.not_not, not_true_eq_false, not_false_eq_true, true_implies, false_implies, implies_true, and_true, true_and, reduceCtorEq, Bool.and_self, Bool.or_self, Bool.and_true, Bool.true_and, Bool.false_eq_true, if_true, if_false, go_sem, Nat.reduceEqDiff, Nat.reduceLT, Nat.reduceAdd, Nat.reduceSub, Nat.reduceLeDiff, List.reduceReplicate, Int.reduceToNat]
    refine ⟨hS2, fun v2 hv2 => ?_⟩
    obtain ⟨c, hcm, hceq, rfl⟩ := reach_some b1 hv2
    have g3 : (words.set 3 (1 : Int)).getD 3 0 = 1 := by rw [getD_set, if_pos ⟨rfl, by omega⟩]
    have hcc : c = marksL words mark0 l := by
      rw [← b3]
      refine hceq fun nd hnd => ?_
      rw [g3] at hnd
      obtain ⟨n, hn, hlv⟩ := hnod 1 (by rw [hl1]; simp)
      have := (root_arena hl (r := 1) (by omega) (by omega)).2.1
      obtain ⟨n', hn', hlv'⟩ := (chainO_some this).2.2.2.2.2 1 (by rw [hl1]; simp)
      rw [hn'] at hnd
      cases hnd
      exact hlv'
    subst hcc
    rw [p3] at ha
    have rcl := reached_len (marksL words mark0 l) ((words.set 3 (1 : Int)).length / 16)
    simp only [List.length_set] at ral rcl
    have hin : ∀ x ∈ reached (marksL words mark0 l) (words.length / 16), x ∈ reached a (words.length / 16) := fun x hx => by
      rw [reached_mem] at hx ⊢
      exact ⟨hx.1, hx.2.1, ha x hx.2.2⟩
    simp only [List.length_set, joinW_eq, guard_tt, guard_tf, guard_ft, guard_ff, Int.reduceEq, Int.reduceLT, Int.reduceLE, decide_false, decide_true, Bool.not_false, Bool.not_true, Bool.not_not, not_true_eq_false, not_false_eq_true, true_implies, false_implies, implies_true, and_true, true_and, reduceCtorEq, Bool.and_self, Bool.or_self, Bool.and_true, Bool.true_and, Bool.false_eq_true, if_true, if_false, go_sem, Nat.reduceEqDiff, Nat.reduceLT, Nat.reduceAdd, Nat.reduceSub, Nat.reduceLeDiff, List.reduceReplicate, Int.reduceToNat]
    generalize reached (marksL words mark0 l) (words.length / 16) = s at *
    generalize reached a (words.length / 16) = r at *
    have hrrr : roomy r.length := by unfold roomy; omega
    unfold lamplighterlaw11_ArenaRoots.L1
    refine loop1 (σ := Nat) (fun k => .int .i64 k) (fun k => [.row .own 0 (.ints .i64 []), .row .fro 0 (.ints .i64 (words.set 3 (ro : Int))), .row .own 0 (.ints .i64 []), .row .fro 0 (.ints .i64 (words.set 3 1))]) (fun k => s.length - k) (fun k => k ≤ s.length) 0 rfl rfl (Nat.zero_le _) ?_
    intro I back k hk
    by_cases hlt : k < s.length
    · have d1 : decide (s.getD k 0 ∈ r) = true := decide_eq_true (hin _ (getD_mem s k 0 hlt))
      simp only [lamplighterref10_In.C, d1, joinW_eq, guard_tt, guard_tf, guard_ft, guard_ff, Int.reduceEq, Int.reduceLT, Int.reduceLE, decide_false, decide_true, Bool.not_false, Bool.not_true, Bool.not_not, not_true_eq_false, not_false_eq_true, true_implies, false_implies, implies_true, and_true, true_and, reduceCtorEq, Bool.and_self, Bool.or_self, Bool.and_true, Bool.true_and, Bool.false_eq_true, if_true, if_false, go_sem, Nat.reduceEqDiff, Nat.reduceLT, Nat.reduceAdd, Nat.reduceSub, Nat.reduceLeDiff, List.reduceReplicate, Int.reduceToNat]
      exact ⟨fun _ => ⟨⟨by omega, by omega⟩, hrrr, back (k + 1) (by omega) (by rw [wnext (by omega)]) rfl (by omega)⟩, fun h => absurd h (by omega)⟩
    · simp only [tk, hc3, arena_Check.C, lamplighterref02_Numbers.C, decide_true, joinW_eq, guard_tt, guard_tf, guard_ft, guard_ff, Int.reduceEq, Int.reduceLT, Int.reduceLE, decide_false, decide_true, Bool.not_false, Bool.not_true, Bool.not_not, not_true_eq_false, not_false_eq_true, true_implies, false_implies, implies_true, and_true, true_and, reduceCtorEq, Bool.and_self, Bool.or_self, Bool.and_true, Bool.true_and, Bool.false_eq_true, if_true, if_false, go_sem, Nat.reduceEqDiff, Nat.reduceLT, Nat.reduceAdd, Nat.reduceSub, Nat.reduceLeDiff, List.reduceReplicate, Int.reduceToNat]
      exact ⟨fun h => absurd h (by omega), fun _ => ⟨hS1, hlr, rfl⟩⟩
theorem ArenaRoots_ok : Ok Try.prog ArenaRoots_ctx := ctx_ok (by simpa using ⟨lamplighterlaw11_awake.spec, arena_Leaves.spec, arena_Check.spec, lamplighterref10_In.spec, lamplighterref02_Numbers.spec⟩) (by simpa using arena_Reach.qspec.con) _
theorem ArenaRoots_law (words : Lst) (root : Int) (k_words : words.kind = (.int .i64)) (w_words : wfL words) (n_words : words.len ≤ maxLen) (w_root : (Lit.int .u8 root).wf = true) : funW ArenaRoots_ctx Try.f8 [(.sl false words), (.int .u8 root)] [] Told := by
  obtain ⟨words, rfl⟩ := gkind_ints k_words
  rw [ArenaRoots_ctx, lamplighterlaw11_ArenaRoots.eq]
  exact ArenaRoots_vc words root w_words n_words w_root
end Lam
