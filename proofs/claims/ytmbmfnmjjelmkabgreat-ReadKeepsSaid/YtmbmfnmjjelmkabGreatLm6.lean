/- What functions of the program come to, each proved from its code. -/
import Derived.Test.YtmbmfnmjjelmkabGreatLm5
namespace Lam
open Go
set_option linter.unusedVariables false
set_option linter.unusedSimpArgs false
/-- from lo on none stands behind one that is below it -/
def HeapS (a lo hi : Nat) (l : List RecT) : Prop := ∀ i c, lo ≤ i → (c = 2 * i + 1 ∨ c = 2 * i + 2) → c < hi → leB (kyL l (a + c)) (kyL l (a + i))
/-- the same, but for one that goes down -/
def SiftS (a lo r hi : Nat) (l : List RecT) : Prop :=
  (∀ i c, lo ≤ i → i ≠ r → (c = 2 * i + 1 ∨ c = 2 * i + 2) → c < hi → leB (kyL l (a + c)) (kyL l (a + i))) ∧
  ∀ i c, lo ≤ i → (r = 2 * i + 1 ∨ r = 2 * i + 2) → (c = 2 * r + 1 ∨ c = 2 * r + 2) → c < hi → leB (kyL l (a + c)) (kyL l (a + i))
theorem SiftS.begin {a lo hi : Nat} {l : List RecT} (h : HeapS a (lo + 1) hi l) : SiftS a lo lo hi l :=
  ⟨fun i c h1 h2 h3 h4 => h i c (by omega) h3 h4, fun i c h1 h2 h3 h4 => by omega⟩
theorem SiftS.done {a lo r hi : Nat} {l : List RecT} (h : SiftS a lo r hi l) (hc : ∀ c, (c = 2 * r + 1 ∨ c = 2 * r + 2) → c < hi → leB (kyL l (a + c)) (kyL l (a + r))) : HeapS a lo hi l := fun i c h1 h2 h3 => by
  by_cases e : i = r
  · subst e; exact hc c h2 h3
  · exact h.1 i c h1 e h2 h3
theorem SiftS.step {a lo r hi c : Nat} {l : List RecT} (h : SiftS a lo r hi l) (hr : lo ≤ r) (hc : c = 2 * r + 1 ∨ c = 2 * r + 2) (hch : c < hi) (hl : a + hi ≤ l.length) (hlt : leB (kyL l (a + r)) (kyL l (a + c))) (ho : ∀ d, (d = 2 * r + 1 ∨ d = 2 * r + 2) → d < hi → leB (kyL l (a + d)) (kyL l (a + c))) : SiftS a lo c hi (swapL l (a + r) (a + c)) := by
  obtain ⟨h1, h2⟩ := h
  have hrl : a + r < l.length := by omega
  have hcl : a + c < l.length := by omega
  have e : ∀ k, kyL (swapL l (a + r) (a + c)) (a + k) = if k = c then kyL l (a + r) else if k = r then kyL l (a + c) else kyL l (a + k) := fun k => by
    rw [fW hrl hcl]
    by_cases e1 : k = c
    · rw [if_pos (by omega), if_pos e1]
    · rw [if_neg (by omega), if_neg e1]
      by_cases e2 : k = r
      · rw [if_pos (by omega), if_pos e2]
      · rw [if_neg (by omega), if_neg e2]
  refine ⟨fun i d q1 q2 q3 q4 => ?_, fun i d q1 q2 q3 q4 => ?_⟩
  · rw [e, e, if_neg q2]
    by_cases hir : i = r
    · subst hir
      rw [if_pos rfl]
      by_cases hd : d = c
      · rw [if_pos hd]; exact hlt
      · rw [if_neg hd, if_neg (by omega)]; exact ho d q3 q4
    · rw [if_neg hir]
      by_cases hd : d = r
      · subst hd
        rw [if_neg (by omega), if_pos rfl]; exact h2 i c q1 q3 hc hch
      · rw [if_neg (show ¬ d = c by omega), if_neg hd]; exact h1 i d q1 hir q3 q4
  · obtain rfl : i = r := by omega
    rw [e, e, if_neg (show ¬ d = c by omega), if_neg (show ¬ d = i by omega), if_neg (show ¬ i = c by omega), if_pos rfl]
    exact h1 c d (by omega) (by omega) q3 q4
theorem HeapS.top {a hi : Nat} {l : List RecT} (h : HeapS a 0 hi l) (k : Nat) : k < hi → leB (kyL l (a + k)) (kyL l a) := by
  induction k using Nat.strongRecOn with
  | _ k ih =>
    intro hk
    cases k with
    | zero => exact nR _
    | succ k => exact kV (h (k / 2) (k + 1) (Nat.zero_le _) (by omega) hk) (ih (k / 2) (by omega) (by omega))
/-- how far a heap is taken down -/
def DownS (a n b : Nat) (l : List RecT) : Prop := HeapS a 0 n l ∧ SegS (a + n) b l ∧ ∀ p q, p < n → a + n ≤ q → q < b → leB (kyL l (a + p)) (kyL l q)
theorem DownS.begin {a b : Nat} {l : List RecT} (hab : a ≤ b) (h : HeapS a 0 (b - a) l) : DownS a (b - a) b l :=
  ⟨h, SegS.one (by omega), fun p q h1 h2 h3 => by omega⟩
theorem DownS.heap {a n b : Nat} {l : List RecT} (h : DownS a (n + 1) b l) (hb : a + n < b) (hl : b ≤ l.length) : HeapS a 1 n (swapL l a (a + n)) := fun i c h1 h2 h3 => by
  rw [fW (by omega) (by omega), fW (by omega) (by omega), if_neg (by omega), if_neg (by omega), if_neg (by omega), if_neg (by omega)]
  exact h.1 i c (Nat.zero_le _) h2 (by omega)
theorem DownS.next {a n b : Nat} {l l2 : List RecT} (h : DownS a (n + 1) b l) (hb : a + n < b) (hl : b ≤ l.length) (hs : SegP a (a + n) (swapL l a (a + n)) l2) (hh : HeapS a 0 n l2) : DownS a n b l2 := by
  obtain ⟨h1, h2, h3⟩ := h
  have hal : a < l.length := by omega
  have hnl : a + n < l.length := by omega
  have e1 : kyL l2 (a + n) = kyL l a := by rw [hs.same (by omega), fW hal hnl, if_pos rfl]
  have e2 : ∀ q, a + n < q → kyL l2 q = kyL l q := fun q hq => by rw [hs.same (by omega), fW hal hnl, if_neg (by omega), if_neg (by omega)]
  have e3 : ∀ p, p < n → ∃ p', p' < n + 1 ∧ kyL l2 (a + p) = kyL l (a + p') := fun p hp => by
    obtain ⟨k', q1, q2, e⟩ := hs.from (k := a + p) (by omega) (by omega)
    rw [e, fW hal hnl, if_neg (by omega)]
    by_cases hk : k' = a
    · rw [if_pos hk]; exact ⟨n, by omega, rfl⟩
    · rw [if_neg hk]; exact ⟨k' - a, by omega, by rw [show a + (k' - a) = k' by omega]⟩
  have htop : ∀ p', p' < n + 1 → leB (kyL l (a + p')) (kyL l a) := fun p' hp => h1.top p' hp
  refine ⟨hh, fun p q p1 p2 p3 => ?_, fun p q p1 p2 p3 => ?_⟩
  · rw [e2 q (by omega)]
    by_cases hp : p = a + n
    · subst hp; rw [e1]; exact h3 0 q (by omega) (by omega) p3
    · rw [e2 p (by omega)]; exact h2 p q (by omega) p2 p3
  · obtain ⟨p', g1, g2⟩ := e3 p p1
    rw [g2]
    by_cases hq : q = a + n
    · subst hq; rw [e1]; exact htop p' g1
    · rw [e2 q (by omega)]; exact h3 p' q g1 (by omega) p3
theorem DownS.fin {a b : Nat} {l : List RecT} (h : DownS a 0 b l) : SegS a b l := h.2.1
theorem SegP.le {a b : Nat} {l l' : List RecT} (h : SegP a b l l') {x : Bytes} (hx : ∀ k, a ≤ k → k < b → leB x (kyL l k)) : ∀ k, a ≤ k → k < b → leB x (kyL l' k) := fun k h1 h2 => by
  obtain ⟨k', q1, q2, e⟩ := h.from h1 h2
  rw [e]; exact hx k' q1 q2
end Lam
namespace Lam
open Go Go.Proofs
set_option linter.unusedVariables false
def aS.loops : Nat → LInfo
  | _ => ⟨[], [], [], [], [], []⟩
def aS.H (c : Ctx) (t0 : AV) (t1 : AV) (h : List AObj) (K : AOut → List AObj → Prop) : Prop :=
  runD (lenD aM h t0) h fun t6 h =>
  runD (convD h T_int T_uint t6) h fun t10 h =>
  callW false c (.fn (.func 120) [] []) [t10] h (fun t11 h =>
  callW false c (.fn (.func 119) [] []) [t0, (.int .i64 0), t6, t11, t1] h (fun t13 h =>
  K (.ret (.tup [])) h)
  (fun v h => K (.pan v) h))
  (fun v h => K (.pan v) h)
def bF.loops : Nat → LInfo
  | 2 => ⟨[1, 2, 3, 10, 11], [false, false, false, false, false], [0, 4], [], [], []⟩
  | 15 => ⟨[], [], [], [(2, none), (1, some [69, 70]), (2, none), (2, some [72, 74])], [], []⟩
  | _ => ⟨[], [], [], [], [], []⟩
def bF.L1 (c : Ctx) (K : AOut → List AObj → Prop) (lv : List AV) (h0 : List AObj) (n0 : Nat) (c0 : AV) (c4 : AV) : Prop :=
  ∃ I : Nat → List AV → List AObj → Prop, (∃ n, I n lv h0) ∧ ∀ n h, ∀ t1, ∀ t2, ∀ t3, ∀ t10, ∀ t11, I n [t1, t2, t3, t10, t11] h →
    joinW (fun (J2 : AV → AV → AV → AV → AV → List AObj → Prop) =>
    runD (binD T_int .sub t2 t1) h fun t23 h =>
    runD (binD T_int .leq t23 (.int .i64 12)) h fun t25 h =>
    condW t25
    (callW false c (.fn (.func 126) [] []) [c0, t1, t2, c4] h (fun t30 h =>
      K (.ret (.tup [])) h)
      (fun v h => K (.pan v) h))
    (runD (binD T_int .eql t3 (.int .i64 0)) h fun t32 h =>
    condW t32
    (callW false c (.fn (.func 127) [] []) [c0, t1, t2, c4] h (fun t37 h =>
      K (.ret (.tup [])) h)
      (fun v h => K (.pan v) h))
    (runD (unD .not t10) h fun t39 h =>
    joinW (fun (J3 : AV → List AObj → Prop) =>
    condW t39
    (callW false c (.fn (.func 128) [] []) [c0, t1, t2, c4] h (fun t44 h =>
      runD (binD T_int .sub t3 (.int .i64 1)) h fun t46 h =>
      J3 t46 h)
      (fun v h => K (.pan v) h))
    (J3 t3 h))
    (fun t3 h => callW false c (.fn (.func 129) [] []) [c0, t1, t2, c4] h (fun t52 h =>
    runD (bH t52 0) h fun t53 h =>
    runD (bH t52 1) h fun t54 h =>
    runD (binD gV .eql t54 (.int .i64 2)) h fun t56 h =>
    joinW (fun (J4 : AV → AV → List AObj → Prop) =>
    condW t56
    (callW false c (.fn (.func 130) [] []) [c0, t1, t2, c4] h (fun t61 h =>
      runD (binD T_int .sub t2 (.int .i64 1)) h fun t63 h =>
      runD (binD T_int .sub t53 t1) h fun t66 h =>
      runD (binD T_int .sub t63 t66) h fun t67 h =>
      J4 t67 (.int .i64 1) h)
      (fun v h => K (.pan v) h))
    (J4 t53 t54 h))
    (fun t13 t14 h => joinW (fun (J5 : AV → AV → List AObj → Prop) =>
    guardW t10 true
    (J5 (.bool true) t11 h)
    (J5 (.bool false) .und h))
    (fun t69 t70 h => runD (pickD t69 t70 (.bool false)) h fun t71 h =>
    joinW (fun (J6 : AV → AV → List AObj → Prop) =>
    guardW t71 true
    (runD (binD gV .eql t14 (.int .i64 1)) h fun t74 h =>
      J6 (.bool true) t74 h)
    (J6 (.bool false) .und h))
    (fun t72 t74 h => runD (pickD t72 t74 (.bool false)) h fun t75 h =>
    joinW (fun (J7 : List AObj → Prop) =>
    condW t75
    (callW false c (.fn (.func 131) [] []) [c0, t1, t2, c4] h (fun t80 h =>
      condW t80
      (K (.ret (.tup [])) h)
      (J7 h))
      (fun v h => K (.pan v) h))
    (J7 h))
    (fun h => runD (binD T_int .gtr t1 (.int .i64 0)) h fun t82 h =>
    joinW (fun (J8 : AV → AV → List AObj → Prop) =>
    guardW t82 true
    (runD (binD T_int .sub t1 (.int .i64 1)) h fun t87 h =>
      runD (aF aM h c0 t87) h fun t88 h =>
      runD (fitD aG (loadD h t88)) h fun t89 h =>
      runD (aF aM h c0 t13) h fun t92 h =>
      runD (fitD aG (loadD h t92)) h fun t93 h =>
      callW false c.noS c4 [t89, t93] h (fun t94 h =>
      runD (binD T_int .lss t94 (.int .i64 0)) h fun t95 h =>
      runD (unD .not t95) h fun t96 h =>
      J8 (.bool true) t96 h)
      (fun _ _ => False))
    (J8 (.bool false) .und h))
    (fun t83 t96 h => runD (pickD t83 t96 (.bool false)) h fun t97 h =>
    condW t97
    (callW false c (.fn (.func 132) [] []) [c0, t1, t2, t13, c4] h (fun t103 h =>
      J2 t103 t2 t3 t10 t11 h)
      (fun v h => K (.pan v) h))
    (callW false c (.fn (.func 133) [] []) [c0, t1, t2, t13, c4] h (fun t111 h =>
    runD (bH t111 0) h fun t112 h =>
    runD (bH t111 1) h fun t113 h =>
    runD (binD T_int .sub t112 t1) h fun t117 h =>
    runD (binD T_int .sub t2 t112) h fun t120 h =>
    runD (binD T_int .quo t23 (.int .i64 8)) h fun t122 h =>
    runD (binD T_int .lss t117 t120) h fun t125 h =>
    joinW (fun (J9 : AV → AV → AV → List AObj → Prop) =>
    condW t125
    (runD (binD T_int .geq t117 t122) h fun t128 h =>
      callW false c (.fn (.func 119) [] []) [c0, t1, t112, t3, c4] h (fun t134 h =>
      runD (binD T_int .add t112 (.int .i64 1)) h fun t136 h =>
      J9 t136 t2 t128 h)
      (fun v h => K (.pan v) h))
    (runD (binD T_int .geq t120 t122) h fun t139 h =>
      runD (binD T_int .add t112 (.int .i64 1)) h fun t142 h =>
      callW false c (.fn (.func 119) [] []) [c0, t142, t2, t3, c4] h (fun t146 h =>
      J9 t1 t112 t139 h)
      (fun v h => K (.pan v) h)))
    (fun t1 t2 t10 h => J2 t1 t2 t3 t10 t113 h))
    (fun v h => K (.pan v) h))))))))
    (fun v h => K (.pan v) h)))))
    (fun t1 t2 t3 t10 t11 h => (∃ m, m < n ∧ I m (AV.norms n0 h [t1, t2, t3, t10, t11]) (normH n0 h)) ∧ AV.norms n0 h [c0, c4] = [c0, c4])
def bF.H (c : Ctx) (t0 : AV) (t1 : AV) (t2 : AV) (t3 : AV) (t4 : AV) (h : List AObj) (K : AOut → List AObj → Prop) : Prop :=
  joinW (fun (J1 : List AObj → Prop) =>
  promV [false, false, false, false, false] [t1, t2, t3, (.bool true), (.bool true)] h fun lv h => bF.L1 c K (AV.norms h.length h lv) (normH h.length h) h.length (AV.norm h.length h t0) (AV.norm h.length h t4))
  (fun h => K (.ret (.tup [])) h)
def aX.loops : Nat → LInfo
  | _ => ⟨[], [], [], [], [], []⟩
def aX.H (c : Ctx) (t0 : AV) (t1 : AV) (t2 : AV) (t3 : AV) (h : List AObj) (K : AOut → List AObj → Prop) : Prop :=
  runD (binD T_int .sub t2 t1) h fun t17 h =>
  allocW T_int h fun t11 h =>
  runD (binD T_int .quo t17 (.int .i64 4)) h fun t20 h =>
  runD (binD T_int .mul t20 (.int .i64 1)) h fun t21 h =>
  runD (binD T_int .add t1 t21) h fun t22 h =>
  runD (binD T_int .quo t17 (.int .i64 4)) h fun t25 h =>
  runD (binD T_int .mul t25 (.int .i64 2)) h fun t26 h =>
  runD (binD T_int .add t1 t26) h fun t27 h =>
  runD (binD T_int .quo t17 (.int .i64 4)) h fun t30 h =>
  runD (binD T_int .mul t30 (.int .i64 3)) h fun t31 h =>
  runD (binD T_int .add t1 t31) h fun t32 h =>
  runD (binD T_int .geq t17 (.int .i64 8)) h fun t34 h =>
  joinW (fun (J1 : AV → List AObj → Prop) =>
  condW t34
  (runD (binD T_int .geq t17 (.int .i64 50)) h fun t36 h =>
    joinW (fun (J2 : AV → AV → AV → List AObj → Prop) =>
    condW t36
    (callW false c (.fn (.func 145) [] []) [t0, t22, t11, t3] h (fun t40 h =>
      callW false c (.fn (.func 145) [] []) [t0, t27, t11, t3] h (fun t44 h =>
      callW false c (.fn (.func 145) [] []) [t0, t32, t11, t3] h (fun t48 h =>
      J2 t40 t44 t48 h)
      (fun v h => K (.pan v) h))
      (fun v h => K (.pan v) h))
      (fun v h => K (.pan v) h))
    (J2 t22 t27 t32 h))
    (fun t12 t13 t14 h => callW false c (.fn (.func 146) [] []) [t0, t12, t13, t14, t11, t3] h (fun t54 h =>
    J1 t54 h)
    (fun v h => K (.pan v) h)))
  (J1 t27 h))
  (fun t13 h => runD (fitD T_int (loadD h t11)) h fun t55 h =>
  runD (binD T_int .eql t55 (.int .i64 0)) h fun t58 h =>
  condW t58
  (K (.ret (.tup [t13, (.int .i64 1)])) h)
  (runD (binD T_int .eql t55 (.int .i64 12)) h fun t61 h =>
    condW t61
    (K (.ret (.tup [t13, (.int .i64 2)])) h)
    (K (.ret (.tup [t13, (.int .i64 0)])) h)))
def aC.loops : Nat → LInfo
  | 3 => ⟨[9, 10], [false, false], [0, 1, 2, 3], [], [], []⟩
  | 5 => ⟨[9], [false], [0, 1, 2, 3, 10], [], [], []⟩
  | 14 => ⟨[11], [false], [0, 1, 2, 3, 9, 10], [], [], []⟩
  | 20 => ⟨[12], [false], [0, 1, 2, 3, 9, 10], [], [], []⟩
  | _ => ⟨[], [], [], [], [], []⟩
def aC.L2 (c : Ctx) (J3 : AV → AV → AV → AV → AV → AV → List AObj → Prop) (K : AOut → List AObj → Prop) (lv : List AV) (h0 : List AObj) (n0 : Nat) (c0 : AV) (c1 : AV) (c2 : AV) (c3 : AV) (c10 : AV) : Prop :=
  ∃ I : Nat → List AV → List AObj → Prop, (∃ n, I n lv h0) ∧ ∀ n h, ∀ t9, I n [t9] h →
    runD (binD T_int .lss t9 c2) h fun t21 h =>
    joinW (fun (J4 : AV → AV → List AObj → Prop) =>
    guardW t21 true
    (runD (aF aM h c0 t9) h fun t26 h =>
      runD (fitD aG (loadD h t26)) h fun t27 h =>
      runD (binD T_int .sub t9 (.int .i64 1)) h fun t30 h =>
      runD (aF aM h c0 t30) h fun t31 h =>
      runD (fitD aG (loadD h t31)) h fun t32 h =>
      callW false c.noS c3 [t27, t32] h (fun t33 h =>
      runD (binD T_int .lss t33 (.int .i64 0)) h fun t34 h =>
      runD (unD .not t34) h fun t35 h =>
      J4 (.bool true) t35 h)
      (fun _ _ => False))
    (J4 (.bool false) .und h))
    (fun t22 t35 h => runD (pickD t22 t35 (.bool false)) h fun t36 h =>
    condW t36
    (runD (binD T_int .add t9 (.int .i64 1)) h fun t38 h =>
    (∃ m, m < n ∧ I m (AV.norms n0 h [t38]) (normH n0 h)) ∧ AV.norms n0 h [c0, c1, c2, c3, c10] = [c0, c1, c2, c3, c10])
    (J3 c0 c1 c2 c3 t9 c10 h))
def aC.L3 (c : Ctx) (J6 : AV → AV → AV → AV → AV → AV → List AObj → Prop) (K : AOut → List AObj → Prop) (lv : List AV) (h0 : List AObj) (n0 : Nat) (c0 : AV) (c1 : AV) (c2 : AV) (c3 : AV) (c9 : AV) (c10 : AV) : Prop :=
  ∃ I : Nat → List AV → List AObj → Prop, (∃ n, I n lv h0) ∧ ∀ n h, ∀ t11, I n [t11] h →
    runD (binD T_int .geq t11 (.int .i64 1)) h fun t69 h =>
    condW t69
    (runD (aF aM h c0 t11) h fun t75 h =>
    runD (fitD aG (loadD h t75)) h fun t76 h =>
    runD (binD T_int .sub t11 (.int .i64 1)) h fun t79 h =>
    runD (aF aM h c0 t79) h fun t80 h =>
    runD (fitD aG (loadD h t80)) h fun t81 h =>
    callW false c.noS c3 [t76, t81] h (fun t82 h =>
    runD (binD T_int .lss t82 (.int .i64 0)) h fun t83 h =>
    runD (unD .not t83) h fun t84 h =>
    condW t84
    (J6 c0 c1 c2 c3 c9 c10 h)
    (runD (binD T_int .sub t11 (.int .i64 1)) h fun t89 h =>
    runD (binD T_int .sub t11 (.int .i64 1)) h fun t92 h =>
    runD (aF aM h c0 t92) h fun t93 h =>
    runD (fitD aG (loadD h t93)) h fun t94 h =>
    runD (aF aM h c0 t11) h fun t97 h =>
    runD (fitD aG (loadD h t97)) h fun t98 h =>
    runD (aF aM h c0 t11) h fun t99 h =>
    runH (storeH aG h t99 t94) h fun _ h =>
    runD (aF aM h c0 t89) h fun t100 h =>
    runH (storeH aG h t100 t98) h fun _ h =>
    runD (binD T_int .sub t11 (.int .i64 1)) h fun t71 h =>
    (∃ m, m < n ∧ I m (AV.norms n0 h [t71]) (normH n0 h)) ∧ AV.norms n0 h [c0, c1, c2, c3, c9, c10] = [c0, c1, c2, c3, c9, c10]))
    (fun _ _ => False))
    (J6 c0 c1 c2 c3 c9 c10 h)
def aC.L4 (c : Ctx) (J8 : AV → AV → AV → AV → AV → AV → List AObj → Prop) (K : AOut → List AObj → Prop) (lv : List AV) (h0 : List AObj) (n0 : Nat) (c0 : AV) (c1 : AV) (c2 : AV) (c3 : AV) (c9 : AV) (c10 : AV) : Prop :=
  ∃ I : Nat → List AV → List AObj → Prop, (∃ n, I n lv h0) ∧ ∀ n h, ∀ t12, I n [t12] h →
    runD (binD T_int .lss t12 c2) h fun t109 h =>
    condW t109
    (runD (aF aM h c0 t12) h fun t115 h =>
    runD (fitD aG (loadD h t115)) h fun t116 h =>
    runD (binD T_int .sub t12 (.int .i64 1)) h fun t119 h =>
    runD (aF aM h c0 t119) h fun t120 h =>
    runD (fitD aG (loadD h t120)) h fun t121 h =>
    callW false c.noS c3 [t116, t121] h (fun t122 h =>
    runD (binD T_int .lss t122 (.int .i64 0)) h fun t123 h =>
    runD (unD .not t123) h fun t124 h =>
    condW t124
    (J8 c0 c1 c2 c3 c9 c10 h)
    (runD (binD T_int .sub t12 (.int .i64 1)) h fun t129 h =>
    runD (binD T_int .sub t12 (.int .i64 1)) h fun t132 h =>
    runD (aF aM h c0 t132) h fun t133 h =>
    runD (fitD aG (loadD h t133)) h fun t134 h =>
    runD (aF aM h c0 t12) h fun t137 h =>
    runD (fitD aG (loadD h t137)) h fun t138 h =>
    runD (aF aM h c0 t12) h fun t139 h =>
    runH (storeH aG h t139 t134) h fun _ h =>
    runD (aF aM h c0 t129) h fun t140 h =>
    runH (storeH aG h t140 t138) h fun _ h =>
    runD (binD T_int .add t12 (.int .i64 1)) h fun t111 h =>
    (∃ m, m < n ∧ I m (AV.norms n0 h [t111]) (normH n0 h)) ∧ AV.norms n0 h [c0, c1, c2, c3, c9, c10] = [c0, c1, c2, c3, c9, c10]))
    (fun _ _ => False))
    (J8 c0 c1 c2 c3 c9 c10 h)
def aC.L1 (c : Ctx) (J1 : List AObj → Prop) (K : AOut → List AObj → Prop) (lv : List AV) (h0 : List AObj) (n0 : Nat) (c0 : AV) (c1 : AV) (c2 : AV) (c3 : AV) : Prop :=
  ∃ I : Nat → List AV → List AObj → Prop, (∃ n, I n lv h0) ∧ ∀ n h, ∀ t9, ∀ t10, I n [t9, t10] h →
    runD (binD T_int .lss t10 (.int .i64 5)) h fun t16 h =>
    condW t16
    (joinW (fun (J2 : AV → AV → AV → AV → AV → AV → List AObj → Prop) =>
    joinW (fun (J3 : AV → AV → AV → AV → AV → AV → List AObj → Prop) =>
    promV [false] [t9] h fun lv h => aC.L2 c J3 K (AV.norms h.length h lv) (normH h.length h) h.length (AV.norm h.length h c0) (AV.norm h.length h c1) (AV.norm h.length h c2) (AV.norm h.length h c3) (AV.norm h.length h t10))
    (fun t0 t1 t2 t3 t9 t10 h => runD (binD T_int .eql t9 t2) h fun t41 h =>
    condW t41
    (K (.ret (.bool true)) h)
    (runD (binD T_int .sub t2 t1) h fun t44 h =>
    runD (binD T_int .lss t44 (.int .i64 50)) h fun t45 h =>
    condW t45
    (K (.ret (.bool false)) h)
    (runD (binD T_int .sub t9 (.int .i64 1)) h fun t50 h =>
    runD (binD T_int .sub t9 (.int .i64 1)) h fun t53 h =>
    runD (aF aM h t0 t53) h fun t54 h =>
    runD (fitD aG (loadD h t54)) h fun t55 h =>
    runD (aF aM h t0 t9) h fun t58 h =>
    runD (fitD aG (loadD h t58)) h fun t59 h =>
    runD (aF aM h t0 t9) h fun t60 h =>
    runH (storeH aG h t60 t55) h fun _ h =>
    runD (aF aM h t0 t50) h fun t61 h =>
    runH (storeH aG h t61 t59) h fun _ h =>
    runD (binD T_int .sub t9 t1) h fun t64 h =>
    runD (binD T_int .geq t64 (.int .i64 2)) h fun t65 h =>
    joinW (fun (J5 : AV → AV → AV → AV → AV → AV → List AObj → Prop) =>
    condW t65
    (runD (binD T_int .sub t9 (.int .i64 1)) h fun t67 h =>
      joinW (fun (J6 : AV → AV → AV → AV → AV → AV → List AObj → Prop) =>
      promV [false] [t67] h fun lv h => aC.L3 c J6 K (AV.norms h.length h lv) (normH h.length h) h.length (AV.norm h.length h t0) (AV.norm h.length h t1) (AV.norm h.length h t2) (AV.norm h.length h t3) (AV.norm h.length h t9) (AV.norm h.length h t10))
      (fun t0 t1 t2 t3 t9 t10 h => J5 t0 t1 t2 t3 t9 t10 h))
    (J5 t0 t1 t2 t3 t9 t10 h))
    (fun t0 t1 t2 t3 t9 t10 h => runD (binD T_int .sub t2 t9) h fun t103 h =>
    runD (binD T_int .geq t103 (.int .i64 2)) h fun t104 h =>
    joinW (fun (J7 : AV → AV → AV → AV → AV → AV → List AObj → Prop) =>
    condW t104
    (runD (binD T_int .add t9 (.int .i64 1)) h fun t106 h =>
      joinW (fun (J8 : AV → AV → AV → AV → AV → AV → List AObj → Prop) =>
      promV [false] [t106] h fun lv h => aC.L4 c J8 K (AV.norms h.length h lv) (normH h.length h) h.length (AV.norm h.length h t0) (AV.norm h.length h t1) (AV.norm h.length h t2) (AV.norm h.length h t3) (AV.norm h.length h t9) (AV.norm h.length h t10))
      (fun t0 t1 t2 t3 t9 t10 h => J7 t0 t1 t2 t3 t9 t10 h))
    (J7 t0 t1 t2 t3 t9 t10 h))
    (fun t0 t1 t2 t3 t9 t10 h => J2 t0 t1 t2 t3 t9 t10 h))))))
    (fun t0 t1 t2 t3 t9 t10 h => runD (binD T_int .add t10 (.int .i64 1)) h fun t18 h =>
    (∃ m, m < n ∧ I m (AV.norms n0 h [t9, t18]) (normH n0 h)) ∧ AV.norms n0 h [t0, t1, t2, t3] = [c0, c1, c2, c3]))
    (J1 h)
def aC.H (c : Ctx) (t0 : AV) (t1 : AV) (t2 : AV) (t3 : AV) (h : List AObj) (K : AOut → List AObj → Prop) : Prop :=
  runD (binD T_int .add t1 (.int .i64 1)) h fun t14 h =>
  joinW (fun (J1 : List AObj → Prop) =>
  promV [false, false] [t14, (.int .i64 0)] h fun lv h => aC.L1 c J1 K (AV.norms h.length h lv) (normH h.length h) h.length (AV.norm h.length h t0) (AV.norm h.length h t1) (AV.norm h.length h t2) (AV.norm h.length h t3))
  (fun h => K (.ret (.bool false)) h)
def aE.loops : Nat → LInfo
  | 3 => ⟨[12], [false], [0, 1, 4, 13], [], [], []⟩
  | 5 => ⟨[13], [false], [0, 1, 4, 12], [], [], []⟩
  | 13 => ⟨[12], [false], [0, 1, 4, 13], [], [], []⟩
  | 15 => ⟨[13], [false], [0, 1, 4, 12], [], [], []⟩
  | 1013 => ⟨[12, 13], [false, false], [0, 1, 4], [], [], []⟩
  | _ => ⟨[], [], [], [], [], []⟩
def aE.L1 (c : Ctx) (J1 : AV → AV → AV → AV → AV → List AObj → Prop) (K : AOut → List AObj → Prop) (lv : List AV) (h0 : List AObj) (n0 : Nat) (c0 : AV) (c1 : AV) (c4 : AV) (c13 : AV) : Prop :=
  ∃ I : Nat → List AV → List AObj → Prop, (∃ n, I n lv h0) ∧ ∀ n h, ∀ t12, I n [t12] h →
    runD (binD T_int .leq t12 c13) h fun t34 h =>
    joinW (fun (J2 : AV → AV → List AObj → Prop) =>
    guardW t34 true
    (runD (aF aM h c0 t12) h fun t39 h =>
      runD (fitD aG (loadD h t39)) h fun t40 h =>
      runD (aF aM h c0 c1) h fun t43 h =>
      runD (fitD aG (loadD h t43)) h fun t44 h =>
      callW false c.noS c4 [t40, t44] h (fun t45 h =>
      runD (binD T_int .lss t45 (.int .i64 0)) h fun t46 h =>
      J2 (.bool true) t46 h)
      (fun _ _ => False))
    (J2 (.bool false) .und h))
    (fun t35 t46 h => runD (pickD t35 t46 (.bool false)) h fun t47 h =>
    condW t47
    (runD (binD T_int .add t12 (.int .i64 1)) h fun t49 h =>
    (∃ m, m < n ∧ I m (AV.norms n0 h [t49]) (normH n0 h)) ∧ AV.norms n0 h [c0, c1, c4, c13] = [c0, c1, c4, c13])
    (J1 c0 c1 c4 t12 c13 h))
def aE.L2 (c : Ctx) (J3 : AV → AV → AV → AV → AV → List AObj → Prop) (K : AOut → List AObj → Prop) (lv : List AV) (h0 : List AObj) (n0 : Nat) (c0 : AV) (c1 : AV) (c4 : AV) (c12 : AV) : Prop :=
  ∃ I : Nat → List AV → List AObj → Prop, (∃ n, I n lv h0) ∧ ∀ n h, ∀ t13, I n [t13] h →
    runD (binD T_int .leq c12 t13) h fun t52 h =>
    joinW (fun (J4 : AV → AV → List AObj → Prop) =>
    guardW t52 true
    (runD (aF aM h c0 t13) h fun t57 h =>
      runD (fitD aG (loadD h t57)) h fun t58 h =>
      runD (aF aM h c0 c1) h fun t61 h =>
      runD (fitD aG (loadD h t61)) h fun t62 h =>
      callW false c.noS c4 [t58, t62] h (fun t63 h =>
      runD (binD T_int .lss t63 (.int .i64 0)) h fun t64 h =>
      runD (unD .not t64) h fun t65 h =>
      J4 (.bool true) t65 h)
      (fun _ _ => False))
    (J4 (.bool false) .und h))
    (fun t53 t65 h => runD (pickD t53 t65 (.bool false)) h fun t66 h =>
    condW t66
    (runD (binD T_int .sub t13 (.int .i64 1)) h fun t68 h =>
    (∃ m, m < n ∧ I m (AV.norms n0 h [t68]) (normH n0 h)) ∧ AV.norms n0 h [c0, c1, c4, c12] = [c0, c1, c4, c12])
    (J3 c0 c1 c4 c12 t13 h))
def aE.L4 (c : Ctx) (J7 : AV → AV → AV → AV → AV → List AObj → Prop) (K : AOut → List AObj → Prop) (lv : List AV) (h0 : List AObj) (n0 : Nat) (c0 : AV) (c1 : AV) (c4 : AV) (c13 : AV) : Prop :=
  ∃ I : Nat → List AV → List AObj → Prop, (∃ n, I n lv h0) ∧ ∀ n h, ∀ t12, I n [t12] h →
    runD (binD T_int .leq t12 c13) h fun t107 h =>
    joinW (fun (J8 : AV → AV → List AObj → Prop) =>
    guardW t107 true
    (runD (aF aM h c0 t12) h fun t112 h =>
      runD (fitD aG (loadD h t112)) h fun t113 h =>
      runD (aF aM h c0 c1) h fun t116 h =>
      runD (fitD aG (loadD h t116)) h fun t117 h =>
      callW false c.noS c4 [t113, t117] h (fun t118 h =>
      runD (binD T_int .lss t118 (.int .i64 0)) h fun t119 h =>
      J8 (.bool true) t119 h)
      (fun _ _ => False))
    (J8 (.bool false) .und h))
    (fun t108 t119 h => runD (pickD t108 t119 (.bool false)) h fun t120 h =>
    condW t120
    (runD (binD T_int .add t12 (.int .i64 1)) h fun t122 h =>
    (∃ m, m < n ∧ I m (AV.norms n0 h [t122]) (normH n0 h)) ∧ AV.norms n0 h [c0, c1, c4, c13] = [c0, c1, c4, c13])
    (J7 c0 c1 c4 t12 c13 h))
def aE.L5 (c : Ctx) (J9 : AV → AV → AV → AV → AV → List AObj → Prop) (K : AOut → List AObj → Prop) (lv : List AV) (h0 : List AObj) (n0 : Nat) (c0 : AV) (c1 : AV) (c4 : AV) (c12 : AV) : Prop :=
  ∃ I : Nat → List AV → List AObj → Prop, (∃ n, I n lv h0) ∧ ∀ n h, ∀ t13, I n [t13] h →
    runD (binD T_int .leq c12 t13) h fun t125 h =>
    joinW (fun (J10 : AV → AV → List AObj → Prop) =>
    guardW t125 true
    (runD (aF aM h c0 t13) h fun t130 h =>
      runD (fitD aG (loadD h t130)) h fun t131 h =>
      runD (aF aM h c0 c1) h fun t134 h =>
      runD (fitD aG (loadD h t134)) h fun t135 h =>
      callW false c.noS c4 [t131, t135] h (fun t136 h =>
      runD (binD T_int .lss t136 (.int .i64 0)) h fun t137 h =>
      runD (unD .not t137) h fun t138 h =>
      J10 (.bool true) t138 h)
      (fun _ _ => False))
    (J10 (.bool false) .und h))
    (fun t126 t138 h => runD (pickD t126 t138 (.bool false)) h fun t139 h =>
    condW t139
    (runD (binD T_int .sub t13 (.int .i64 1)) h fun t141 h =>
    (∃ m, m < n ∧ I m (AV.norms n0 h [t141]) (normH n0 h)) ∧ AV.norms n0 h [c0, c1, c4, c12] = [c0, c1, c4, c12])
    (J9 c0 c1 c4 c12 t13 h))
def aE.L3 (c : Ctx) (J5 : AV → AV → AV → List AObj → Prop) (K : AOut → List AObj → Prop) (lv : List AV) (h0 : List AObj) (n0 : Nat) (c0 : AV) (c1 : AV) (c4 : AV) : Prop :=
  ∃ I : Nat → List AV → List AObj → Prop, (∃ n, I n lv h0) ∧ ∀ n h, ∀ t12, ∀ t13, I n [t12, t13] h →
    joinW (fun (J6 : AV → AV → AV → AV → AV → List AObj → Prop) =>
    joinW (fun (J7 : AV → AV → AV → AV → AV → List AObj → Prop) =>
    promV [false] [t12] h fun lv h => aE.L4 c J7 K (AV.norms h.length h lv) (normH h.length h) h.length (AV.norm h.length h c0) (AV.norm h.length h c1) (AV.norm h.length h c4) (AV.norm h.length h t13))
    (fun t0 t1 t4 t12 t13 h => joinW (fun (J9 : AV → AV → AV → AV → AV → List AObj → Prop) =>
    promV [false] [t13] h fun lv h => aE.L5 c J9 K (AV.norms h.length h lv) (normH h.length h) h.length (AV.norm h.length h t0) (AV.norm h.length h t1) (AV.norm h.length h t4) (AV.norm h.length h t12))
    (fun t0 t1 t4 t12 t13 h => runD (binD T_int .gtr t12 t13) h fun t144 h =>
    condW t144
    (J5 t0 t1 t13 h)
    (runD (aF aM h t0 t13) h fun t151 h =>
    runD (fitD aG (loadD h t151)) h fun t152 h =>
    runD (aF aM h t0 t12) h fun t155 h =>
    runD (fitD aG (loadD h t155)) h fun t156 h =>
    runD (aF aM h t0 t12) h fun t157 h =>
    runH (storeH aG h t157 t152) h fun _ h =>
    runD (aF aM h t0 t13) h fun t158 h =>
    runH (storeH aG h t158 t156) h fun _ h =>
    runD (binD T_int .add t12 (.int .i64 1)) h fun t160 h =>
    runD (binD T_int .sub t13 (.int .i64 1)) h fun t162 h =>
    J6 t0 t1 t4 t160 t162 h))))
    (fun t0 t1 t4 t12 t13 h => (∃ m, m < n ∧ I m (AV.norms n0 h [t12, t13]) (normH n0 h)) ∧ AV.norms n0 h [t0, t1, t4] = [c0, c1, c4])
def aE.H (c : Ctx) (t0 : AV) (t1 : AV) (t2 : AV) (t3 : AV) (t4 : AV) (h : List AObj) (K : AOut → List AObj → Prop) : Prop :=
  runD (aF aM h t0 t3) h fun t20 h =>
  runD (fitD aG (loadD h t20)) h fun t21 h =>
  runD (aF aM h t0 t1) h fun t24 h =>
  runD (fitD aG (loadD h t24)) h fun t25 h =>
  runD (aF aM h t0 t1) h fun t26 h =>
  runH (storeH aG h t26 t21) h fun _ h =>
  runD (aF aM h t0 t3) h fun t27 h =>
  runH (storeH aG h t27 t25) h fun _ h =>
  runD (binD T_int .add t1 (.int .i64 1)) h fun t29 h =>
  runD (binD T_int .sub t2 (.int .i64 1)) h fun t31 h =>
  joinW (fun (J1 : AV → AV → AV → AV → AV → List AObj → Prop) =>
  promV [false] [t29] h fun lv h => aE.L1 c J1 K (AV.norms h.length h lv) (normH h.length h) h.length (AV.norm h.length h t0) (AV.norm h.length h t1) (AV.norm h.length h t4) (AV.norm h.length h t31))
  (fun t0 t1 t4 t12 t13 h => joinW (fun (J3 : AV → AV → AV → AV → AV → List AObj → Prop) =>
  promV [false] [t13] h fun lv h => aE.L2 c J3 K (AV.norms h.length h lv) (normH h.length h) h.length (AV.norm h.length h t0) (AV.norm h.length h t1) (AV.norm h.length h t4) (AV.norm h.length h t12))
  (fun t0 t1 t4 t12 t13 h => runD (binD T_int .gtr t12 t13) h fun t71 h =>
  condW t71
  (runD (aF aM h t0 t1) h fun t78 h =>
    runD (fitD aG (loadD h t78)) h fun t79 h =>
    runD (aF aM h t0 t13) h fun t82 h =>
    runD (fitD aG (loadD h t82)) h fun t83 h =>
    runD (aF aM h t0 t13) h fun t84 h =>
    runH (storeH aG h t84 t79) h fun _ h =>
    runD (aF aM h t0 t1) h fun t85 h =>
    runH (storeH aG h t85 t83) h fun _ h =>
    K (.ret (.tup [t13, (.bool true)])) h)
  (runD (aF aM h t0 t13) h fun t93 h =>
  runD (fitD aG (loadD h t93)) h fun t94 h =>
  runD (aF aM h t0 t12) h fun t97 h =>
  runD (fitD aG (loadD h t97)) h fun t98 h =>
  runD (aF aM h t0 t12) h fun t99 h =>
  runH (storeH aG h t99 t94) h fun _ h =>
  runD (aF aM h t0 t13) h fun t100 h =>
  runH (storeH aG h t100 t98) h fun _ h =>
  runD (binD T_int .add t12 (.int .i64 1)) h fun t102 h =>
  runD (binD T_int .sub t13 (.int .i64 1)) h fun t104 h =>
  joinW (fun (J5 : AV → AV → AV → List AObj → Prop) =>
  promV [false, false] [t102, t104] h fun lv h => aE.L3 c J5 K (AV.norms h.length h lv) (normH h.length h) h.length (AV.norm h.length h t0) (AV.norm h.length h t1) (AV.norm h.length h t4))
  (fun t0 t1 t13 h => runD (aF aM h t0 t1) h fun t169 h =>
  runD (fitD aG (loadD h t169)) h fun t170 h =>
  runD (aF aM h t0 t13) h fun t173 h =>
  runD (fitD aG (loadD h t173)) h fun t174 h =>
  runD (aF aM h t0 t13) h fun t175 h =>
  runH (storeH aG h t175 t170) h fun _ h =>
  runD (aF aM h t0 t1) h fun t176 h =>
  runH (storeH aG h t176 t174) h fun _ h =>
  K (.ret (.tup [t13, (.bool false)])) h))))
def aZ.loops : Nat → LInfo
  | _ => ⟨[], [], [], [], [], []⟩
def aZ.H (c : Ctx) (t0 : AV) (t1 : AV) (t2 : AV) (t3 : AV) (t4 : AV) (t5 : AV) (h : List AObj) (K : AOut → List AObj → Prop) : Prop :=
  callW false c (.fn (.func 151) [] []) [t0, t1, t2, t4, t5] h (fun t19 h =>
  runD (bH t19 0) h fun t20 h =>
  runD (bH t19 1) h fun t21 h =>
  callW false c (.fn (.func 151) [] []) [t0, t21, t3, t4, t5] h (fun t28 h =>
  runD (bH t28 0) h fun t29 h =>
  runD (bH t28 1) h fun t30 h =>
  callW false c (.fn (.func 151) [] []) [t0, t20, t29, t4, t5] h (fun t37 h =>
  runD (bH t37 0) h fun t38 h =>
  runD (bH t37 1) h fun t39 h =>
  K (.ret t39) h)
  (fun v h => K (.pan v) h))
  (fun v h => K (.pan v) h))
  (fun v h => K (.pan v) h)
def bE.loops : Nat → LInfo
  | _ => ⟨[], [], [], [], [], []⟩
def bE.H (c : Ctx) (t0 : AV) (t1 : AV) (t2 : AV) (t3 : AV) (t4 : AV) (h : List AObj) (K : AOut → List AObj → Prop) : Prop :=
  runD (aF aM h t0 t2) h fun t15 h =>
  runD (fitD aG (loadD h t15)) h fun t16 h =>
  runD (aF aM h t0 t1) h fun t19 h =>
  runD (fitD aG (loadD h t19)) h fun t20 h =>
  callW false c.noS t4 [t16, t20] h (fun t21 h =>
  runD (binD T_int .lss t21 (.int .i64 0)) h fun t22 h =>
  condW t22
  (runD (aY t3) h fun t24 h =>
    runD (fitD T_int (loadD h t24)) h fun t25 h =>
    runD (binD T_int .add t25 (.int .i64 1)) h fun t26 h =>
    runD (aY t3) h fun t27 h =>
    runH (storeH T_int h t27 t26) h fun _ h =>
    K (.ret (.tup [t2, t1])) h)
  (K (.ret (.tup [t1, t2])) h))
  (fun _ _ => False)
theorem aS.eq (F : List (FuncId × aD)) (S : List (FuncId × Con)) (t0 t1 : AV) (h : List AObj) (K : AOut → List AObj → Prop) : funW (ctx F S aS.loops) Tryz.f108 [t0, t1] h K = aS.H (ctx F S aS.loops) t0 t1 h K := by kernel_rfl
theorem bF.eq (F : List (FuncId × aD)) (S : List (FuncId × Con)) (t0 t1 t2 t3 t4 : AV) (h : List AObj) (K : AOut → List AObj → Prop) : funW (ctx F S bF.loops) Tryz.f119 [t0, t1, t2, t3, t4] h K = bF.H (ctx F S bF.loops) t0 t1 t2 t3 t4 h K := by kernel_rfl
theorem aX.eq (F : List (FuncId × aD)) (S : List (FuncId × Con)) (t0 t1 t2 t3 : AV) (h : List AObj) (K : AOut → List AObj → Prop) : funW (ctx F S aX.loops) Tryz.f129 [t0, t1, t2, t3] h K = aX.H (ctx F S aX.loops) t0 t1 t2 t3 h K := by kernel_rfl
theorem aC.eq (F : List (FuncId × aD)) (S : List (FuncId × Con)) (t0 t1 t2 t3 : AV) (h : List AObj) (K : AOut → List AObj → Prop) : funW (ctx F S aC.loops) Tryz.f131 [t0, t1, t2, t3] h K = aC.H (ctx F S aC.loops) t0 t1 t2 t3 h K := by kernel_rfl
theorem aE.eq (F : List (FuncId × aD)) (S : List (FuncId × Con)) (t0 t1 t2 t3 t4 : AV) (h : List AObj) (K : AOut → List AObj → Prop) : funW (ctx F S aE.loops) Tryz.f133 [t0, t1, t2, t3, t4] h K = aE.H (ctx F S aE.loops) t0 t1 t2 t3 t4 h K := by kernel_rfl
theorem aZ.eq (F : List (FuncId × aD)) (S : List (FuncId × Con)) (t0 t1 t2 t3 t4 t5 : AV) (h : List AObj) (K : AOut → List AObj → Prop) : funW (ctx F S aZ.loops) Tryz.f146 [t0, t1, t2, t3, t4, t5] h K = aZ.H (ctx F S aZ.loops) t0 t1 t2 t3 t4 t5 h K := by kernel_rfl
theorem bE.eq (F : List (FuncId × aD)) (S : List (FuncId × Con)) (t0 t1 t2 t3 t4 : AV) (h : List AObj) (K : AOut → List AObj → Prop) : funW (ctx F S bE.loops) Tryz.f151 [t0, t1, t2, t3, t4] h K = bE.H (ctx F S bE.loops) t0 t1 t2 t3 t4 h K := by kernel_rfl
theorem aS.at : Tryz.prog.funcs[108]? = some Tryz.f108 := by kernel_rfl
theorem aS.nm : (Tryz.f108.name == "runtime.NumGoroutine") = false := by kernel_rfl
theorem aS.bd : Tryz.f108.body.isNone = false := by kernel_rfl
theorem bF.at : Tryz.prog.funcs[119]? = some Tryz.f119 := by kernel_rfl
theorem bF.nm : (Tryz.f119.name == "runtime.NumGoroutine") = false := by kernel_rfl
theorem bF.bd : Tryz.f119.body.isNone = false := by kernel_rfl
theorem aX.at : Tryz.prog.funcs[129]? = some Tryz.f129 := by kernel_rfl
theorem aX.nm : (Tryz.f129.name == "runtime.NumGoroutine") = false := by kernel_rfl
theorem aX.bd : Tryz.f129.body.isNone = false := by kernel_rfl
theorem aC.at : Tryz.prog.funcs[131]? = some Tryz.f131 := by kernel_rfl
theorem aC.nm : (Tryz.f131.name == "runtime.NumGoroutine") = false := by kernel_rfl
theorem aC.bd : Tryz.f131.body.isNone = false := by kernel_rfl
theorem aE.at : Tryz.prog.funcs[133]? = some Tryz.f133 := by kernel_rfl
theorem aE.nm : (Tryz.f133.name == "runtime.NumGoroutine") = false := by kernel_rfl
theorem aE.bd : Tryz.f133.body.isNone = false := by kernel_rfl
theorem aZ.at : Tryz.prog.funcs[146]? = some Tryz.f146 := by kernel_rfl
theorem aZ.nm : (Tryz.f146.name == "runtime.NumGoroutine") = false := by kernel_rfl
theorem aZ.bd : Tryz.f146.body.isNone = false := by kernel_rfl
theorem bE.at : Tryz.prog.funcs[151]? = some Tryz.f151 := by kernel_rfl
theorem bE.nm : (Tryz.f151.name == "runtime.NumGoroutine") = false := by kernel_rfl
theorem bE.bd : Tryz.f151.body.isNone = false := by kernel_rfl
end Lam
namespace Lam
open Go Go.Proofs
set_option linter.unusedVariables false
def aK.loops : Nat → LInfo
  | 1 => ⟨[8], [false], [0, 1, 2, 3], [], [], []⟩
  | 4 => ⟨[9], [false], [0, 1, 2, 3, 8], [], [], []⟩
  | _ => ⟨[], [], [], [], [], []⟩
def aK.L2 (c : Ctx) (J3 : AV → AV → AV → AV → AV → List AObj → Prop) (K : AOut → List AObj → Prop) (lv : List AV) (h0 : List AObj) (n0 : Nat) (c0 : AV) (c1 : AV) (c2 : AV) (c3 : AV) (c8 : AV) : Prop :=
  ∃ I : Nat → List AV → List AObj → Prop, (∃ n, I n lv h0) ∧ ∀ n h, ∀ t9, I n [t9] h →
    runD (binD T_int .gtr t9 c1) h fun t20 h =>
    joinW (fun (J4 : AV → AV → List AObj → Prop) =>
    guardW t20 true
    (runD (aF aM h c0 t9) h fun t25 h =>
      runD (fitD aG (loadD h t25)) h fun t26 h =>
      runD (binD T_int .sub t9 (.int .i64 1)) h fun t29 h =>
      runD (aF aM h c0 t29) h fun t30 h =>
      runD (fitD aG (loadD h t30)) h fun t31 h =>
      callW false c.noS c3 [t26, t31] h (fun t32 h =>
      runD (binD T_int .lss t32 (.int .i64 0)) h fun t33 h =>
      J4 (.bool true) t33 h)
      (fun _ _ => False))
    (J4 (.bool false) .und h))
    (fun t21 t33 h => runD (pickD t21 t33 (.bool false)) h fun t34 h =>
    condW t34
    (runD (binD T_int .sub t9 (.int .i64 1)) h fun t41 h =>
    runD (binD T_int .sub t9 (.int .i64 1)) h fun t44 h =>
    runD (aF aM h c0 t44) h fun t45 h =>
    runD (fitD aG (loadD h t45)) h fun t46 h =>
    runD (aF aM h c0 t9) h fun t49 h =>
    runD (fitD aG (loadD h t49)) h fun t50 h =>
    runD (aF aM h c0 t9) h fun t51 h =>
    runH (storeH aG h t51 t46) h fun _ h =>
    runD (aF aM h c0 t41) h fun t52 h =>
    runH (storeH aG h t52 t50) h fun _ h =>
    runD (binD T_int .sub t9 (.int .i64 1)) h fun t36 h =>
    (∃ m, m < n ∧ I m (AV.norms n0 h [t36]) (normH n0 h)) ∧ AV.norms n0 h [c0, c1, c2, c3, c8] = [c0, c1, c2, c3, c8])
    (J3 c0 c1 c2 c3 c8 h))
def aK.L1 (c : Ctx) (J1 : List AObj → Prop) (K : AOut → List AObj → Prop) (lv : List AV) (h0 : List AObj) (n0 : Nat) (c0 : AV) (c1 : AV) (c2 : AV) (c3 : AV) : Prop :=
  ∃ I : Nat → List AV → List AObj → Prop, (∃ n, I n lv h0) ∧ ∀ n h, ∀ t8, I n [t8] h →
    runD (binD T_int .lss t8 c2) h fun t14 h =>
    condW t14
    (joinW (fun (J2 : AV → AV → AV → AV → AV → List AObj → Prop) =>
    joinW (fun (J3 : AV → AV → AV → AV → AV → List AObj → Prop) =>
    promV [false] [t8] h fun lv h => aK.L2 c J3 K (AV.norms h.length h lv) (normH h.length h) h.length (AV.norm h.length h c0) (AV.norm h.length h c1) (AV.norm h.length h c2) (AV.norm h.length h c3) (AV.norm h.length h t8))
    (fun t0 t1 t2 t3 t8 h => J2 t0 t1 t2 t3 t8 h))
    (fun t0 t1 t2 t3 t8 h => runD (binD T_int .add t8 (.int .i64 1)) h fun t16 h =>
    (∃ m, m < n ∧ I m (AV.norms n0 h [t16]) (normH n0 h)) ∧ AV.norms n0 h [t0, t1, t2, t3] = [c0, c1, c2, c3]))
    (J1 h)
def aK.H (c : Ctx) (t0 : AV) (t1 : AV) (t2 : AV) (t3 : AV) (h : List AObj) (K : AOut → List AObj → Prop) : Prop :=
  runD (binD T_int .add t1 (.int .i64 1)) h fun t11 h =>
  joinW (fun (J1 : List AObj → Prop) =>
  promV [false] [t11] h fun lv h => aK.L1 c J1 K (AV.norms h.length h lv) (normH h.length h) h.length (AV.norm h.length h t0) (AV.norm h.length h t1) (AV.norm h.length h t2) (AV.norm h.length h t3))
  (fun h => K (.ret (.tup [])) h)
theorem aK.eq (F : List (FuncId × aD)) (S : List (FuncId × Con)) (t0 t1 t2 t3 : AV) (h : List AObj) (K : AOut → List AObj → Prop) : funW (ctx F S aK.loops) Tryz.f126 [t0, t1, t2, t3] h K = aK.H (ctx F S aK.loops) t0 t1 t2 t3 h K := by kernel_rfl
theorem aK.at : Tryz.prog.funcs[126]? = some Tryz.f126 := by kernel_rfl
theorem aK.nm : (Tryz.f126.name == "runtime.NumGoroutine") = false := by kernel_rfl
theorem aK.bd : Tryz.f126.body.isNone = false := by kernel_rfl
end Lam
namespace Lam
open Go Go.Proofs
set_option linter.unusedVariables false
def aR.loops : Nat → LInfo
  | 4 => ⟨[11], [false], [0, 3, 8, 9, 10], [], [], []⟩
  | 8 => ⟨[12], [false], [0, 3, 8, 9], [], [], []⟩
  | _ => ⟨[], [], [], [], [], []⟩
def aR.L1 (c : Ctx) (J1 : AV → AV → AV → AV → AV → List AObj → Prop) (K : AOut → List AObj → Prop) (lv : List AV) (h0 : List AObj) (n0 : Nat) (c0 : AV) (c3 : AV) (c8 : AV) (c9 : AV) (c10 : AV) : Prop :=
  ∃ I : Nat → List AV → List AObj → Prop, (∃ n, I n lv h0) ∧ ∀ n h, ∀ t11, I n [t11] h →
    runD (binD T_int .geq t11 (.int .i64 0)) h fun t21 h =>
    condW t21
    (callW false c (.fn (.func 142) [] []) [c0, t11, c10, c8, c3] h (fun t29 h =>
    runD (binD T_int .sub t11 (.int .i64 1)) h fun t23 h =>
    (∃ m, m < n ∧ I m (AV.norms n0 h [t23]) (normH n0 h)) ∧ AV.norms n0 h [c0, c3, c8, c9, c10] = [c0, c3, c8, c9, c10])
    (fun v h => K (.pan v) h))
    (J1 c0 c3 c8 c9 c10 h)
def aR.L2 (c : Ctx) (J2 : List AObj → Prop) (K : AOut → List AObj → Prop) (lv : List AV) (h0 : List AObj) (n0 : Nat) (c0 : AV) (c3 : AV) (c8 : AV) (c9 : AV) : Prop :=
  ∃ I : Nat → List AV → List AObj → Prop, (∃ n, I n lv h0) ∧ ∀ n h, ∀ t12, I n [t12] h →
    runD (binD T_int .geq t12 (.int .i64 0)) h fun t33 h =>
    condW t33
    (runD (binD T_int .add c8 t12) h fun t41 h =>
    runD (binD T_int .add c8 t12) h fun t45 h =>
    runD (aF aM h c0 t45) h fun t46 h =>
    runD (fitD aG (loadD h t46)) h fun t47 h =>
    runD (aF aM h c0 c8) h fun t50 h =>
    runD (fitD aG (loadD h t50)) h fun t51 h =>
    runD (aF aM h c0 c8) h fun t52 h =>
    runH (storeH aG h t52 t47) h fun _ h =>
    runD (aF aM h c0 t41) h fun t53 h =>
    runH (storeH aG h t53 t51) h fun _ h =>
    callW false c (.fn (.func 142) [] []) [c0, c9, t12, c8, c3] h (fun t59 h =>
    runD (binD T_int .sub t12 (.int .i64 1)) h fun t35 h =>
    (∃ m, m < n ∧ I m (AV.norms n0 h [t35]) (normH n0 h)) ∧ AV.norms n0 h [c0, c3, c8, c9] = [c0, c3, c8, c9])
    (fun v h => K (.pan v) h))
    (J2 h)
def aR.H (c : Ctx) (t0 : AV) (t1 : AV) (t2 : AV) (t3 : AV) (h : List AObj) (K : AOut → List AObj → Prop) : Prop :=
  runD (binD T_int .sub t2 t1) h fun t16 h =>
  runD (binD T_int .sub t16 (.int .i64 1)) h fun t18 h =>
  runD (binD T_int .quo t18 (.int .i64 2)) h fun t19 h =>
  joinW (fun (J1 : AV → AV → AV → AV → AV → List AObj → Prop) =>
  promV [false] [t19] h fun lv h => aR.L1 c J1 K (AV.norms h.length h lv) (normH h.length h) h.length (AV.norm h.length h t0) (AV.norm h.length h t3) (AV.norm h.length h t1) (AV.norm h.length h (.int .i64 0)) (AV.norm h.length h t16))
  (fun t0 t3 t8 t9 t10 h => runD (binD T_int .sub t10 (.int .i64 1)) h fun t31 h =>
  joinW (fun (J2 : List AObj → Prop) =>
  promV [false] [t31] h fun lv h => aR.L2 c J2 K (AV.norms h.length h lv) (normH h.length h) h.length (AV.norm h.length h t0) (AV.norm h.length h t3) (AV.norm h.length h t8) (AV.norm h.length h t9))
  (fun h => K (.ret (.tup [])) h))
def aO.loops : Nat → LInfo
  | 5 => ⟨[11], [false], [0, 1, 8, 9, 10], [], [], []⟩
  | _ => ⟨[], [], [], [], [], []⟩
def aO.L1 (c : Ctx) (J2 : List AObj → Prop) (K : AOut → List AObj → Prop) (lv : List AV) (h0 : List AObj) (n0 : Nat) (c0 : AV) (c1 : AV) (c8 : AV) (c9 : AV) (c10 : AV) : Prop :=
  ∃ I : Nat → List AV → List AObj → Prop, (∃ n, I n lv h0) ∧ ∀ n h, ∀ t11, I n [t11] h →
    runD (binD T_int .quo c8 (.int .i64 4)) h fun t31 h =>
    runD (binD T_int .mul t31 (.int .i64 2)) h fun t32 h =>
    runD (binD T_int .add c1 t32) h fun t33 h =>
    runD (binD T_int .add t33 (.int .i64 1)) h fun t34 h =>
    runD (binD T_int .leq t11 t34) h fun t35 h =>
    condW t35
    (callW false c (.fn (.func 144) [] []) [c9] h (fun t38 h =>
    runD (binD T_uint .sub c10 (.int .u64 1)) h fun t40 h =>
    runD (binD T_uint .and t38 t40) h fun t41 h =>
    runD (convD h T_uint T_int t41) h fun t42 h =>
    runD (binD T_int .geq t42 c8) h fun t45 h =>
    joinW (fun (J3 : AV → List AObj → Prop) =>
    condW t45
    (runD (binD T_int .sub t42 c8) h fun t48 h =>
      J3 t48 h)
    (J3 t42 h))
    (fun t12 h => runD (binD T_int .add c1 t12) h fun t54 h =>
    runD (binD T_int .add c1 t12) h fun t58 h =>
    runD (aF aM h c0 t58) h fun t59 h =>
    runD (fitD aG (loadD h t59)) h fun t60 h =>
    runD (aF aM h c0 t11) h fun t63 h =>
    runD (fitD aG (loadD h t63)) h fun t64 h =>
    runD (aF aM h c0 t11) h fun t65 h =>
    runH (storeH aG h t65 t60) h fun _ h =>
    runD (aF aM h c0 t54) h fun t66 h =>
    runH (storeH aG h t66 t64) h fun _ h =>
    runD (binD T_int .add t11 (.int .i64 1)) h fun t37 h =>
    (∃ m, m < n ∧ I m (AV.norms n0 h [t37]) (normH n0 h)) ∧ AV.norms n0 h [c0, c1, c8, c9, c10] = [c0, c1, c8, c9, c10]))
    (fun v h => K (.pan v) h))
    (J2 h)
def aO.H (c : Ctx) (t0 : AV) (t1 : AV) (t2 : AV) (t3 : AV) (h : List AObj) (K : AOut → List AObj → Prop) : Prop :=
  runD (binD T_int .sub t2 t1) h fun t15 h =>
  runD (binD T_int .geq t15 (.int .i64 8)) h fun t17 h =>
  joinW (fun (J1 : List AObj → Prop) =>
  condW t17
  (runD (convD h T_int cH t15) h fun t19 h =>
    allocW cH h fun t9 h =>
    runH (storeH cH h t9 t19) h fun _ h =>
    callW false c (.fn (.func 143) [] []) [t15] h (fun t21 h =>
    runD (binD T_int .quo t15 (.int .i64 4)) h fun t24 h =>
    runD (binD T_int .mul t24 (.int .i64 2)) h fun t25 h =>
    runD (binD T_int .add t1 t25) h fun t26 h =>
    runD (binD T_int .sub t26 (.int .i64 1)) h fun t27 h =>
    joinW (fun (J2 : List AObj → Prop) =>
    promV [false] [t27] h fun lv h => aO.L1 c J2 K (AV.norms h.length h lv) (normH h.length h) h.length (AV.norm h.length h t0) (AV.norm h.length h t1) (AV.norm h.length h t15) (AV.norm h.length h t9) (AV.norm h.length h t21))
    (fun h => J1 h))
    (fun v h => K (.pan v) h))
  (J1 h))
  (fun h => K (.ret (.tup [])) h)
def aP.loops : Nat → LInfo
  | 2 => ⟨[8, 9], [false, false], [0], [], [], []⟩
  | _ => ⟨[], [], [], [], [], []⟩
def aP.L1 (c : Ctx) (J1 : List AObj → Prop) (K : AOut → List AObj → Prop) (lv : List AV) (h0 : List AObj) (n0 : Nat) (c0 : AV) : Prop :=
  ∃ I : Nat → List AV → List AObj → Prop, (∃ n, I n lv h0) ∧ ∀ n h, ∀ t8, ∀ t9, I n [t8, t9] h →
    runD (binD T_int .lss t8 t9) h fun t15 h =>
    condW t15
    (runD (aF aM h c0 t9) h fun t22 h =>
    runD (fitD aG (loadD h t22)) h fun t23 h =>
    runD (aF aM h c0 t8) h fun t26 h =>
    runD (fitD aG (loadD h t26)) h fun t27 h =>
    runD (aF aM h c0 t8) h fun t28 h =>
    runH (storeH aG h t28 t23) h fun _ h =>
    runD (aF aM h c0 t9) h fun t29 h =>
    runH (storeH aG h t29 t27) h fun _ h =>
    runD (binD T_int .add t8 (.int .i64 1)) h fun t31 h =>
    runD (binD T_int .sub t9 (.int .i64 1)) h fun t33 h =>
    (∃ m, m < n ∧ I m (AV.norms n0 h [t31, t33]) (normH n0 h)) ∧ AV.norms n0 h [c0] = [c0])
    (J1 h)
def aP.H (c : Ctx) (t0 : AV) (t1 : AV) (t2 : AV) (t3 : AV) (h : List AObj) (K : AOut → List AObj → Prop) : Prop :=
  runD (binD T_int .sub t2 (.int .i64 1)) h fun t12 h =>
  joinW (fun (J1 : List AObj → Prop) =>
  promV [false, false] [t1, t12] h fun lv h => aP.L1 c J1 K (AV.norms h.length h lv) (normH h.length h) h.length (AV.norm h.length h t0))
  (fun h => K (.ret (.tup [])) h)
def aU.loops : Nat → LInfo
  | 1 => ⟨[10], [false], [0, 2, 3, 4], [], [], []⟩
  | _ => ⟨[], [], [], [], [], []⟩
def aU.L1 (c : Ctx) (J1 : List AObj → Prop) (K : AOut → List AObj → Prop) (lv : List AV) (h0 : List AObj) (n0 : Nat) (c0 : AV) (c2 : AV) (c3 : AV) (c4 : AV) : Prop :=
  ∃ I : Nat → List AV → List AObj → Prop, (∃ n, I n lv h0) ∧ ∀ n h, ∀ t10, I n [t10] h →
    runD (binD T_int .mul (.int .i64 2) t10) h fun t14 h =>
    runD (binD T_int .add t14 (.int .i64 1)) h fun t15 h =>
    runD (binD T_int .geq t15 c2) h fun t18 h =>
    condW t18
    (J1 h)
    (runD (binD T_int .add t15 (.int .i64 1)) h fun t20 h =>
    runD (binD T_int .lss t20 c2) h fun t22 h =>
    joinW (fun (J2 : AV → AV → List AObj → Prop) =>
    guardW t22 true
    (runD (binD T_int .add c3 t15) h fun t28 h =>
      runD (aF aM h c0 t28) h fun t29 h =>
      runD (fitD aG (loadD h t29)) h fun t30 h =>
      runD (binD T_int .add c3 t15) h fun t34 h =>
      runD (binD T_int .add t34 (.int .i64 1)) h fun t35 h =>
      runD (aF aM h c0 t35) h fun t36 h =>
      runD (fitD aG (loadD h t36)) h fun t37 h =>
      callW false c.noS c4 [t30, t37] h (fun t38 h =>
      runD (binD T_int .lss t38 (.int .i64 0)) h fun t39 h =>
      J2 (.bool true) t39 h)
      (fun _ _ => False))
    (J2 (.bool false) .und h))
    (fun t23 t39 h => runD (pickD t23 t39 (.bool false)) h fun t40 h =>
    joinW (fun (J3 : AV → List AObj → Prop) =>
    condW t40
    (runD (binD T_int .add t15 (.int .i64 1)) h fun t42 h =>
      J3 t42 h)
    (J3 t15 h))
    (fun t11 h => runD (binD T_int .add c3 t10) h fun t47 h =>
    runD (aF aM h c0 t47) h fun t48 h =>
    runD (fitD aG (loadD h t48)) h fun t49 h =>
    runD (binD T_int .add c3 t11) h fun t53 h =>
    runD (aF aM h c0 t53) h fun t54 h =>
    runD (fitD aG (loadD h t54)) h fun t55 h =>
    callW false c.noS c4 [t49, t55] h (fun t56 h =>
    runD (binD T_int .lss t56 (.int .i64 0)) h fun t57 h =>
    runD (unD .not t57) h fun t58 h =>
    condW t58
    (K (.ret (.tup [])) h)
    (runD (binD T_int .add c3 t10) h fun t62 h =>
    runD (binD T_int .add c3 t11) h fun t66 h =>
    runD (binD T_int .add c3 t11) h fun t70 h =>
    runD (aF aM h c0 t70) h fun t71 h =>
    runD (fitD aG (loadD h t71)) h fun t72 h =>
    runD (binD T_int .add c3 t10) h fun t76 h =>
    runD (aF aM h c0 t76) h fun t77 h =>
    runD (fitD aG (loadD h t77)) h fun t78 h =>
    runD (aF aM h c0 t62) h fun t79 h =>
    runH (storeH aG h t79 t72) h fun _ h =>
    runD (aF aM h c0 t66) h fun t80 h =>
    runH (storeH aG h t80 t78) h fun _ h =>
    (∃ m, m < n ∧ I m (AV.norms n0 h [t11]) (normH n0 h)) ∧ AV.norms n0 h [c0, c2, c3, c4] = [c0, c2, c3, c4]))
    (fun _ _ => False))))
def aU.H (c : Ctx) (t0 : AV) (t1 : AV) (t2 : AV) (t3 : AV) (t4 : AV) (h : List AObj) (K : AOut → List AObj → Prop) : Prop :=
  joinW (fun (J1 : List AObj → Prop) =>
  promV [false] [t1] h fun lv h => aU.L1 c J1 K (AV.norms h.length h lv) (normH h.length h) h.length (AV.norm h.length h t0) (AV.norm h.length h t2) (AV.norm h.length h t3) (AV.norm h.length h t4))
  (fun h => K (.ret (.tup [])) h)
def bR.loops : Nat → LInfo
  | _ => ⟨[], [], [], [], [], []⟩
def bR.H (c : Ctx) (t0 : AV) (h : List AObj) (K : AOut → List AObj → Prop) : Prop :=
  runD (convD h T_int T_uint t0) h fun t4 h =>
  callW false c (.fn (.func 120) [] []) [t4] h (fun t5 h =>
  runD (binD T_uint .shl (.int .u64 1) t5) h fun t6 h =>
  K (.ret t6) h)
  (fun v h => K (.pan v) h)
def bO.loops : Nat → LInfo
  | _ => ⟨[], [], [], [], [], []⟩
def bO.H (c : Ctx) (t0 : AV) (h : List AObj) (K : AOut → List AObj → Prop) : Prop :=
  runD (aY t0) h fun t4 h =>
  runD (fitD cH (loadD h t4)) h fun t5 h =>
  runD (aY t0) h fun t7 h =>
  runD (fitD cH (loadD h t7)) h fun t8 h =>
  runD (binD cH .shl t8 (.int .u64 13)) h fun t9 h =>
  runD (binD cH .xor t5 t9) h fun t10 h =>
  runD (aY t0) h fun t11 h =>
  runH (storeH cH h t11 t10) h fun _ h =>
  runD (aY t0) h fun t13 h =>
  runD (fitD cH (loadD h t13)) h fun t14 h =>
  runD (aY t0) h fun t16 h =>
  runD (fitD cH (loadD h t16)) h fun t17 h =>
  runD (binD cH .shr t17 (.int .u64 7)) h fun t18 h =>
  runD (binD cH .xor t14 t18) h fun t19 h =>
  runD (aY t0) h fun t20 h =>
  runH (storeH cH h t20 t19) h fun _ h =>
  runD (aY t0) h fun t22 h =>
  runD (fitD cH (loadD h t22)) h fun t23 h =>
  runD (aY t0) h fun t25 h =>
  runD (fitD cH (loadD h t25)) h fun t26 h =>
  runD (binD cH .shl t26 (.int .u64 17)) h fun t27 h =>
  runD (binD cH .xor t23 t27) h fun t28 h =>
  runD (aY t0) h fun t29 h =>
  runH (storeH cH h t29 t28) h fun _ h =>
  runD (aY t0) h fun t31 h =>
  runD (fitD cH (loadD h t31)) h fun t32 h =>
  K (.ret t32) h
def aQ.loops : Nat → LInfo
  | _ => ⟨[], [], [], [], [], []⟩
def aQ.H (c : Ctx) (t0 : AV) (t1 : AV) (t2 : AV) (t3 : AV) (h : List AObj) (K : AOut → List AObj → Prop) : Prop :=
  runD (binD T_int .sub t1 (.int .i64 1)) h fun t11 h =>
  runD (binD T_int .add t1 (.int .i64 1)) h fun t14 h =>
  callW false c (.fn (.func 146) [] []) [t0, t11, t1, t14, t2, t3] h (fun t17 h =>
  K (.ret t17) h)
  (fun v h => K (.pan v) h)
theorem aR.eq (F : List (FuncId × aD)) (S : List (FuncId × Con)) (t0 t1 t2 t3 : AV) (h : List AObj) (K : AOut → List AObj → Prop) : funW (ctx F S aR.loops) Tryz.f127 [t0, t1, t2, t3] h K = aR.H (ctx F S aR.loops) t0 t1 t2 t3 h K := by kernel_rfl
theorem aO.eq (F : List (FuncId × aD)) (S : List (FuncId × Con)) (t0 t1 t2 t3 : AV) (h : List AObj) (K : AOut → List AObj → Prop) : funW (ctx F S aO.loops) Tryz.f128 [t0, t1, t2, t3] h K = aO.H (ctx F S aO.loops) t0 t1 t2 t3 h K := by kernel_rfl
theorem aP.eq (F : List (FuncId × aD)) (S : List (FuncId × Con)) (t0 t1 t2 t3 : AV) (h : List AObj) (K : AOut → List AObj → Prop) : funW (ctx F S aP.loops) Tryz.f130 [t0, t1, t2, t3] h K = aP.H (ctx F S aP.loops) t0 t1 t2 t3 h K := by kernel_rfl
theorem aU.eq (F : List (FuncId × aD)) (S : List (FuncId × Con)) (t0 t1 t2 t3 t4 : AV) (h : List AObj) (K : AOut → List AObj → Prop) : funW (ctx F S aU.loops) Tryz.f142 [t0, t1, t2, t3, t4] h K = aU.H (ctx F S aU.loops) t0 t1 t2 t3 t4 h K := by kernel_rfl
theorem bR.eq (F : List (FuncId × aD)) (S : List (FuncId × Con)) (t0 : AV) (h : List AObj) (K : AOut → List AObj → Prop) : funW (ctx F S bR.loops) Tryz.f143 [t0] h K = bR.H (ctx F S bR.loops) t0 h K := by kernel_rfl
theorem bO.eq (F : List (FuncId × aD)) (S : List (FuncId × Con)) (t0 : AV) (h : List AObj) (K : AOut → List AObj → Prop) : funW (ctx F S bO.loops) Tryz.f144 [t0] h K = bO.H (ctx F S bO.loops) t0 h K := by kernel_rfl
theorem aQ.eq (F : List (FuncId × aD)) (S : List (FuncId × Con)) (t0 t1 t2 t3 : AV) (h : List AObj) (K : AOut → List AObj → Prop) : funW (ctx F S aQ.loops) Tryz.f145 [t0, t1, t2, t3] h K = aQ.H (ctx F S aQ.loops) t0 t1 t2 t3 h K := by kernel_rfl
theorem aR.at : Tryz.prog.funcs[127]? = some Tryz.f127 := by kernel_rfl
theorem aR.nm : (Tryz.f127.name == "runtime.NumGoroutine") = false := by kernel_rfl
theorem aR.bd : Tryz.f127.body.isNone = false := by kernel_rfl
theorem aO.at : Tryz.prog.funcs[128]? = some Tryz.f128 := by kernel_rfl
theorem aO.nm : (Tryz.f128.name == "runtime.NumGoroutine") = false := by kernel_rfl
theorem aO.bd : Tryz.f128.body.isNone = false := by kernel_rfl
theorem aP.at : Tryz.prog.funcs[130]? = some Tryz.f130 := by kernel_rfl
theorem aP.nm : (Tryz.f130.name == "runtime.NumGoroutine") = false := by kernel_rfl
theorem aP.bd : Tryz.f130.body.isNone = false := by kernel_rfl
theorem aU.at : Tryz.prog.funcs[142]? = some Tryz.f142 := by kernel_rfl
theorem aU.nm : (Tryz.f142.name == "runtime.NumGoroutine") = false := by kernel_rfl
theorem aU.bd : Tryz.f142.body.isNone = false := by kernel_rfl
theorem bR.at : Tryz.prog.funcs[143]? = some Tryz.f143 := by kernel_rfl
theorem bR.nm : (Tryz.f143.name == "runtime.NumGoroutine") = false := by kernel_rfl
theorem bR.bd : Tryz.f143.body.isNone = false := by kernel_rfl
theorem bO.at : Tryz.prog.funcs[144]? = some Tryz.f144 := by kernel_rfl
theorem bO.nm : (Tryz.f144.name == "runtime.NumGoroutine") = false := by kernel_rfl
theorem bO.bd : Tryz.f144.body.isNone = false := by kernel_rfl
theorem aQ.at : Tryz.prog.funcs[145]? = some Tryz.f145 := by kernel_rfl
theorem aQ.nm : (Tryz.f145.name == "runtime.NumGoroutine") = false := by kernel_rfl
theorem aQ.bd : Tryz.f145.body.isNone = false := by kernel_rfl
end Lam
namespace Lam
open Go Go.Proofs
set_option linter.unusedVariables false
def cB.loops : Nat → LInfo
  | _ => ⟨[], [], [], [], [], []⟩
def cB.H (c : Ctx) (t0 : AV) (t1 : AV) (h : List AObj) (K : AOut → List AObj → Prop) : Prop :=
  callW false c (.fn (.func 121) [] []) [t0] h (fun t8 h =>
  callW false c (.fn (.func 121) [] []) [t1] h (fun t10 h =>
  condW t8
  (condW t10
    (K (.ret (.int .i64 0)) h)
    (K (.ret (.int .i64 (-1))) h))
  (condW t10
  (K (.ret (.int .i64 1)) h)
  (runD (binD bN .lss t0 t1) h fun t16 h =>
  condW t16
  (K (.ret (.int .i64 (-1))) h)
  (runD (binD bN .gtr t0 t1) h fun t19 h =>
  condW t19
  (K (.ret (.int .i64 1)) h)
  (K (.ret (.int .i64 0)) h)))))
  (fun v h => K (.pan v) h))
  (fun v h => K (.pan v) h)
def cL.loops : Nat → LInfo
  | _ => ⟨[], [], [], [], [], []⟩
def cL.H (c : Ctx) (t0 : AV) (h : List AObj) (K : AOut → List AObj → Prop) : Prop :=
  runD (binD bN .neq t0 t0) h fun t5 h =>
  K (.ret t5) h
theorem cB.eq (F : List (FuncId × aD)) (S : List (FuncId × Con)) (t0 t1 : AV) (h : List AObj) (K : AOut → List AObj → Prop) : funW (ctx F S cB.loops) Tryz.f110 [t0, t1] h K = cB.H (ctx F S cB.loops) t0 t1 h K := by kernel_rfl
theorem cL.eq (F : List (FuncId × aD)) (S : List (FuncId × Con)) (t0 : AV) (h : List AObj) (K : AOut → List AObj → Prop) : funW (ctx F S cL.loops) Tryz.f121 [t0] h K = cL.H (ctx F S cL.loops) t0 h K := by kernel_rfl
theorem cB.at : Tryz.prog.funcs[110]? = some Tryz.f110 := by kernel_rfl
theorem cB.nm : (Tryz.f110.name == "runtime.NumGoroutine") = false := by kernel_rfl
theorem cB.bd : Tryz.f110.body.isNone = false := by kernel_rfl
theorem cL.at : Tryz.prog.funcs[121]? = some Tryz.f121 := by kernel_rfl
theorem cL.nm : (Tryz.f121.name == "runtime.NumGoroutine") = false := by kernel_rfl
theorem cL.bd : Tryz.f121.body.isNone = false := by kernel_rfl
end Lam
namespace Lam
open Go Go.Proofs
set_option linter.unusedVariables false
def cM.loops : Nat → LInfo
  | _ => ⟨[], [], [], [], [], []⟩
def cM.H (c : Ctx) (t0 : AV) (h : List AObj) (K : AOut → List AObj → Prop) : Prop :=
  condW (.bool false)
  (runD (convD h T_uint gE t0) h fun t4 h =>
    callW false c (.fn (.func 134) [] []) [t4] h (fun t5 h =>
    K (.ret t5) h)
    (fun v h => K (.pan v) h))
  (callW false c (.fn (.func 135) [] []) [t0] h (fun t7 h =>
  K (.ret t7) h)
  (fun v h => K (.pan v) h))
def cV.loops : Nat → LInfo
  | _ => ⟨[], [], [], [], [], []⟩
def cV.H (c : Ctx) (t0 : AV) (h : List AObj) (K : AOut → List AObj → Prop) : Prop :=
  runD (binD gN .geq t0 (.int .u64 4294967296)) h fun t4 h =>
  joinW (fun (J1 : AV → AV → List AObj → Prop) =>
  condW t4
  (runD (binD gN .shr t0 (.int .u64 32)) h fun t6 h =>
    J1 t6 (.int .i64 32) h)
  (J1 t0 (.int .i64 0) h))
  (fun t0 t2 h => runD (binD gN .geq t0 (.int .u64 65536)) h fun t8 h =>
  joinW (fun (J2 : AV → AV → List AObj → Prop) =>
  condW t8
  (runD (binD gN .shr t0 (.int .u64 16)) h fun t10 h =>
    runD (binD T_int .add t2 (.int .i64 16)) h fun t12 h =>
    J2 t10 t12 h)
  (J2 t0 t2 h))
  (fun t0 t2 h => runD (binD gN .geq t0 (.int .u64 256)) h fun t14 h =>
  joinW (fun (J3 : AV → AV → List AObj → Prop) =>
  condW t14
  (runD (binD gN .shr t0 (.int .u64 8)) h fun t16 h =>
    runD (binD T_int .add t2 (.int .i64 8)) h fun t18 h =>
    J3 t16 t18 h)
  (J3 t0 t2 h))
  (fun t0 t2 h => runD (convD h gN T_uint8 t0) h fun t21 h =>
  runD (indexD bN (.str [0, 1, 2, 2, 3, 3, 3, 3, 4, 4, 4, 4, 4, 4, 4, 4, 5, 5, 5, 5, 5, 5, 5, 5, 5, 5, 5, 5, 5, 5, 5, 5, 6, 6, 6, 6, 6, 6, 6, 6, 6, 6, 6, 6, 6, 6, 6, 6, 6, 6, 6, 6, 6, 6, 6, 6, 6, 6, 6, 6, 6, 6, 6, 6, 7, 7, 7, 7, 7, 7, 7, 7, 7, 7, 7, 7, 7, 7, 7, 7, 7, 7, 7, 7, 7, 7, 7, 7, 7, 7, 7, 7, 7, 7, 7, 7, 7, 7, 7, 7, 7, 7, 7, 7, 7, 7, 7, 7, 7, 7, 7, 7, 7, 7, 7, 7, 7, 7, 7, 7, 7, 7, 7, 7, 7, 7, 7, 7, 8, 8, 8, 8, 8, 8, 8, 8, 8, 8, 8, 8, 8, 8, 8, 8, 8, 8, 8, 8, 8, 8, 8, 8, 8, 8, 8, 8, 8, 8, 8, 8, 8, 8, 8, 8, 8, 8, 8, 8, 8, 8, 8, 8, 8, 8, 8, 8, 8, 8, 8, 8, 8, 8, 8, 8, 8, 8, 8, 8, 8, 8, 8, 8, 8, 8, 8, 8, 8, 8, 8, 8, 8, 8, 8, 8, 8, 8, 8, 8, 8, 8, 8, 8, 8, 8, 8, 8, 8, 8, 8, 8, 8, 8, 8, 8, 8, 8, 8, 8, 8, 8, 8, 8, 8, 8, 8, 8, 8, 8, 8, 8, 8, 8, 8, 8, 8, 8, 8, 8, 8, 8, 8, 8, 8, 8, 8, 8]) t21) h fun t22 h =>
  runD (convD h T_uint8 T_int t22) h fun t23 h =>
  runD (binD T_int .add t2 t23) h fun t24 h =>
  K (.ret t24) h)))
theorem cM.eq (F : List (FuncId × aD)) (S : List (FuncId × Con)) (t0 : AV) (h : List AObj) (K : AOut → List AObj → Prop) : funW (ctx F S cM.loops) Tryz.f120 [t0] h K = cM.H (ctx F S cM.loops) t0 h K := by kernel_rfl
theorem cV.eq (F : List (FuncId × aD)) (S : List (FuncId × Con)) (t0 : AV) (h : List AObj) (K : AOut → List AObj → Prop) : funW (ctx F S cV.loops) Tryz.f135 [t0] h K = cV.H (ctx F S cV.loops) t0 h K := by kernel_rfl
theorem cM.at : Tryz.prog.funcs[120]? = some Tryz.f120 := by kernel_rfl
theorem cM.nm : (Tryz.f120.name == "runtime.NumGoroutine") = false := by kernel_rfl
theorem cM.bd : Tryz.f120.body.isNone = false := by kernel_rfl
theorem cV.at : Tryz.prog.funcs[135]? = some Tryz.f135 := by kernel_rfl
theorem cV.nm : (Tryz.f135.name == "runtime.NumGoroutine") = false := by kernel_rfl
theorem cV.bd : Tryz.f135.body.isNone = false := by kernel_rfl
end Lam
namespace Lam
open Go Go.Proofs
set_option linter.unusedVariables false
def eK.loops : Nat → LInfo
  | 2 => ⟨[], [], [], [(3, none), (2, some [17, 19])], [], []⟩
  | _ => ⟨[], [], [], [], [], []⟩
def eK.H (c : Ctx) (t0 : AV) (t1 : AV) (h : List AObj) (K : AOut → List AObj → Prop) : Prop :=
  allocW bC h fun t4 h =>
  callW false c (.fn (.func 46) [] []) [t0, t1] h (fun t12 h =>
  runD (bH t12 0) h fun t13 h =>
  runD (bH t12 1) h fun t14 h =>
  allocW bD h fun t6 h =>
  runH (storeH bD h t6 t13) h fun _ h =>
  runD (binD dA .neq t14 (.int .i64 0)) h fun t16 h =>
  joinW (fun (J1 : AV → AV → List AObj → Prop) =>
  guardW t16 false
  (runD (binD T_int .geq t1 (.int .i64 256)) h fun t19 h =>
    J1 (.bool false) t19 h)
  (J1 (.bool true) .und h))
  (fun t17 t19 h => runD (pickD t17 (.bool true) t19) h fun t20 h =>
  condW t20
  (runD (buildD bC []) h fun t21 h =>
    runH (storeH bC h t4 t21) h fun _ h =>
    loadRes (fitD bC (loadD h t4)) fun r0 => K (.ret (.tup [r0, (.int .i64 90)])) h)
  (runD (aB bD t6 1) h fun t23 h =>
  runD (fitD T_int (loadD h t23)) h fun t24 h =>
  runD (buildD bC [(0, t1), (1, t24)]) h fun t25 h =>
  allocW bC h fun t8 h =>
  runH (storeH bC h t8 t25) h fun _ h =>
  runD (fitD bC (loadD h t8)) h fun t26 h =>
  callW false c (.fn (.func 67) [] []) [t26] h (fun t27 h =>
  joinW (fun (J2 : List AObj → Prop) =>
  condW t27
  (runD (aB bC t8 2) h fun t28 h =>
    runH (storeH T_int h t28 (.int .i64 12)) h fun _ h =>
    J2 h)
  (J2 h))
  (fun h => runD (fitD bC (loadD h t8)) h fun t29 h =>
  runH (storeH bC h t4 t29) h fun _ h =>
  loadRes (fitD bC (loadD h t4)) fun r0 => K (.ret (.tup [r0, (.int .i64 0)])) h))
  (fun v h => K (.pan v) h))))
  (fun v h => K (.pan v) h)
def fA.loops : Nat → LInfo
  | 2 => ⟨[], [], [], [(4, none), (3, some [12, 15]), (2, none), (6, some [17, 23])], [], []⟩
  | 4 => ⟨[], [], [], [(3, none), (2, some [33, 35])], [], []⟩
  | _ => ⟨[], [], [], [], [], []⟩
def fA.H (c : Ctx) (t0 : AV) (t1 : AV) (h : List AObj) (K : AOut → List AObj → Prop) : Prop :=
  boxW bC t1 h fun t3 h =>
  allocW bC h fun t4 h =>
  runD (aB bC t3 0) h fun t9 h =>
  runD (fitD T_int (loadD h t9)) h fun t10 h =>
  runD (binD T_int .geq t10 (.int .i64 0)) h fun t11 h =>
  joinW (fun (J1 : AV → AV → List AObj → Prop) =>
  guardW t11 true
  (runD (aB bC t3 0) h fun t13 h =>
    runD (fitD T_int (loadD h t13)) h fun t14 h =>
    runD (binD T_int .lss t14 (.int .i64 256)) h fun t15 h =>
    J1 (.bool true) t15 h)
  (J1 (.bool false) .und h))
  (fun t12 t15 h => runD (pickD t12 t15 (.bool false)) h fun t16 h =>
  joinW (fun (J2 : AV → AV → List AObj → Prop) =>
  guardW t16 true
  (runD (aB bC t3 0) h fun t18 h =>
    runD (fitD T_int (loadD h t18)) h fun t19 h =>
    runD (lenD aI h t0) h fun t21 h =>
    runD (binD T_int .quo t21 (.int .i64 16)) h fun t22 h =>
    runD (binD T_int .lss t19 t22) h fun t23 h =>
    J2 (.bool true) t23 h)
  (J2 (.bool false) .und h))
  (fun t17 t23 h => runD (pickD t17 t23 (.bool false)) h fun t24 h =>
  joinW (fun (J3 : AV → List AObj → Prop) =>
  condW t24
  (runD (aB bC t3 0) h fun t25 h =>
    runD (fitD T_int (loadD h t25)) h fun t26 h =>
    runD (binD T_int .mul (.int .i64 16) t26) h fun t27 h =>
    runD (aB bC t3 2) h fun t28 h =>
    runD (fitD T_int (loadD h t28)) h fun t29 h =>
    callW false c (.fn (.func 68) [] []) [t27, t29] h (fun t30 h =>
    J3 t30 h)
    (fun v h => K (.pan v) h))
  (J3 (.int .i64 (-1)) h))
  (fun t5 h => runD (aB bC t3 4) h fun t31 h =>
  runD (fitD T_bool (loadD h t31)) h fun t32 h =>
  joinW (fun (J4 : AV → AV → List AObj → Prop) =>
  guardW t32 false
  (runD (binD T_int .lss t5 (.int .i64 0)) h fun t35 h =>
    J4 (.bool false) t35 h)
  (J4 (.bool true) .und h))
  (fun t33 t35 h => runD (pickD t33 (.bool true) t35) h fun t36 h =>
  condW t36
  (runD (fitD bC (loadD h t3)) h fun t37 h =>
    runH (storeH bC h t4 t37) h fun _ h =>
    loadRes (fitD bC (loadD h t4)) fun r0 => K (.ret r0) h)
  (runD (fitD bC (loadD h t3)) h fun t38 h =>
  runD (aF aI h t0 t5) h fun t41 h =>
  runD (fitD T_int (loadD h t41)) h fun t42 h =>
  runD (buildD dT [(0, t38), (1, t42)]) h fun t43 h =>
  boxW dT t43 h fun t44 h =>
  runD (aB bC t3 3) h fun t46 h =>
  runD (fitD aI (loadD h t46)) h fun t47 h =>
  callW false c (.fn (.func 34) [] []) [t47] h (fun t48 h =>
  runD (aY t44) h fun t49 h =>
  runD (aB dT t49 0) h fun t50 h =>
  runD (aB bC t50 3) h fun t51 h =>
  runH (storeH aI h t51 t48) h fun _ h =>
  runD (aB bC t3 3) h fun t52 h =>
  runD (fitD aI (loadD h t52)) h fun t53 h =>
  runD (lenD aI h t53) h fun t54 h =>
  runD (aY t44) h fun t56 h =>
  runD (aB dT t56 1) h fun t57 h =>
  runD (fitD T_int (loadD h t57)) h fun t58 h =>
  runD (binD T_int .gtr t58 (.int .i64 0)) h fun t59 h =>
  joinW (fun (J5 : AV → AV → List AObj → Prop) =>
  guardW t59 true
  (runD (binD T_int .eql t54 (.int .i64 0)) h fun t62 h =>
    joinW (fun (J6 : AV → AV → List AObj → Prop) =>
    guardW t62 false
    (runD (aB bC t3 3) h fun t64 h =>
      runD (fitD aI (loadD h t64)) h fun t65 h =>
      runD (binD T_int .sub t54 (.int .i64 1)) h fun t67 h =>
      runD (aF aI h t65 t67) h fun t68 h =>
      runD (fitD T_int (loadD h t68)) h fun t69 h =>
      runD (aY t44) h fun t71 h =>
      runD (aB dT t71 1) h fun t72 h =>
      runD (fitD T_int (loadD h t72)) h fun t73 h =>
      runD (binD T_int .neq t69 t73) h fun t74 h =>
      J6 (.bool false) t74 h)
    (J6 (.bool true) .und h))
    (fun t63 t74 h => runD (pickD t63 (.bool true) t74) h fun t75 h =>
    J5 (.bool true) t75 h))
  (J5 (.bool false) .und h))
  (fun t60 t75 h => runD (pickD t60 t75 (.bool false)) h fun t76 h =>
  joinW (fun (J7 : List AObj → Prop) =>
  condW t76
  (runD (aY t44) h fun t79 h =>
    runD (aB dT t79 0) h fun t80 h =>
    runD (aB bC t80 3) h fun t81 h =>
    runD (fitD aI (loadD h t81)) h fun t82 h =>
    runD (aY t44) h fun t84 h =>
    runD (aB dT t84 1) h fun t85 h =>
    runD (fitD T_int (loadD h t85)) h fun t86 h =>
    runD (fB aI 1 [(0, t86)] h.length) h fun t87 h =>
    runDM (appendD aI h t82 t87 h.length) (appendH aI h t82 t87) h fun t88 h =>
    runD (aY t44) h fun t89 h =>
    runD (aB dT t89 0) h fun t90 h =>
    runD (aB bC t90 3) h fun t91 h =>
    runH (storeH aI h t91 t88) h fun _ h =>
    J7 h)
  (J7 h))
  (fun h => runD (fitD bC (loadD h t3)) h fun t94 h =>
  callW false c (.fn (.func 67) [] []) [t94] h (fun t95 h =>
  joinW (fun (J8 : AV → List AObj → Prop) =>
  condW t95
  (J8 (.fn (.func 70) [t44] []) h)
  (J8 (.fn (.func 69) [t44] []) h))
  (fun t8 h => callW false c t8 [] h (fun t99 h =>
  runD (aY t44) h fun t101 h =>
  runD (aB dT t101 0) h fun t102 h =>
  runD (fitD bC (loadD h t102)) h fun t103 h =>
  runH (storeH bC h t4 t103) h fun _ h =>
  loadRes (fitD bC (loadD h t4)) fun r0 => K (.ret r0) h)
  (fun v h => K (.pan v) h)))
  (fun v h => K (.pan v) h))))
  (fun v h => K (.pan v) h))))))
def dJ.loops : Nat → LInfo
  | _ => ⟨[], [], [], [], [], []⟩
def dJ.H (c : Ctx) (t0 : AV) (h : List AObj) (K : AOut → List AObj → Prop) : Prop :=
  boxW bC t0 h fun t1 h =>
  runD (aB bC t1 1) h fun t3 h =>
  runD (fitD T_int (loadD h t3)) h fun t4 h =>
  runD (binD T_int .and t4 (.int .i64 1)) h fun t5 h =>
  runD (binD T_int .eql t5 (.int .i64 1)) h fun t6 h =>
  K (.ret t6) h
def cJ.loops : Nat → LInfo
  | 0 => ⟨[], [], [], [(7, none), (6, some [8, 14])], [], []⟩
  | _ => ⟨[], [], [], [], [], []⟩
def cJ.H (c : Ctx) (t0 : AV) (h : List AObj) (K : AOut → List AObj → Prop) : Prop :=
  runD (aY t0) h fun t4 h =>
  runD (aB dT t4 1) h fun t5 h =>
  runD (fitD T_int (loadD h t5)) h fun t6 h =>
  runD (binD T_int .lss t6 (.int .i64 1)) h fun t7 h =>
  joinW (fun (J1 : AV → AV → List AObj → Prop) =>
  guardW t7 false
  (runD (aY t0) h fun t10 h =>
    runD (aB dT t10 0) h fun t11 h =>
    runD (aB bC t11 2) h fun t12 h =>
    runD (fitD T_int (loadD h t12)) h fun t13 h =>
    runD (binD T_int .eql t13 (.int .i64 12)) h fun t14 h =>
    J1 (.bool false) t14 h)
  (J1 (.bool true) .und h))
  (fun t8 t14 h => runD (pickD t8 (.bool true) t14) h fun t15 h =>
  runD (aY t0) h fun t16 h =>
  runD (aB dT t16 0) h fun t17 h =>
  runD (aB bC t17 4) h fun t18 h =>
  runH (storeH T_bool h t18 t15) h fun _ h =>
  runD (aY t0) h fun t20 h =>
  runD (aB dT t20 0) h fun t21 h =>
  runD (aB bC t21 4) h fun t22 h =>
  runD (fitD T_bool (loadD h t22)) h fun t23 h =>
  runD (unD .not t23) h fun t24 h =>
  joinW (fun (J2 : List AObj → Prop) =>
  condW t24
  (runD (aY t0) h fun t26 h =>
    runD (aB dT t26 0) h fun t27 h =>
    runD (aB bC t27 2) h fun t28 h =>
    runD (fitD T_int (loadD h t28)) h fun t29 h =>
    runD (binD T_int .add t29 (.int .i64 1)) h fun t30 h =>
    runD (aY t0) h fun t31 h =>
    runD (aB dT t31 0) h fun t32 h =>
    runD (aB bC t32 2) h fun t33 h =>
    runH (storeH T_int h t33 t30) h fun _ h =>
    J2 h)
  (J2 h))
  (fun h => K (.ret (.tup [])) h))
def bX.loops : Nat → LInfo
  | _ => ⟨[], [], [], [], [], []⟩
def bX.H (c : Ctx) (t0 : AV) (h : List AObj) (K : AOut → List AObj → Prop) : Prop :=
  runD (aY t0) h fun t4 h =>
  runD (aB dT t4 0) h fun t5 h =>
  runD (aB bC t5 2) h fun t6 h =>
  runD (fitD T_int (loadD h t6)) h fun t7 h =>
  runD (binD T_int .eql t7 (.int .i64 0)) h fun t8 h =>
  runD (aY t0) h fun t9 h =>
  runD (aB dT t9 0) h fun t10 h =>
  runD (aB bC t10 4) h fun t11 h =>
  runH (storeH T_bool h t11 t8) h fun _ h =>
  runD (aY t0) h fun t13 h =>
  runD (aB dT t13 0) h fun t14 h =>
  runD (aB bC t14 4) h fun t15 h =>
  runD (fitD T_bool (loadD h t15)) h fun t16 h =>
  runD (unD .not t16) h fun t17 h =>
  joinW (fun (J1 : List AObj → Prop) =>
  condW t17
  (runD (aY t0) h fun t19 h =>
    runD (aB dT t19 0) h fun t20 h =>
    runD (aB bC t20 2) h fun t21 h =>
    runD (fitD T_int (loadD h t21)) h fun t22 h =>
    runD (binD T_int .sub t22 (.int .i64 1)) h fun t23 h =>
    runD (aY t0) h fun t24 h =>
    runD (aB dT t24 0) h fun t25 h =>
    runD (aB bC t25 2) h fun t26 h =>
    runH (storeH T_int h t26 t23) h fun _ h =>
    J1 h)
  (J1 h))
  (fun h => K (.ret (.tup [])) h)
def eL.loops : Nat → LInfo
  | 2 => ⟨[], [], [], [(3, none), (5, some [16, 21])], [], []⟩
  | _ => ⟨[], [], [], [], [], []⟩
def eL.H (c : Ctx) (t0 : AV) (t1 : AV) (h : List AObj) (K : AOut → List AObj → Prop) : Prop :=
  boxW bC t1 h fun t3 h =>
  runD (aB bC t3 0) h fun t9 h =>
  runD (fitD T_int (loadD h t9)) h fun t10 h =>
  callW false c (.fn (.func 46) [] []) [t0, t10] h (fun t11 h =>
  runD (bH t11 0) h fun t12 h =>
  runD (bH t11 1) h fun t13 h =>
  allocW bD h fun t5 h =>
  runH (storeH bD h t5 t12) h fun _ h =>
  runD (binD dA .eql t13 (.int .i64 0)) h fun t15 h =>
  joinW (fun (J1 : AV → AV → List AObj → Prop) =>
  guardW t15 true
  (runD (aB bD t5 1) h fun t17 h =>
    runD (fitD T_int (loadD h t17)) h fun t18 h =>
    runD (aB bC t3 1) h fun t19 h =>
    runD (fitD T_int (loadD h t19)) h fun t20 h =>
    runD (binD T_int .eql t18 t20) h fun t21 h =>
    J1 (.bool true) t21 h)
  (J1 (.bool false) .und h))
  (fun t16 t21 h => runD (pickD t16 t21 (.bool false)) h fun t22 h =>
  K (.ret t22) h))
  (fun v h => K (.pan v) h)
def eN.loops : Nat → LInfo
  | 3 => ⟨[4, 14], [true, false], [0, 5, 12, 13], [], [], []⟩
  | 6 => ⟨[], [], [], [(3, none), (5, some [26, 31])], [], []⟩
  | _ => ⟨[], [], [], [], [], []⟩
def eN.L1 (c : Ctx) (J1 : AV → List AObj → Prop) (K : AOut → List AObj → Prop) (lv : List AV) (h0 : List AObj) (n0 : Nat) (c0 : AV) (c5 : AV) (c12 : AV) (c13 : AV) : Prop :=
  ∃ I : Nat → List AV → List AObj → Prop, (∃ n, I n lv h0) ∧ ∀ n h, ∀ t4, ∀ t14, I n [t4, t14] h →
    runD (binD T_int .lss t14 c13) h fun t15 h =>
    condW t15
    (runD (aF aI h c12 t14) h fun t16 h =>
    runD (fitD T_int (loadD h t16)) h fun t17 h =>
    callW false c (.fn (.func 79) [] []) [c0, t17] h (fun t21 h =>
    runD (bH t21 0) h fun t22 h =>
    runD (bH t21 1) h fun t23 h =>
    allocW aG h fun t8 h =>
    runH (storeH aG h t8 t22) h fun _ h =>
    runD (binD dA .eql t23 (.int .i64 0)) h fun t25 h =>
    joinW (fun (J2 : AV → AV → List AObj → Prop) =>
    guardW t25 true
    (runD (aB aG t8 1) h fun t28 h =>
      runD (fitD bN (loadD h t28)) h fun t29 h =>
      runD (lookupD gO h c5 t29) h fun t30 h =>
      runD (unD .not t30) h fun t31 h =>
      J2 (.bool true) t31 h)
    (J2 (.bool false) .und h))
    (fun t26 t31 h => runD (pickD t26 t31 (.bool false)) h fun t32 h =>
    joinW (fun (J3 : AV → List AObj → Prop) =>
    condW t32
    (runD (aB aG t8 1) h fun t34 h =>
      runD (fitD bN (loadD h t34)) h fun t35 h =>
      runH (mapSetH gO h c5 t35 (.bool true)) h fun _ h =>
      runD (fitD aG (loadD h t8)) h fun t37 h =>
      runD (fB aM 1 [(0, t37)] h.length) h fun t38 h =>
      runDM (appendD aM h t4 t38 h.length) (appendH aM h t4 t38) h fun t39 h =>
      J3 t39 h)
    (J3 t4 h))
    (fun t4 h => runD (binD T_int .add t14 (.int .i64 1)) h fun t40 h =>
    (∃ m, m < n ∧ I m (AV.norms n0 h [t4, t40]) (normH n0 h)) ∧ AV.norms n0 h [c0, c5, c12, c13] = [c0, c5, c12, c13])))
    (fun v h => K (.pan v) h))
    (J1 t4 h)
def eN.H (c : Ctx) (t0 : AV) (t1 : AV) (h : List AObj) (K : AOut → List AObj → Prop) : Prop :=
  boxW bC t1 h fun t3 h =>
  runD (gG gO h.length) h fun t10 h =>
  runD (aB bC t3 3) h fun t11 h =>
  runD (fitD aI (loadD h t11)) h fun t12 h =>
  runD (lenD aI h t12) h fun t13 h =>
  joinW (fun (J1 : AV → List AObj → Prop) =>
  promV [true, false] [(.sl true (.recs [])), (.int .i64 0)] h fun lv h => eN.L1 c J1 K (AV.norms h.length h lv) (normH h.length h) h.length (AV.norm h.length h t0) (AV.norm h.length h t10) (AV.norm h.length h t12) (AV.norm h.length h t13))
  (fun t4 h => callW false c (.fn (.func 108) [] []) [t4, (.fn (.func 109) [] [])] h (fun t42 h =>
  K (.ret t4) h)
  (fun v h => K (.pan v) h))
def bK.loops : Nat → LInfo
  | _ => ⟨[], [], [], [], [], []⟩
def bK.H (c : Ctx) (t0 : AV) (t1 : AV) (h : List AObj) (K : AOut → List AObj → Prop) : Prop :=
  boxW aG t0 h fun t2 h =>
  boxW aG t1 h fun t3 h =>
  runD (aB aG t2 1) h fun t5 h =>
  runD (fitD bN (loadD h t5)) h fun t6 h =>
  runD (aB aG t3 1) h fun t7 h =>
  runD (fitD bN (loadD h t7)) h fun t8 h =>
  callW false c (.fn (.func 110) [] []) [t6, t8] h (fun t9 h =>
  K (.ret t9) h)
  (fun v h => K (.pan v) h)
theorem eK.eq (F : List (FuncId × aD)) (S : List (FuncId × Con)) (t0 t1 : AV) (h : List AObj) (K : AOut → List AObj → Prop) : funW (ctx F S eK.loops) Tryz.f40 [t0, t1] h K = eK.H (ctx F S eK.loops) t0 t1 h K := by kernel_rfl
theorem fA.eq (F : List (FuncId × aD)) (S : List (FuncId × Con)) (t0 t1 : AV) (h : List AObj) (K : AOut → List AObj → Prop) : funW (ctx F S fA.loops) Tryz.f41 [t0, t1] h K = fA.H (ctx F S fA.loops) t0 t1 h K := by kernel_rfl
theorem dJ.eq (F : List (FuncId × aD)) (S : List (FuncId × Con)) (t0 : AV) (h : List AObj) (K : AOut → List AObj → Prop) : funW (ctx F S dJ.loops) Tryz.f67 [t0] h K = dJ.H (ctx F S dJ.loops) t0 h K := by kernel_rfl
theorem cJ.eq (F : List (FuncId × aD)) (S : List (FuncId × Con)) (t0 : AV) (h : List AObj) (K : AOut → List AObj → Prop) : funW (ctx F S cJ.loops) Tryz.f69 [t0] h K = cJ.H (ctx F S cJ.loops) t0 h K := by kernel_rfl
theorem bX.eq (F : List (FuncId × aD)) (S : List (FuncId × Con)) (t0 : AV) (h : List AObj) (K : AOut → List AObj → Prop) : funW (ctx F S bX.loops) Tryz.f70 [t0] h K = bX.H (ctx F S bX.loops) t0 h K := by kernel_rfl
theorem eL.eq (F : List (FuncId × aD)) (S : List (FuncId × Con)) (t0 t1 : AV) (h : List AObj) (K : AOut → List AObj → Prop) : funW (ctx F S eL.loops) Tryz.f71 [t0, t1] h K = eL.H (ctx F S eL.loops) t0 t1 h K := by kernel_rfl
theorem eN.eq (F : List (FuncId × aD)) (S : List (FuncId × Con)) (t0 t1 : AV) (h : List AObj) (K : AOut → List AObj → Prop) : funW (ctx F S eN.loops) Tryz.f89 [t0, t1] h K = eN.H (ctx F S eN.loops) t0 t1 h K := by kernel_rfl
theorem bK.eq (F : List (FuncId × aD)) (S : List (FuncId × Con)) (t0 t1 : AV) (h : List AObj) (K : AOut → List AObj → Prop) : funW (ctx F S bK.loops) Tryz.f109 [t0, t1] h K = bK.H (ctx F S bK.loops) t0 t1 h K := by kernel_rfl
theorem eK.at : Tryz.prog.funcs[40]? = some Tryz.f40 := by kernel_rfl
theorem eK.nm : (Tryz.f40.name == "runtime.NumGoroutine") = false := by kernel_rfl
theorem eK.bd : Tryz.f40.body.isNone = false := by kernel_rfl
theorem fA.at : Tryz.prog.funcs[41]? = some Tryz.f41 := by kernel_rfl
theorem fA.nm : (Tryz.f41.name == "runtime.NumGoroutine") = false := by kernel_rfl
theorem fA.bd : Tryz.f41.body.isNone = false := by kernel_rfl
theorem dJ.at : Tryz.prog.funcs[67]? = some Tryz.f67 := by kernel_rfl
theorem dJ.nm : (Tryz.f67.name == "runtime.NumGoroutine") = false := by kernel_rfl
theorem dJ.bd : Tryz.f67.body.isNone = false := by kernel_rfl
theorem cJ.at : Tryz.prog.funcs[69]? = some Tryz.f69 := by kernel_rfl
theorem cJ.nm : (Tryz.f69.name == "runtime.NumGoroutine") = false := by kernel_rfl
theorem cJ.bd : Tryz.f69.body.isNone = false := by kernel_rfl
theorem bX.at : Tryz.prog.funcs[70]? = some Tryz.f70 := by kernel_rfl
theorem bX.nm : (Tryz.f70.name == "runtime.NumGoroutine") = false := by kernel_rfl
theorem bX.bd : Tryz.f70.body.isNone = false := by kernel_rfl
theorem eL.at : Tryz.prog.funcs[71]? = some Tryz.f71 := by kernel_rfl
theorem eL.nm : (Tryz.f71.name == "runtime.NumGoroutine") = false := by kernel_rfl
theorem eL.bd : Tryz.f71.body.isNone = false := by kernel_rfl
theorem eN.at : Tryz.prog.funcs[89]? = some Tryz.f89 := by kernel_rfl
theorem eN.nm : (Tryz.f89.name == "runtime.NumGoroutine") = false := by kernel_rfl
theorem eN.bd : Tryz.f89.body.isNone = false := by kernel_rfl
theorem bK.at : Tryz.prog.funcs[109]? = some Tryz.f109 := by kernel_rfl
theorem bK.nm : (Tryz.f109.name == "runtime.NumGoroutine") = false := by kernel_rfl
theorem bK.bd : Tryz.f109.body.isNone = false := by kernel_rfl
end Lam
namespace Lam
set_option maxRecDepth 20000
open Go Go.Proofs
set_option linter.unusedVariables false
set_option linter.unnecessarySimpa false
set_option linter.unusedSimpArgs false
def cmpI (a b : Bytes) : Int := if ltB a b = true then -1 else if ltB b a = true then 1 else 0
theorem fT {a b : Bytes} : (cmpI a b < 0) ↔ ltB a b = true := by
  unfold cmpI
  split
  · rename_i h; simp [h]
  · rename_i h
    split
    · simp [h]
    · simp [h]
def cL.C : aD
  | [.str _] => some (false, pD True (.bool false))
  | _ => none
set_option maxRecDepth 20000 in
theorem cL.spec : FSpec Tryz.prog 121 cL.C := by
  refine FSpec.of (ctx_ok (F := []) (S := []) (by simp) (by simp) cL.loops) cL.at cL.nm cL.bd ?_
  intro vs b S v news e hS
  unfold cL.C at e
  split at e
  rotate_left
  · cases e
  cases e
  rw [cL.eq]
  unfold cL.H
  simp (maxSteps := 4000000) only [go_sem, Nat.reduceEqDiff, Nat.reduceLT, Nat.reduceAdd, Nat.reduceSub, Nat.reduceLeDiff, List.reduceReplicate, Int.reduceToNat]
  exact aH rfl rfl
def cB.C : aD
  | [.str a, .str b] => some (false, pD True (.int .i64 (cmpI a b)))
  | _ => none
set_option maxRecDepth 20000 in
theorem cB.spec : FSpec Tryz.prog 110 cB.C := by
  refine FSpec.of (ctx_ok (F := [(121, cL.C)]) (S := []) (by simpa using cL.spec) (by simp) cB.loops) cB.at cB.nm cB.bd ?_
  intro vs b S v news e hS
  unfold cB.C at e
  split at e
  rotate_left
  · cases e
  cases e
  rw [cB.eq]
  unfold cB.H
  simp (maxSteps := 4000000) only [go_sem, Nat.reduceEqDiff, Nat.reduceLT, Nat.reduceAdd, Nat.reduceSub, Nat.reduceLeDiff, List.reduceReplicate, Int.reduceToNat, cL.C]
  rename_i a b
  unfold cmpI
  refine ⟨fun h => ?_, fun h => ⟨fun h2 => ?_, fun h2 => ?_⟩⟩
  · rw [h]; exact aH rfl rfl
  · rw [h, h2]; exact aH rfl rfl
  · rw [h, h2]; exact aH rfl rfl
def bK.C : aD
  | [.agg [.int .i64 a, .str b, .str c, .int .i64 d], .agg [.int .i64 e, .str f, .str g, .int .i64 i]] => some (false, pD True (.int .i64 (cmpI b f)))
  | _ => none
set_option maxRecDepth 20000 in
theorem bK.spec : FSpec Tryz.prog 109 bK.C := by
  refine FSpec.of (ctx_ok (F := [(110, cB.C)]) (S := []) (by simpa using cB.spec) (by simp) bK.loops) bK.at bK.nm bK.bd ?_
  intro vs b S v news e hS
  unfold bK.C at e
  split at e
  rotate_left
  · cases e
  cases e
  rw [bK.eq]
  unfold bK.H
  simp (maxSteps := 4000000) only [go_sem, Nat.reduceEqDiff, Nat.reduceLT, Nat.reduceAdd, Nat.reduceSub, Nat.reduceLeDiff, List.reduceReplicate, Int.reduceToNat, cB.C]
  exact aH rfl rfl
structure SkT where
  block : Int
  turn : Int
  at_ : Int
  refs : List Int
  over : Bool
def SkT.V (s : SkT) : AV := .agg [.int .i64 s.block, .int .i64 s.turn, .int .i64 s.at_, .sl false (.ints .i64 s.refs), .bool s.over]
theorem SkT.norm (s : SkT) (n : Nat) (h : List AObj) : AV.norm n h s.V = s.V := by simp only [SkT.V, go_sem, Nat.reduceEqDiff, Nat.reduceLT, Nat.reduceAdd, Nat.reduceSub, Nat.reduceLeDiff, List.reduceReplicate, Int.reduceToNat]
/-- the heap of one that sorts -/
def hpS (A : SkT) (m : Bytes → Bool) (v : Nat) (l : List RecT) (T : List AObj) : List AObj := .box A.V :: .map (.sb m) :: .row .own v (.recs l) :: T
/-- what is kept as it is -/
def OkT (T : List AObj) : Prop := ∀ k h, T.map (normO k h) = T
theorem OkT.nil : OkT [] := fun _ _ => rfl
theorem OkT.snoc {T : List AObj} (h : OkT T) (k : IntKind) (n : Int) : OkT (T ++ [.box (.int k n)]) := fun i g => by
  rw [List.map_append, h i g]; rfl
theorem jJ (T : List AObj) (y : AObj) : (T ++ [y])[T.length]? = some y := by simp
theorem nS : ∀ (T : List AObj) (y z : AObj), (T ++ [y]).set T.length z = T ++ [z]
  | [], _, _ => rfl
  | a :: T, y, z => congrArg (a :: ·) (nS T y z)
abbrev hitF : AV := .fn (.func 109) [] []
theorem d0_def : (⟨0, [], [], 0⟩ : RecT) = d0 := rfl
theorem rec_eta (l : List RecT) (i : Nat) : (⟨(l.getD i d0).kind, kyL l i, (l.getD i d0).val, (l.getD i d0).child⟩ : RecT) = l.getD i d0 := rfl
theorem kyL_def (l : List RecT) (i : Nat) : (l.getD i d0).key = kyL l i := rfl
theorem fM (l : List RecT) (i j : Nat) : (l.set i (l.getD j d0)).set j (l.getD i d0) = swapL l i j := rfl
def bE.K : Con := fun args h K => match args with
  | [a0, a1, a2, a3, a4] => bE.H (ctx [(109, bK.C)] [] bE.loops) a0 a1 a2 a3 a4 h K
  | _ => False
theorem bE.spec : SSpec Tryz.prog 151 bE.K := by
  refine SSpec.of (ctx_ok (F := [(109, bK.C)]) (S := []) (by simpa using bK.spec) (by simp) bE.loops) bE.at bE.nm bE.bd ?_
  intro args h K hC
  unfold bE.K at hC
  split at hC
  · rw [bE.eq]; exact hC
  · exact hC.elim
theorem rJ (A : SkT) (m : Bytes → Bool) (v : Nat) (l : List RecT) (T : List AObj) (hT : OkT T) (s : Nat) (n a b : Nat) (hs : s < 100000) (hn : n = l.length) (ha : a < n) (hb : b < n) (hr : roomy n) (K : AOut → List AObj → Prop)
    (hK : ∀ (a' b' : Nat) (s' : Nat), a' < n → b' < n → (s' = s ∨ s' = s + 1) → (a' = a ∨ a' = b) → (b' = a ∨ b' = b) → K (.ret (.tup [.int .i64 a', .int .i64 b'])) (hpS A m v l (T ++ [.box (.int .i64 (s' : Int))]))) :
    bE.K [.sref false 2 v 0 n, .int .i64 a, .int .i64 b, .ptr (T.length + 1 + 1 + 1) [], hitF] (hpS A m v l (T ++ [.box (.int .i64 (s : Int))])) K := by
  unfold bE.K bE.H hpS
  simp only [jJ, nS, List.map_cons, List.map_nil, bK.C, d0_def, kyL_def, fT, aA, gq, Int.reduceEq, Int.reduceLT, Int.reduceLE, implies_true, reduceCtorEq, if_true, if_false, go_sem, Nat.reduceEqDiff, Nat.reduceLT, Nat.reduceAdd, Nat.reduceSub, Nat.reduceLeDiff, List.reduceReplicate, Int.reduceToNat]
  refine ⟨⟨by omega, by omega⟩, by omega, ⟨by omega, by omega⟩, by omega, fun h => ?_, fun h => ?_⟩
  · rw [wnext (by omega)]
    exact hK b a (s + 1) hb ha (.inr rfl) (.inr rfl) (.inl rfl)
  · exact hK a b s ha hb (.inl rfl) (.inl rfl) (.inr rfl)
def aZ.K : Con := fun args h K => match args with
  | [a0, a1, a2, a3, a4, a5] => aZ.H (ctx [(109, bK.C)] [(151, bE.K)] aZ.loops) a0 a1 a2 a3 a4 a5 h K
  | _ => False
theorem aZ.spec : SSpec Tryz.prog 146 aZ.K := by
  refine SSpec.of (ctx_ok (F := [(109, bK.C)]) (S := [(151, bE.K)]) (by simpa using bK.spec) (by simpa using bE.spec) aZ.loops) aZ.at aZ.nm aZ.bd ?_
  intro args h K hC
  unfold aZ.K at hC
  split at hC
  · rw [aZ.eq]; exact hC
  · exact hC.elim
theorem rK (A : SkT) (m : Bytes → Bool) (v : Nat) (l : List RecT) (T : List AObj) (hT : OkT T) (s : Nat) (n a b d : Nat) (hs : s < 90000) (hn : n = l.length) (ha : a < n) (hb : b < n) (hd : d < n) (hr : roomy n) (K : AOut → List AObj → Prop)
    (hK : ∀ (a' : Nat) (s' : Nat), (a' = a ∨ a' = b ∨ a' = d) → s' ≤ s + 3 → K (.ret (.int .i64 a')) (hpS A m v l (T ++ [.box (.int .i64 (s' : Int))]))) :
    aZ.K [.sref false 2 v 0 n, .int .i64 a, .int .i64 b, .int .i64 d, .ptr (T.length + 1 + 1 + 1) [], hitF] (hpS A m v l (T ++ [.box (.int .i64 (s : Int))])) K := by
  unfold aZ.K aZ.H
  simp only [hpS, List.map_cons, List.map_nil, aA, gq, Int.reduceEq, Int.reduceLT, Int.reduceLE, implies_true, reduceCtorEq, if_true, if_false, go_sem, Nat.reduceEqDiff, Nat.reduceLT, Nat.reduceAdd, Nat.reduceSub, Nat.reduceLeDiff, List.reduceReplicate, Int.reduceToNat]
  refine rJ A m v l T hT s n a b (by omega) hn ha hb hr _ fun a1 b1 s1 h1 h2 h3 h4 h5 => ?_
  simp only [hpS, List.map_cons, List.map_nil, aA, gq, Int.reduceEq, Int.reduceLT, Int.reduceLE, implies_true, reduceCtorEq, if_true, if_false, go_sem, Nat.reduceEqDiff, Nat.reduceLT, Nat.reduceAdd, Nat.reduceSub, Nat.reduceLeDiff, List.reduceReplicate, Int.reduceToNat]
  refine rJ A m v l T hT s1 n b1 d (by omega) hn h2 hd hr _ fun b2 d2 s2 g1 g2 g3 g4 g5 => ?_
  simp only [hpS, List.map_cons, List.map_nil, aA, gq, Int.reduceEq, Int.reduceLT, Int.reduceLE, implies_true, reduceCtorEq, if_true, if_false, go_sem, Nat.reduceEqDiff, Nat.reduceLT, Nat.reduceAdd, Nat.reduceSub, Nat.reduceLeDiff, List.reduceReplicate, Int.reduceToNat]
  refine rJ A m v l T hT s2 n a1 b2 (by omega) hn h1 g1 hr _ fun a3 b3 s3 k1 k2 k3 k4 k5 => ?_
  simp only [hpS, List.map_cons, List.map_nil, aA, gq, Int.reduceEq, Int.reduceLT, Int.reduceLE, implies_true, reduceCtorEq, if_true, if_false, go_sem, Nat.reduceEqDiff, Nat.reduceLT, Nat.reduceAdd, Nat.reduceSub, Nat.reduceLeDiff, List.reduceReplicate, Int.reduceToNat]
  exact hK b3 s3 (by omega) (by omega)
def aQ.K : Con := fun args h K => match args with
  | [a0, a1, a2, a3] => aQ.H (ctx [] [(146, aZ.K)] aQ.loops) a0 a1 a2 a3 h K
  | _ => False
theorem aQ.spec : SSpec Tryz.prog 145 aQ.K := by
  refine SSpec.of (ctx_ok (F := []) (S := [(146, aZ.K)]) (by simp) (by simpa using aZ.spec) aQ.loops) aQ.at aQ.nm aQ.bd ?_
  intro args h K hC
  unfold aQ.K at hC
  split at hC
  · rw [aQ.eq]; exact hC
  · exact hC.elim
theorem nT (A : SkT) (m : Bytes → Bool) (v : Nat) (l : List RecT) (T : List AObj) (hT : OkT T) (s : Nat) (n a : Nat) (hs : s < 80000) (hn : n = l.length) (ha : 0 < a) (ha2 : a + 1 < n) (hr : roomy n) (K : AOut → List AObj → Prop)
    (hK : ∀ (a' : Nat) (s' : Nat), a ≤ a' + 1 → a' ≤ a + 1 → s' ≤ s + 3 → K (.ret (.int .i64 a')) (hpS A m v l (T ++ [.box (.int .i64 (s' : Int))]))) :
    aQ.K [.sref false 2 v 0 n, .int .i64 a, .ptr (T.length + 1 + 1 + 1) [], hitF] (hpS A m v l (T ++ [.box (.int .i64 (s : Int))])) K := by
  have hr' := hr
  unfold roomy at hr'
  have e1 : IntKind.i64.wrap ((a : Int) - 1) = ((a - 1 : Nat) : Int) := by rw [w64 (by omega) (by omega)]; omega
  unfold aQ.K aQ.H
  simp only [hpS, List.map_cons, List.map_nil, e1, wnext (show a < 4611686018427387904 by omega), aA, gq, Int.reduceEq, Int.reduceLT, Int.reduceLE, implies_true, reduceCtorEq, if_true, if_false, go_sem, Nat.reduceEqDiff, Nat.reduceLT, Nat.reduceAdd, Nat.reduceSub, Nat.reduceLeDiff, List.reduceReplicate, Int.reduceToNat]
  refine rK A m v l T hT s n _ _ _ (by omega) hn (by omega) (by omega) (by omega) hr _ fun a1 s1 h1 h2 => ?_
  simp only [hpS, List.map_cons, List.map_nil, aA, gq, Int.reduceEq, Int.reduceLT, Int.reduceLE, implies_true, reduceCtorEq, if_true, if_false, go_sem, Nat.reduceEqDiff, Nat.reduceLT, Nat.reduceAdd, Nat.reduceSub, Nat.reduceLeDiff, List.reduceReplicate, Int.reduceToNat]
  exact hK a1 s1 (by omega) (by omega) h2
def aX.K : Con := fun args h K => match args with
  | [a0, a1, a2, a3] => aX.H (ctx [] [(145, aQ.K), (146, aZ.K)] aX.loops) a0 a1 a2 a3 h K
  | _ => False
theorem aX.spec : SSpec Tryz.prog 129 aX.K := by
  refine SSpec.of (ctx_ok (F := []) (S := [(145, aQ.K), (146, aZ.K)]) (by simp) (by simpa using ⟨aQ.spec, aZ.spec⟩) aX.loops) aX.at aX.nm aX.bd ?_
  intro args h K hC
  unfold aX.K at hC
  split at hC
  · rw [aX.eq]; exact hC
  · exact hC.elim
theorem aCg (A : SkT) (m : Bytes → Bool) (v : Nat) (l : List RecT) (T : List AObj) (hT : OkT T) (n a b : Nat) (hn : n = l.length) (hab : a < b) (hbn : b ≤ n) (hr : roomy n) (K : AOut → List AObj → Prop)
    (hK : ∀ (p : Nat) (e : Nat) (s : Int), a ≤ p → p < b → e ≤ 2 → K (.ret (.tup [.int .i64 p, .int .i64 e])) (hpS A m v l (T ++ [.box (.int .i64 s)]))) :
    aX.K [.sref false 2 v 0 n, .int .i64 a, .int .i64 b, hitF] (hpS A m v l T) K := by
  unfold aX.K aX.H
  have hr' := hr
  unfold roomy at hr'
  have e0 : IntKind.i64.wrap ((b : Int) - a) = ((b - a : Nat) : Int) := by rw [w64 (by omega) (by omega)]; omega
  have e1 : ((b - a : Nat) : Int).tdiv 4 = (((b - a) / 4 : Nat) : Int) := by rw [Int.tdiv_eq_ediv_of_nonneg (by omega)]; omega
  obtain ⟨q, hq⟩ : ∃ q, (b - a) / 4 = q := ⟨_, rfl⟩
  have e2 : IntKind.i64.wrap (q : Int) = q := w64 (by omega) (by omega)
  have e3 : ∀ k : Nat, k ≤ 3 → IntKind.i64.wrap ((a : Int) + IntKind.i64.wrap ((q : Int) * k)) = ((a + q * k : Nat) : Int) := fun k hk => by
    have : q * k ≤ q * 3 := Nat.mul_le_mul_left q hk
    rw [w64 (n := (q : Int) * k) (by rw [← Int.natCast_mul]; omega) (by rw [← Int.natCast_mul]; omega), ← Int.natCast_mul, w64 (by omega) (by omega)]; omega
  have e31 := e3 1 (by decide)
  have e32 := e3 2 (by decide)
  have e33 := e3 3 (by decide)
  simp only [Int.natCast_one, Int.cast_ofNat_Int] at e31 e32 e33
  simp only [hpS, List.map_cons, List.map_nil, List.cons_append, e0, e1, hq, e2, e31, e32, e33, aA, gq, Int.reduceEq, Int.reduceLT, Int.reduceLE, implies_true, reduceCtorEq, if_true, if_false, go_sem, Nat.reduceEqDiff, Nat.reduceLT, Nat.reduceAdd, Nat.reduceSub, Nat.reduceLeDiff, List.reduceReplicate, Int.reduceToNat]
  have hfin : ∀ (p : Nat) (s : Int), a ≤ p → p < b → ((s = 0 → K (.ret (.tup [.int .i64 p, .int .i64 1])) (hpS A m v l (T ++ [.box (.int .i64 s)]))) ∧ (¬ s = 0 → (s = 12 → K (.ret (.tup [.int .i64 p, .int .i64 2])) (hpS A m v l (T ++ [.box (.int .i64 s)]))) ∧ (¬ s = 12 → K (.ret (.tup [.int .i64 p, .int .i64 0])) (hpS A m v l (T ++ [.box (.int .i64 s)]))))) := fun p s h1 h2 => ⟨fun _ => hK p 1 s h1 h2 (by decide), fun _ => ⟨fun _ => hK p 2 s h1 h2 (by decide), fun _ => hK p 0 s h1 h2 (by decide)⟩⟩
  refine ⟨fun h8 => ⟨fun h50 => ?_, fun _ => ?_⟩, fun h8 => ?_⟩
  · refine nT A m v l T hT 0 n _ (by decide) hn (by omega) (by omega) hr _ fun p1 s1 h1 h2 h3 => ?_
    simp only [hpS, aA, gq, Int.reduceEq, Int.reduceLT, Int.reduceLE, implies_true, reduceCtorEq, if_true, if_false, go_sem, Nat.reduceEqDiff, Nat.reduceLT, Nat.reduceAdd, Nat.reduceSub, Nat.reduceLeDiff, List.reduceReplicate, Int.reduceToNat]
    refine nT A m v l T hT s1 n _ (by omega) hn (by omega) (by omega) hr _ fun p2 s2 g1 g2 g3 => ?_
    simp only [hpS, aA, gq, Int.reduceEq, Int.reduceLT, Int.reduceLE, implies_true, reduceCtorEq, if_true, if_false, go_sem, Nat.reduceEqDiff, Nat.reduceLT, Nat.reduceAdd, Nat.reduceSub, Nat.reduceLeDiff, List.reduceReplicate, Int.reduceToNat]
    refine nT A m v l T hT s2 n _ (by omega) hn (by omega) (by omega) hr _ fun p3 s3 k1 k2 k3 => ?_
    simp only [hpS, aA, gq, Int.reduceEq, Int.reduceLT, Int.reduceLE, implies_true, reduceCtorEq, if_true, if_false, go_sem, Nat.reduceEqDiff, Nat.reduceLT, Nat.reduceAdd, Nat.reduceSub, Nat.reduceLeDiff, List.reduceReplicate, Int.reduceToNat]
    refine rK A m v l T hT s3 n _ _ _ (by omega) hn (by omega) (by omega) (by omega) hr _ fun p s hp hs => ?_
    simp only [hpS, jJ, aA, gq, Int.reduceEq, Int.reduceLT, Int.reduceLE, implies_true, reduceCtorEq, if_true, if_false, go_sem, Nat.reduceEqDiff, Nat.reduceLT, Nat.reduceAdd, Nat.reduceSub, Nat.reduceLeDiff, List.reduceReplicate, Int.reduceToNat]
    exact hfin p s (by omega) (by omega)
  · refine rK A m v l T hT 0 n _ _ _ (by decide) hn (by omega) (by omega) (by omega) hr _ fun p s hp hs => ?_
    simp only [hpS, jJ, aA, gq, Int.reduceEq, Int.reduceLT, Int.reduceLE, implies_true, reduceCtorEq, if_true, if_false, go_sem, Nat.reduceEqDiff, Nat.reduceLT, Nat.reduceAdd, Nat.reduceSub, Nat.reduceLeDiff, List.reduceReplicate, Int.reduceToNat]
    exact hfin p s (by omega) (by omega)
  · simp only [hpS, jJ, aA, gq, Int.reduceEq, Int.reduceLT, Int.reduceLE, implies_true, reduceCtorEq, if_true, if_false, go_sem, Nat.reduceEqDiff, Nat.reduceLT, Nat.reduceAdd, Nat.reduceSub, Nat.reduceLeDiff, List.reduceReplicate, Int.reduceToNat]
    exact hK (a + q * 2) 1 0 (by omega) (by omega) (by decide)
def aK.K : Con := fun args h K => match args with
  | [a0, a1, a2, a3] => aK.H (ctx [(109, bK.C)] [] aK.loops) a0 a1 a2 a3 h K
  | _ => False
theorem aK.spec : SSpec Tryz.prog 126 aK.K := by
  refine SSpec.of (ctx_ok (F := [(109, bK.C)]) (S := []) (by simpa using bK.spec) (by simp) aK.loops) aK.at aK.nm aK.bd ?_
  intro args h K hC
  unfold aK.K at hC
  split at hC
  · rw [aK.eq]; exact hC
  · exact hC.elim
theorem ins_K (A : SkT) (m : Bytes → Bool) (v : Nat) (l : List RecT) (T : List AObj) (hTn : OkT T) (n a b : Nat) (hn : n = l.length) (hab : a ≤ b) (hbn : b ≤ n) (hr : roomy n) (K : AOut → List AObj → Prop)
    (hK : ∀ l', SegP a b l l' → SegS a b l' → K (.ret (.tup [])) (hpS A m v l' T)) :
    aK.K [.sref false 2 v 0 n, .int .i64 a, .int .i64 b, hitF] (hpS A m v l T) K := by
  have hr' := hr
  unfold roomy at hr'
  have h2 : 2 < T.length + 1 + 1 + 1 := by omega
  unfold aK.K aK.H
  simp only [hpS, hTn _ _, SkT.norm, h2, aA, gq, Int.reduceEq, Int.reduceLT, Int.reduceLE, implies_true, reduceCtorEq, if_true, if_false, go_sem, Nat.reduceEqDiff, Nat.reduceLT, Nat.reduceAdd, Nat.reduceSub, Nat.reduceLeDiff, List.reduceReplicate, Int.reduceToNat] at hK ⊢
  rw [wnext (by omega)]
  unfold aK.L1
  refine loop1 (σ := List RecT × Nat) (fun s => .int .i64 s.2) (fun s => .box A.V :: .map (.sb m) :: .row .own v (.recs s.1) :: T) (fun s => n + 1 - s.2) (fun s => a + 1 ≤ s.2 ∧ (s.2 ≤ b ∨ s.2 = a + 1) ∧ SegP a b l s.1 ∧ SegS a s.2 s.1) (l, a + 1) rfl rfl ⟨by simp, by simp, SegP.refl, SegS.one (by simp)⟩ ?_
  rintro I back ⟨l1, i⟩ ⟨hi1, hi2, hp, hs⟩
  simp only at hi1 hi2 hp hs ⊢
  have hl1 := hp.len
  simp only [hTn _ _, SkT.norm, h2, aA, aA, gq, Int.reduceEq, Int.reduceLT, Int.reduceLE, implies_true, reduceCtorEq, if_true, if_false, go_sem, Nat.reduceEqDiff, Nat.reduceLT, Nat.reduceAdd, Nat.reduceSub, Nat.reduceLeDiff, List.reduceReplicate, Int.reduceToNat]
  refine ⟨fun hlt => ?_, fun hge => hK l1 hp fun p q h1 h2 h3 => hs p q h1 h2 (by omega)⟩
  unfold aK.L2
  refine loop1 (σ := List RecT × Nat) (fun s => .int .i64 s.2) (fun s => .box A.V :: .map (.sb m) :: .row .own v (.recs s.1) :: T) (fun s => s.2) (fun s => a ≤ s.2 ∧ s.2 ≤ i ∧ SegP a b l s.1 ∧ InsS a s.2 (i + 1) s.1) (l1, i) rfl rfl ⟨by simp only; omega, by simp, hp, InsS.begin hs⟩ ?_
  rintro I2 back2 ⟨l2, j⟩ ⟨hj1, hj2, hp2, hs2⟩
  simp only at hj1 hj2 hp2 hs2 ⊢
  have hl2 := hp2.len
  have hnx : SegS a (i + 1) l2 → ∃ m1, m1 < n + 1 - i ∧ I m1 [.int .i64 (IntKind.i64.wrap ((i : Int) + 1))] (.box A.V :: .map (.sb m) :: .row .own v (.recs l2) :: T) := fun h => back (l2, i + 1) (by simp only; omega) (by simp only; rw [wnext (by omega)]) rfl ⟨by simp only; omega, .inl (by simp only; omega), hp2, h⟩
  by_cases hja : a < j
  · have e1 : IntKind.i64.wrap ((j : Int) - 1) = ((j - 1 : Nat) : Int) := by rw [w64 (by omega) (by omega)]; omega
    have d1 : decide ((a : Int) < (j : Int)) = true := decide_eq_true (by omega)
    simp only [hTn _ _, SkT.norm, h2, aA, d1, e1, Int.toNat_natCast, bK.C, d0_def, kyL_def, fT, rec_eta, fM, List.length_set, aA, gq, Int.reduceEq, Int.reduceLT, Int.reduceLE, implies_true, reduceCtorEq, if_true, if_false, go_sem, Nat.reduceEqDiff, Nat.reduceLT, Nat.reduceAdd, Nat.reduceSub, Nat.reduceLeDiff, List.reduceReplicate, Int.reduceToNat]
    refine ⟨⟨by omega, by omega⟩, by omega, ⟨by omega, by omega⟩, by omega, fun h => ⟨⟨by omega, by omega⟩, by omega, ⟨by omega, by omega⟩, by omega, ⟨by omega, by omega⟩, by omega, ⟨by omega, by omega⟩, by omega, back2 (swapL l2 j (j - 1), j - 1) (by simp only; omega) rfl rfl ⟨by simp only; omega, by simp only; omega, hp2.trans (SegP.swap (by omega) (by omega) (by omega) (by omega) (by omega)), hs2.step hja (by omega) (by omega) h⟩⟩, fun h => hnx (hs2.done hj1 (by omega) (.inr (by unfold leB; simpa using h)))⟩
  · obtain rfl : j = a := by omega
    have d1 : decide ((j : Int) < (j : Int)) = false := decide_eq_false (by omega)
    simp only [hTn _ _, SkT.norm, h2, aA, d1, aA, gq, Int.reduceEq, Int.reduceLT, Int.reduceLE, implies_true, reduceCtorEq, if_true, if_false, go_sem, Nat.reduceEqDiff, Nat.reduceLT, Nat.reduceAdd, Nat.reduceSub, Nat.reduceLeDiff, List.reduceReplicate, Int.reduceToNat]
    exact hnx (hs2.done (Nat.le_refl _) (by omega) (.inl rfl))
def aC.K : Con := fun args h K => match args with
  | [a0, a1, a2, a3] => aC.H (ctx [(109, bK.C)] [] aC.loops) a0 a1 a2 a3 h K
  | _ => False
theorem aC.spec : SSpec Tryz.prog 131 aC.K := by
  refine SSpec.of (ctx_ok (F := [(109, bK.C)]) (S := []) (by simpa using bK.spec) (by simp) aC.loops) aC.at aC.nm aC.bd ?_
  intro args h K hC
  unfold aC.K at hC
  split at hC
  · rw [aC.eq]; exact hC
  · exact hC.elim
/-- none of a part stands ahead of the one ahead of it -/
def PreS (a b : Nat) (l : List RecT) : Prop := a = 0 ∨ ∀ k, a ≤ k → k < b → leB (kyL l (a - 1)) (kyL l k)
theorem PreS.keep {a b : Nat} {l l' : List RecT} (h : PreS a b l) (s : SegP a b l l') : PreS a b l' := by
  rcases Nat.eq_zero_or_pos a with h0 | h0
  · exact .inl h0
  · rcases h with h | h
    · exact .inl h
    · refine .inr fun k h1 h2 => ?_
      rw [s.same (k := a - 1) (by omega)]
      exact s.le (x := kyL l (a - 1)) h k h1 h2
theorem aBn (c : Ctx) (hd : c.drawn = false) (hf : c.envF 109 = bK.C) (A : SkT) (m : Bytes → Bool) (v : Nat) (l : List RecT) (T : List AObj) (n a b i jc : Nat) (hTn : OkT T) (hn : n = l.length) (ha : a + 1 < i) (hi : i < n) (hp : PreS a i l) (hr : roomy n) (h0 : InsS a (i - 1) i l)
    (J : AV → AV → AV → AV → AV → AV → List AObj → Prop) (K : AOut → List AObj → Prop)
    (hJ : ∀ l', SegP a i l l' → SegS a i l' → J (.sref false 2 v 0 n) (.int .i64 a) (.int .i64 b) hitF (.int .i64 i) (.int .i64 jc) (.box A.V :: .map (.sb m) :: .row .own v (.recs l') :: T)) :
    aC.L3 c J K [.int .i64 ((i - 1 : Nat) : Int)] (.box A.V :: .map (.sb m) :: .row .own v (.recs l) :: T) (T.length + 1 + 1 + 1) (.sref false 2 v 0 n) (.int .i64 a) (.int .i64 b) hitF (.int .i64 i) (.int .i64 jc) := by
  have hr' := hr
  unfold roomy at hr'
  have h2 : 2 < T.length + 1 + 1 + 1 := by omega
  unfold aC.L3
  refine loop1 (σ := List RecT × Nat) (fun s => .int .i64 s.2) (fun s => .box A.V :: .map (.sb m) :: .row .own v (.recs s.1) :: T) (fun s => s.2) (fun s => a ≤ s.2 ∧ s.2 < i ∧ SegP a i l s.1 ∧ InsS a s.2 i s.1) (l, i - 1) rfl rfl ⟨by simp only; omega, by simp only; omega, SegP.refl, h0⟩ ?_
  rintro I back ⟨l2, j⟩ ⟨hj1, hj2, hp2, hs2⟩
  simp only at hj1 hj2 hp2 hs2 ⊢
  have hl2 := hp2.len
  by_cases hj0 : 1 ≤ j
  · have e1 : IntKind.i64.wrap ((j : Int) - 1) = ((j - 1 : Nat) : Int) := by rw [w64 (by omega) (by omega)]; omega
    have d1 : decide ((1 : Int) ≤ (j : Int)) = true := decide_eq_true (by omega)
    cases hlt : ltB (kyL l2 j) (kyL l2 (j - 1)) with
    | false =>
      simp only [hTn _ _, SkT.norm, h2, aA, d1, e1, hd, hf, hlt, Int.toNat_natCast, bK.C, d0_def, kyL_def, fT, aA, gq, Int.reduceEq, Int.reduceLT, Int.reduceLE, implies_true, reduceCtorEq, if_true, if_false, go_sem, Nat.reduceEqDiff, Nat.reduceLT, Nat.reduceAdd, Nat.reduceSub, Nat.reduceLeDiff, List.reduceReplicate, Int.reduceToNat]
      refine ⟨⟨by omega, by omega⟩, by omega, ⟨by omega, by omega⟩, by omega, hJ l2 hp2 (hs2.done hj1 hj2 ?_)⟩
      rcases Nat.eq_or_lt_of_le hj1 with h | h
      · exact .inl h.symm
      · exact .inr hlt
    | true =>
      have hja : a < j := by
        rcases Nat.eq_or_lt_of_le hj1 with h | h
        · subst h
          rcases hp.keep hp2 with h | h
          · omega
          · have := h a (Nat.le_refl _) hj2
            unfold leB at this
            rw [hlt] at this; cases this
        · exact h
      simp only [hTn _ _, SkT.norm, h2, aA, d1, e1, hd, hf, hlt, Int.toNat_natCast, bK.C, d0_def, kyL_def, fT, rec_eta, fM, List.length_set, aA, gq, Int.reduceEq, Int.reduceLT, Int.reduceLE, implies_true, reduceCtorEq, if_true, if_false, go_sem, Nat.reduceEqDiff, Nat.reduceLT, Nat.reduceAdd, Nat.reduceSub, Nat.reduceLeDiff, List.reduceReplicate, Int.reduceToNat]
      refine ⟨⟨by omega, by omega⟩, by omega, ⟨by omega, by omega⟩, by omega, ⟨by omega, by omega⟩, by omega, ⟨by omega, by omega⟩, by omega, ⟨by omega, by omega⟩, by omega, ⟨by omega, by omega⟩, by omega, back (swapL l2 j (j - 1), j - 1) (by simp only; omega) rfl rfl ⟨by simp only; omega, by simp only; omega, hp2.trans (SegP.swap (by omega) (by omega) (by omega) (by omega) (by omega)), hs2.step hja hj2 (by omega) hlt⟩⟩
  · have d1 : decide ((1 : Int) ≤ (j : Int)) = false := decide_eq_false (by omega)
    simp only [hTn _ _, SkT.norm, h2, aA, d1, aA, gq, Int.reduceEq, Int.reduceLT, Int.reduceLE, implies_true, reduceCtorEq, if_true, if_false, go_sem, Nat.reduceEqDiff, Nat.reduceLT, Nat.reduceAdd, Nat.reduceSub, Nat.reduceLeDiff, List.reduceReplicate, Int.reduceToNat]
    exact hJ l2 hp2 (hs2.done hj1 hj2 (.inl (by omega)))
theorem aAv (c : Ctx) (hd : c.drawn = false) (hf : c.envF 109 = bK.C) (A : SkT) (m : Bytes → Bool) (v : Nat) (l : List RecT) (T : List AObj) (n a b i jc : Nat) (hTn : OkT T) (hn : n = l.length) (hi : i + 1 < b) (hb : b ≤ n) (hr : roomy n)
    (J : AV → AV → AV → AV → AV → AV → List AObj → Prop) (K : AOut → List AObj → Prop)
    (hJ : ∀ l', SegP i b l l' → J (.sref false 2 v 0 n) (.int .i64 a) (.int .i64 b) hitF (.int .i64 i) (.int .i64 jc) (.box A.V :: .map (.sb m) :: .row .own v (.recs l') :: T)) :
    aC.L4 c J K [.int .i64 ((i + 1 : Nat) : Int)] (.box A.V :: .map (.sb m) :: .row .own v (.recs l) :: T) (T.length + 1 + 1 + 1) (.sref false 2 v 0 n) (.int .i64 a) (.int .i64 b) hitF (.int .i64 i) (.int .i64 jc) := by
  have hr' := hr
  unfold roomy at hr'
  have h2 : 2 < T.length + 1 + 1 + 1 := by omega
  unfold aC.L4
  refine loop1 (σ := List RecT × Nat) (fun s => .int .i64 s.2) (fun s => .box A.V :: .map (.sb m) :: .row .own v (.recs s.1) :: T) (fun s => b - s.2) (fun s => i + 1 ≤ s.2 ∧ s.2 ≤ b ∧ SegP i b l s.1) (l, i + 1) rfl rfl ⟨Nat.le_refl _, by simp only; omega, SegP.refl⟩ ?_
  rintro I back ⟨l2, j⟩ ⟨hj1, hj2, hp2⟩
  simp only at hj1 hj2 hp2 ⊢
  have hl2 := hp2.len
  by_cases hj0 : j < b
  · have e1 : IntKind.i64.wrap ((j : Int) - 1) = ((j - 1 : Nat) : Int) := by rw [w64 (by omega) (by omega)]; omega
    have d1 : decide ((j : Int) < (b : Int)) = true := decide_eq_true (by omega)
    cases hlt : ltB (kyL l2 j) (kyL l2 (j - 1)) with
    | false =>
      simp only [hTn _ _, SkT.norm, h2, aA, d1, e1, hd, hf, hlt, Int.toNat_natCast, bK.C, d0_def, kyL_def, fT, aA, gq, Int.reduceEq, Int.reduceLT, Int.reduceLE, implies_true, reduceCtorEq, if_true, if_false, go_sem, Nat.reduceEqDiff, Nat.reduceLT, Nat.reduceAdd, Nat.reduceSub, Nat.reduceLeDiff, List.reduceReplicate, Int.reduceToNat]
      exact ⟨⟨by omega, by omega⟩, by omega, ⟨by omega, by omega⟩, by omega, hJ l2 hp2⟩
    | true =>
      simp only [hTn _ _, SkT.norm, h2, aA, d1, e1, hd, hf, hlt, Int.toNat_natCast, bK.C, d0_def, kyL_def, fT, rec_eta, fM, List.length_set, aA, gq, Int.reduceEq, Int.reduceLT, Int.reduceLE, implies_true, reduceCtorEq, if_true, if_false, go_sem, Nat.reduceEqDiff, Nat.reduceLT, Nat.reduceAdd, Nat.reduceSub, Nat.reduceLeDiff, List.reduceReplicate, Int.reduceToNat]
      refine ⟨⟨by omega, by omega⟩, by omega, ⟨by omega, by omega⟩, by omega, ⟨by omega, by omega⟩, by omega, ⟨by omega, by omega⟩, by omega, ⟨by omega, by omega⟩, by omega, ⟨by omega, by omega⟩, by omega, back (swapL l2 j (j - 1), j + 1) (by simp only; omega) (by rw [wnext (by omega)]) rfl ⟨by simp only; omega, by simp only; omega, hp2.trans (SegP.swap (by omega) (by omega) (by omega) (by omega) (by omega))⟩⟩
  · have d1 : decide ((j : Int) < (b : Int)) = false := decide_eq_false (by omega)
    simp only [hTn _ _, SkT.norm, h2, aA, d1, aA, gq, Int.reduceEq, Int.reduceLT, Int.reduceLE, implies_true, reduceCtorEq, if_true, if_false, go_sem, Nat.reduceEqDiff, Nat.reduceLT, Nat.reduceAdd, Nat.reduceSub, Nat.reduceLeDiff, List.reduceReplicate, Int.reduceToNat]
    exact hJ l2 hp2
theorem part_K (A : SkT) (m : Bytes → Bool) (v : Nat) (l : List RecT) (T : List AObj) (hTn : OkT T) (n a b : Nat) (hn : n = l.length) (hab : a < b) (hbn : b ≤ n) (hpre : PreS a b l) (hr : roomy n) (K : AOut → List AObj → Prop)
    (hK1 : ∀ l', SegP a b l l' → SegS a b l' → K (.ret (.bool true)) (hpS A m v l' T)) (hK2 : ∀ l', SegP a b l l' → K (.ret (.bool false)) (hpS A m v l' T)) :
    aC.K [.sref false 2 v 0 n, .int .i64 a, .int .i64 b, hitF] (hpS A m v l T) K := by
  have hr' := hr
  unfold roomy at hr'
  have h2 : 2 < T.length + 1 + 1 + 1 := by omega
  unfold aC.K aC.H
  simp only [hpS, hTn _ _, SkT.norm, h2, aA, gq, Int.reduceEq, Int.reduceLT, Int.reduceLE, implies_true, reduceCtorEq, if_true, if_false, go_sem, Nat.reduceEqDiff, Nat.reduceLT, Nat.reduceAdd, Nat.reduceSub, Nat.reduceLeDiff, List.reduceReplicate, Int.reduceToNat] at hK1 hK2 ⊢
  rw [wnext (by omega)]
  unfold aC.L1
  refine loop2 (σ := List RecT × Nat × Nat) (fun s => .int .i64 s.2.1) (fun s => .int .i64 s.2.2) (fun s => .box A.V :: .map (.sb m) :: .row .own v (.recs s.1) :: T) (fun s => 5 - s.2.2) (fun s => s.2.2 ≤ 5 ∧ a + 1 ≤ s.2.1 ∧ s.2.1 ≤ b ∧ SegP a b l s.1 ∧ SegS a s.2.1 s.1) (l, a + 1, 0) rfl rfl ⟨Nat.zero_le _, Nat.le_refl _, by simp only; omega, SegP.refl, SegS.one (Nat.le_refl _)⟩ ?_
  rintro I back ⟨l1, i0, jc⟩ ⟨hjc, hi1, hi2, hp, hs⟩
  simp only at hjc hi1 hi2 hp hs ⊢
  have hl1 := hp.len
  by_cases hj5 : jc < 5
  rotate_left
  · have d1 : decide ((jc : Int) < 5) = false := decide_eq_false (by omega)
    simp only [hTn _ _, SkT.norm, h2, aA, d1, aA, gq, Int.reduceEq, Int.reduceLT, Int.reduceLE, implies_true, reduceCtorEq, if_true, if_false, go_sem, Nat.reduceEqDiff, Nat.reduceLT, Nat.reduceAdd, Nat.reduceSub, Nat.reduceLeDiff, List.reduceReplicate, Int.reduceToNat]
    exact hK2 l1 hp
  have d0 : decide ((jc : Int) < 5) = true := decide_eq_true (by omega)
  simp only [hTn _ _, SkT.norm, h2, aA, d0, aA, gq, Int.reduceEq, Int.reduceLT, Int.reduceLE, implies_true, reduceCtorEq, if_true, if_false, go_sem, Nat.reduceEqDiff, Nat.reduceLT, Nat.reduceAdd, Nat.reduceSub, Nat.reduceLeDiff, List.reduceReplicate, Int.reduceToNat]
  unfold aC.L2
  refine loop1 (σ := Nat) (fun i => .int .i64 i) (fun s => .box A.V :: .map (.sb m) :: .row .own v (.recs l1) :: T) (fun i => b - i) (fun i => a + 1 ≤ i ∧ i ≤ b ∧ SegS a i l1) i0 rfl rfl ⟨hi1, hi2, hs⟩ ?_
  rintro I2 back2 i ⟨hi1, hi2, hs⟩
  have e1 : IntKind.i64.wrap ((i : Int) - 1) = ((i - 1 : Nat) : Int) := by rw [w64 (by omega) (by omega)]; omega
  have e2 : IntKind.i64.wrap ((b : Int) - a) = ((b - a : Nat) : Int) := by rw [w64 (by omega) (by omega)]; omega
  have e3 : IntKind.i64.wrap ((i : Int) - a) = ((i - a : Nat) : Int) := by rw [w64 (by omega) (by omega)]; omega
  have e4 : IntKind.i64.wrap ((b : Int) - i) = ((b - i : Nat) : Int) := by rw [w64 (by omega) (by omega)]; omega
  by_cases hib : i < b
  · have d1 : decide ((i : Int) < (b : Int)) = true := decide_eq_true (by omega)
    have d2 : decide ((i : Int) = (b : Int)) = false := decide_eq_false (by omega)
    cases hlt : ltB (kyL l1 i) (kyL l1 (i - 1)) with
    | false =>
      simp only [hTn _ _, SkT.norm, h2, aA, d1, e1, e2, hlt, Int.toNat_natCast, bK.C, d0_def, kyL_def, fT, rec_eta, fM, List.length_set, aA, gq, Int.reduceEq, Int.reduceLT, Int.reduceLE, implies_true, reduceCtorEq, if_true, if_false, go_sem, Nat.reduceEqDiff, Nat.reduceLT, Nat.reduceAdd, Nat.reduceSub, Nat.reduceLeDiff, List.reduceReplicate, Int.reduceToNat]
      refine ⟨⟨by omega, by omega⟩, by omega, ⟨by omega, by omega⟩, by omega, ?_⟩
      refine back2 (i + 1) (by omega) (by rw [wnext (by omega)]) rfl ⟨by omega, by omega, ?_⟩
      intro p q h1 h2 h3
      by_cases hq : q = i
      · subst hq
        by_cases hp : p = q - 1
        · subst hp; exact hlt
        · exact kV (hs p (q - 1) h1 (by omega) (by omega)) hlt
      · exact hs p q h1 h2 (by omega)
    | true =>
      have hsw : SegP a b l (swapL l1 i (i - 1)) := hp.trans (SegP.swap (by omega) (by omega) (by omega) (by omega) (by omega))
      have hins : InsS a (i - 1) i (swapL l1 i (i - 1)) := fun p q h1 h2 h3 h4 => by
        rw [fW (by omega) (by omega), fW (by omega) (by omega), if_neg (by omega), if_neg (by omega), if_neg (by omega), if_neg (by omega)]
        exact hs p q h1 h2 (by omega)
      have hsl : (swapL l1 i (i - 1)).length = n := by rw [iA]; omega
      simp only [hTn _ _, SkT.norm, h2, aA, d1, d2, e1, e2, e3, e4, hlt, Int.toNat_natCast, bK.C, d0_def, kyL_def, fT, rec_eta, fM, List.length_set, wnext (show i < 4611686018427387904 by omega), aA, gq, Int.reduceEq, Int.reduceLT, Int.reduceLE, implies_true, reduceCtorEq, if_true, if_false, go_sem, Nat.reduceEqDiff, Nat.reduceLT, Nat.reduceAdd, Nat.reduceSub, Nat.reduceLeDiff, List.reduceReplicate, Int.reduceToNat]
      generalize swapL l1 i (i - 1) = l2 at *
      have hend : ∀ l3, SegP a b l l3 → SegS a i l3 → ∃ m_1, m_1 < 5 - jc ∧ I m_1 [.int .i64 i, .int .i64 ((jc + 1 : Nat) : Int)] (.box A.V :: .map (.sb m) :: .row .own v (.recs l3) :: T) := fun l3 p3 s3 => back (l3, i, jc + 1) (by simp only; omega) rfl rfl ⟨by simp only; omega, hi1, hi2, p3, s3⟩
      have hright : ∀ (c : Ctx), c.drawn = false → c.envF 109 = bK.C → ∀ l3, SegP a b l l3 → SegS a i l3 → ∀ (J : AV → AV → AV → AV → AV → AV → List AObj → Prop) (K : AOut → List AObj → Prop), i + 1 < b → (∀ l4, SegP a b l l4 → SegS a i l4 → J (.sref false 2 v 0 n) (.int .i64 a) (.int .i64 b) hitF (.int .i64 i) (.int .i64 jc) (.box A.V :: .map (.sb m) :: .row .own v (.recs l4) :: T)) → aC.L4 c J K [.int .i64 ((i + 1 : Nat) : Int)] (.box A.V :: .map (.sb m) :: .row .own v (.recs l3) :: T) (T.length + 1 + 1 + 1) (.sref false 2 v 0 n) (.int .i64 a) (.int .i64 b) hitF (.int .i64 i) (.int .i64 jc) := fun c hd hf l3 p3 s3 J K h1 hJ =>
        aAv c hd hf A m v l3 T n a b i jc hTn (by rw [p3.len]; exact hn) h1 hbn hr J K fun l4 p4 => hJ l4 (p3.trans (p4.mono (by omega) (Nat.le_refl _))) (s3.keep p4 (.inl (Nat.le_refl _)))
      refine ⟨⟨by omega, by omega⟩, by omega, ⟨by omega, by omega⟩, by omega, fun h50 => hK2 l1 hp, fun h50 => ⟨⟨by omega, by omega⟩, by omega, ⟨by omega, by omega⟩, by omega, ⟨by omega, by omega⟩, by omega, ⟨by omega, by omega⟩, by omega, fun hge => ?_, fun hge => ?_⟩⟩
      · have hpr : PreS a i l2 := (hpre.keep hsw).imp id fun h k k1 k2 => h k k1 (by omega)
        refine aBn _ rfl rfl A m v l2 T n a b i jc hTn hsl.symm (by omega) (by omega) hpr hr hins _ _ fun l3 p3 s3 => ?_
        have p3' : SegP a b l l3 := hsw.trans (p3.mono (Nat.le_refl _) (by omega))
        simp only [hTn _ _, SkT.norm, h2, e4, wnext (show i < 4611686018427387904 by omega), wnext (show jc < 4611686018427387904 by omega), aA, gq, Int.reduceEq, Int.reduceLT, Int.reduceLE, implies_true, reduceCtorEq, if_true, if_false, go_sem, Nat.reduceEqDiff, Nat.reduceLT, Nat.reduceAdd, Nat.reduceSub, Nat.reduceLeDiff, List.reduceReplicate, Int.reduceToNat]
        refine ⟨fun hge2 => hright _ rfl rfl l3 p3' s3 _ _ (by omega) fun l4 p4 s4 => ?_, fun _ => hend l3 p3' s3⟩
        simp only [hTn _ _, SkT.norm, h2, wnext (show jc < 4611686018427387904 by omega), aA, gq, Int.reduceEq, Int.reduceLT, Int.reduceLE, implies_true, reduceCtorEq, if_true, if_false, go_sem, Nat.reduceEqDiff, Nat.reduceLT, Nat.reduceAdd, Nat.reduceSub, Nat.reduceLeDiff, List.reduceReplicate, Int.reduceToNat]
        exact hend l4 p4 s4
      · refine ⟨fun hge2 => hright _ rfl rfl l2 hsw (SegS.one (by omega)) _ _ (by omega) fun l4 p4 s4 => ?_, fun _ => by rw [wnext (by omega)]; exact hend l2 hsw (SegS.one (by omega))⟩
        simp only [hTn _ _, SkT.norm, h2, wnext (show jc < 4611686018427387904 by omega), aA, gq, Int.reduceEq, Int.reduceLT, Int.reduceLE, implies_true, reduceCtorEq, if_true, if_false, go_sem, Nat.reduceEqDiff, Nat.reduceLT, Nat.reduceAdd, Nat.reduceSub, Nat.reduceLeDiff, List.reduceReplicate, Int.reduceToNat]
        exact hend l4 p4 s4
  · obtain rfl : i = b := by omega
    have d1 : decide ((i : Int) < (i : Int)) = false := decide_eq_false (by omega)
    simp only [hTn _ _, SkT.norm, h2, aA, d1, decide_true, aA, gq, Int.reduceEq, Int.reduceLT, Int.reduceLE, implies_true, reduceCtorEq, if_true, if_false, go_sem, Nat.reduceEqDiff, Nat.reduceLT, Nat.reduceAdd, Nat.reduceSub, Nat.reduceLeDiff, List.reduceReplicate, Int.reduceToNat]
    exact hK1 l1 hp hs
def aE.K : Con := fun args h K => match args with
  | [a0, a1, a2, a3, a4] => aE.H (ctx [(109, bK.C)] [] aE.loops) a0 a1 a2 a3 a4 h K
  | _ => False
theorem aE.spec : SSpec Tryz.prog 133 aE.K := by
  refine SSpec.of (ctx_ok (F := [(109, bK.C)]) (S := []) (by simpa using bK.spec) (by simp) aE.loops) aE.at aE.nm aE.bd ?_
  intro args h K hC
  unfold aE.K at hC
  split at hC
  · rw [aE.eq]; exact hC
  · exact hC.elim
/-- how far a partition has come -/
def PartS (a b i j : Nat) (l : List RecT) : Prop := a + 1 ≤ i ∧ i ≤ j + 1 ∧ j < b ∧ a ≤ j ∧ (∀ k, a < k → k < i → leB (kyL l k) (kyL l a)) ∧ ∀ k, j < k → k < b → leB (kyL l a) (kyL l k)
theorem PartS.swap {a b i j : Nat} {l : List RecT} (h : PartS a b i j l) (hij : i < j) (hb : b ≤ l.length) (h1 : leB (kyL l a) (kyL l i)) (h2 : leB (kyL l j) (kyL l a)) : PartS a b (i + 1) (j - 1) (swapL l i j) := by
  obtain ⟨q1, q2, q3, q4, q5, q6⟩ := h
  have hil : i < l.length := by omega
  have hjl : j < l.length := by omega
  have ea : kyL (swapL l i j) a = kyL l a := by rw [fW hil hjl, if_neg (by omega), if_neg (by omega)]
  refine ⟨by omega, by omega, by omega, by omega, fun k k1 k2 => ?_, fun k k1 k2 => ?_⟩
  · rw [ea, fW hil hjl, if_neg (by omega)]
    by_cases e : k = i
    · rw [if_pos e]; exact h2
    · rw [if_neg e]; exact q5 k k1 (by omega)
  · rw [ea, fW hil hjl]
    by_cases e : k = j
    · rw [if_pos e]; exact h1
    · rw [if_neg e, if_neg (by omega)]; exact q6 k (by omega) k2
theorem PartS.fin {a b i j : Nat} {l : List RecT} (h : PartS a b i j l) (hij : j < i) (hb : b ≤ l.length) : Parted a j b (swapL l a j) := by
  obtain ⟨q1, q2, q3, q4, q5, q6⟩ := h
  have hal : a < l.length := by omega
  have hjl : j < l.length := by omega
  have ej : kyL (swapL l a j) j = kyL l a := by rw [fW hal hjl, if_pos rfl]
  refine ⟨fun k k1 k2 => ?_, fun k k1 k2 => ?_⟩
  · rw [ej, fW hal hjl, if_neg (by omega)]
    by_cases e : k = a
    · rw [if_pos e]; exact q5 j (by omega) (by omega)
    · rw [if_neg e]; exact q5 k (by omega) (by omega)
  · rw [ej, fW hal hjl, if_neg (by omega), if_neg (by omega)]; exact q6 k k1 k2
theorem tB {l : List RecT} {i j : Nat} (hi : i < l.length) (hj : j < l.length) : swapL l i j = swapL l j i := by
  refine List.ext_getElem? fun k => ?_
  have h : ∀ k, (swapL l i j).getD k d0 = (swapL l j i).getD k d0 := fun k => by
    rw [kW hi hj, kW hj hi]
    by_cases e1 : k = j
    · by_cases e2 : k = i
      · rw [if_pos e1, if_pos e2, ← e1, ← e2]
      · rw [if_pos e1, if_neg e2, if_pos e1]
    · rw [if_neg e1, if_neg e1]
  rcases Nat.lt_or_ge k l.length with hk | hk
  · have := h k
    rw [List.getD_eq_getElem?_getD, List.getD_eq_getElem?_getD, List.getElem?_eq_getElem (by rw [iA]; exact hk), List.getElem?_eq_getElem (by rw [iA]; exact hk)] at this
    rw [List.getElem?_eq_getElem (by rw [iA]; exact hk), List.getElem?_eq_getElem (by rw [iA]; exact hk)]
    exact congrArg some this
  · rw [List.getElem?_eq_none (by rw [iA]; exact hk), List.getElem?_eq_none (by rw [iA]; exact hk)]
theorem xK : aE.L4 = aE.L1 := rfl
theorem xL : aE.L5 = aE.L2 := rfl
theorem pK (c : Ctx) (hd : c.drawn = false) (hf : c.envF 109 = bK.C) (A : SkT) (m : Bytes → Bool) (v : Nat) (l : List RecT) (T : List AObj) (n a j i0 : Nat) (hTn : OkT T) (hn : n = l.length) (ha : a < i0) (hj : j < n) (hij : i0 ≤ j + 1) (hr : roomy n)
    (J : AV → AV → AV → AV → AV → List AObj → Prop) (K : AOut → List AObj → Prop)
    (hJ : ∀ i : Nat, i0 ≤ i → i ≤ j + 1 → (∀ k, i0 ≤ k → k < i → leB (kyL l k) (kyL l a)) → (i ≤ j → leB (kyL l a) (kyL l i)) → J (.sref false 2 v 0 n) (.int .i64 a) hitF (.int .i64 i) (.int .i64 j) (.box A.V :: .map (.sb m) :: .row .own v (.recs l) :: T)) :
    aE.L1 c J K [.int .i64 i0] (.box A.V :: .map (.sb m) :: .row .own v (.recs l) :: T) (T.length + 1 + 1 + 1) (.sref false 2 v 0 n) (.int .i64 a) hitF (.int .i64 j) := by
  have hr' := hr
  unfold roomy at hr'
  have h2 : 2 < T.length + 1 + 1 + 1 := by omega
  unfold aE.L1
  refine loop1 (σ := Nat) (fun i => .int .i64 i) (fun s => .box A.V :: .map (.sb m) :: .row .own v (.recs l) :: T) (fun i => j + 1 - i) (fun i => i0 ≤ i ∧ i ≤ j + 1 ∧ ∀ k, i0 ≤ k → k < i → leB (kyL l k) (kyL l a)) i0 rfl rfl ⟨Nat.le_refl _, hij, fun k h1 h2 => by omega⟩ ?_
  rintro I back i ⟨hi1, hi2, hall⟩
  by_cases hle : i ≤ j
  · have d1 : decide ((i : Int) ≤ (j : Int)) = true := decide_eq_true (by omega)
    simp only [hTn _ _, SkT.norm, h2, aA, d1, hd, hf, Int.toNat_natCast, bK.C, d0_def, kyL_def, fT, aA, gq, Int.reduceEq, Int.reduceLT, Int.reduceLE, implies_true, reduceCtorEq, if_true, if_false, go_sem, Nat.reduceEqDiff, Nat.reduceLT, Nat.reduceAdd, Nat.reduceSub, Nat.reduceLeDiff, List.reduceReplicate, Int.reduceToNat]
    refine ⟨⟨by omega, by omega⟩, by omega, ⟨by omega, by omega⟩, by omega, fun h => ?_, fun h => hJ i hi1 hi2 hall fun _ => by unfold leB; simpa using h⟩
    refine back (i + 1) (by omega) (by rw [wnext (by omega)]) rfl ⟨by omega, by omega, fun k k1 k2 => ?_⟩
    by_cases e : k = i
    · subst e; exact jO h
    · exact hall k k1 (by omega)
  · have d1 : decide ((i : Int) ≤ (j : Int)) = false := decide_eq_false (by omega)
    simp only [hTn _ _, SkT.norm, h2, aA, d1, aA, gq, Int.reduceEq, Int.reduceLT, Int.reduceLE, implies_true, reduceCtorEq, if_true, if_false, go_sem, Nat.reduceEqDiff, Nat.reduceLT, Nat.reduceAdd, Nat.reduceSub, Nat.reduceLeDiff, List.reduceReplicate, Int.reduceToNat]
    exact hJ i hi1 hi2 hall fun h => absurd h hle
theorem nB (c : Ctx) (hd : c.drawn = false) (hf : c.envF 109 = bK.C) (A : SkT) (m : Bytes → Bool) (v : Nat) (l : List RecT) (T : List AObj) (n a i j0 : Nat) (hTn : OkT T) (hn : n = l.length) (ha : a < i) (hj : j0 < n) (hij : i ≤ j0 + 1) (hr : roomy n)
    (J : AV → AV → AV → AV → AV → List AObj → Prop) (K : AOut → List AObj → Prop)
    (hJ : ∀ j : Nat, j ≤ j0 → i ≤ j + 1 → (∀ k, j < k → k ≤ j0 → leB (kyL l a) (kyL l k)) → (i ≤ j → ltB (kyL l j) (kyL l a) = true) → J (.sref false 2 v 0 n) (.int .i64 a) hitF (.int .i64 i) (.int .i64 j) (.box A.V :: .map (.sb m) :: .row .own v (.recs l) :: T)) :
    aE.L2 c J K [.int .i64 j0] (.box A.V :: .map (.sb m) :: .row .own v (.recs l) :: T) (T.length + 1 + 1 + 1) (.sref false 2 v 0 n) (.int .i64 a) hitF (.int .i64 i) := by
  have hr' := hr
  unfold roomy at hr'
  have h2 : 2 < T.length + 1 + 1 + 1 := by omega
  unfold aE.L2
  refine loop1 (σ := Nat) (fun i => .int .i64 i) (fun s => .box A.V :: .map (.sb m) :: .row .own v (.recs l) :: T) (fun j => j) (fun j => j ≤ j0 ∧ i ≤ j + 1 ∧ ∀ k, j < k → k ≤ j0 → leB (kyL l a) (kyL l k)) j0 rfl rfl ⟨Nat.le_refl _, hij, fun k h1 h2 => by omega⟩ ?_
  rintro I back j ⟨hj1, hj2, hall⟩
  by_cases hle : i ≤ j
  · have d1 : decide ((i : Int) ≤ (j : Int)) = true := decide_eq_true (by omega)
    have e1 : IntKind.i64.wrap ((j : Int) - 1) = ((j - 1 : Nat) : Int) := by rw [w64 (by omega) (by omega)]; omega
    simp only [hTn _ _, SkT.norm, h2, aA, d1, e1, hd, hf, Int.toNat_natCast, bK.C, d0_def, kyL_def, fT, aA, gq, Int.reduceEq, Int.reduceLT, Int.reduceLE, implies_true, reduceCtorEq, if_true, if_false, go_sem, Nat.reduceEqDiff, Nat.reduceLT, Nat.reduceAdd, Nat.reduceSub, Nat.reduceLeDiff, List.reduceReplicate, Int.reduceToNat]
    refine ⟨⟨by omega, by omega⟩, by omega, ⟨by omega, by omega⟩, by omega, ?_⟩
    cases hlt : ltB (kyL l j) (kyL l a) with
    | false =>
      simp only [aA, gq, Int.reduceEq, Int.reduceLT, Int.reduceLE, implies_true, reduceCtorEq, if_true, if_false, go_sem, Nat.reduceEqDiff, Nat.reduceLT, Nat.reduceAdd, Nat.reduceSub, Nat.reduceLeDiff, List.reduceReplicate, Int.reduceToNat]
      refine back (j - 1) (by omega) rfl rfl ⟨by omega, by omega, fun k k1 k2 => ?_⟩
      by_cases e : k = j
      · subst e; exact hlt
      · exact hall k (by omega) k2
    | true =>
      simp only [aA, gq, Int.reduceEq, Int.reduceLT, Int.reduceLE, implies_true, reduceCtorEq, if_true, if_false, go_sem, Nat.reduceEqDiff, Nat.reduceLT, Nat.reduceAdd, Nat.reduceSub, Nat.reduceLeDiff, List.reduceReplicate, Int.reduceToNat]
      exact hJ j hj1 hj2 hall fun _ => hlt
  · have d1 : decide ((i : Int) ≤ (j : Int)) = false := decide_eq_false (by omega)
    simp only [hTn _ _, SkT.norm, h2, aA, d1, aA, gq, Int.reduceEq, Int.reduceLT, Int.reduceLE, implies_true, reduceCtorEq, if_true, if_false, go_sem, Nat.reduceEqDiff, Nat.reduceLT, Nat.reduceAdd, Nat.reduceSub, Nat.reduceLeDiff, List.reduceReplicate, Int.reduceToNat]
    exact hJ j hj1 hj2 hall fun h => absurd h hle
theorem zC (A : SkT) (m : Bytes → Bool) (v : Nat) (l : List RecT) (T : List AObj) (hTn : OkT T) (n a b p : Nat) (hn : n = l.length) (hab : a + 1 < b) (hbn : b ≤ n) (hp : a ≤ p) (hpb : p < b) (hr : roomy n) (K : AOut → List AObj → Prop)
    (hK : ∀ l' q al, SegP a b l l' → a ≤ q → q < b → Parted a q b l' → K (.ret (.tup [.int .i64 q, .bool al])) (hpS A m v l' T)) :
    aE.K [.sref false 2 v 0 n, .int .i64 a, .int .i64 b, .int .i64 p, hitF] (hpS A m v l T) K := by
  have hr' := hr
  unfold roomy at hr'
  have h2 : 2 < T.length + 1 + 1 + 1 := by omega
  have e1 : IntKind.i64.wrap ((b : Int) - 1) = ((b - 1 : Nat) : Int) := by rw [w64 (by omega) (by omega)]; omega
  unfold aE.K aE.H
  simp only [hpS, hTn _ _, SkT.norm, h2, e1, wnext (show a < 4611686018427387904 by omega), aA, Int.toNat_natCast, d0_def, kyL_def, rec_eta, fM, List.length_set, aA, gq, Int.reduceEq, Int.reduceLT, Int.reduceLE, implies_true, reduceCtorEq, if_true, if_false, go_sem, Nat.reduceEqDiff, Nat.reduceLT, Nat.reduceAdd, Nat.reduceSub, Nat.reduceLeDiff, List.reduceReplicate, Int.reduceToNat] at hK ⊢
  refine ⟨⟨by omega, by omega⟩, by omega, ⟨by omega, by omega⟩, by omega, ⟨by omega, by omega⟩, by omega, ⟨by omega, by omega⟩, by omega, ?_⟩
  have hp1 : SegP a b l (swapL l a p) := SegP.swap (by omega) (by omega) (by omega) (by omega) (by omega)
  generalize swapL l a p = l1 at *
  have hl1 := hp1.len
  refine pK _ rfl rfl A m v l1 T n a (b - 1) (a + 1) hTn (by omega) (by omega) (by omega) (by omega) hr _ _ fun i hi1 hi2 hi3 hi4 => ?_
  simp only [hTn _ _, SkT.norm, h2, aA, gq, Int.reduceEq, Int.reduceLT, Int.reduceLE, implies_true, reduceCtorEq, if_true, if_false, go_sem, Nat.reduceEqDiff, Nat.reduceLT, Nat.reduceAdd, Nat.reduceSub, Nat.reduceLeDiff, List.reduceReplicate, Int.reduceToNat]
  refine nB _ rfl rfl A m v l1 T n a i (b - 1) hTn (by omega) (by omega) (by omega) (by omega) hr _ _ fun j hj1 hj2 hj3 hj4 => ?_
  have hS : PartS a b i j l1 := ⟨hi1, hj2, by omega, by omega, fun k k1 k2 => hi3 k (by omega) k2, fun k k1 k2 => hj3 k k1 (by omega)⟩
  have e2 : j ≠ 0 → IntKind.i64.wrap ((j : Int) - 1) = ((j - 1 : Nat) : Int) := fun h => by rw [w64 (by omega) (by omega)]; omega
  simp only [hTn _ _, SkT.norm, h2, wnext (show i < 4611686018427387904 by omega), aA, Int.toNat_natCast, d0_def, kyL_def, rec_eta, fM, List.length_set, aA, gq, Int.reduceEq, Int.reduceLT, Int.reduceLE, implies_true, reduceCtorEq, if_true, if_false, go_sem, Nat.reduceEqDiff, Nat.reduceLT, Nat.reduceAdd, Nat.reduceSub, Nat.reduceLeDiff, List.reduceReplicate, Int.reduceToNat]
  refine ⟨fun hgt => ⟨⟨by omega, by omega⟩, by omega, ⟨by omega, by omega⟩, by omega, ⟨by omega, by omega⟩, by omega, ⟨by omega, by omega⟩, by omega, ?_⟩, fun hle => ⟨⟨by omega, by omega⟩, by omega, ⟨by omega, by omega⟩, by omega, ⟨by omega, by omega⟩, by omega, ⟨by omega, by omega⟩, by omega, ?_⟩⟩
  · rw [tB (by omega) (by omega)]
    exact hK _ j true (hp1.trans (SegP.swap (by omega) (by omega) (by omega) (by omega) (by omega))) (by omega) (by omega) (hS.fin (by omega) (by omega))
  have hij : i < j := by
    rcases Nat.lt_or_ge i j with h | h
    · exact h
    · exfalso
      obtain rfl : i = j := by omega
      have := hj4 (Nat.le_refl _)
      have h' := hi4 (by omega)
      unfold leB at h'
      rw [this] at h'; cases h'
  have hS2 := hS.swap hij (by omega) (hi4 (by omega)) (jO (hj4 (by omega)))
  have hp2 : SegP a b l (swapL l1 i j) := hp1.trans (SegP.swap (by omega) (by omega) (by omega) (by omega) (by omega))
  generalize swapL l1 i j = l2 at *
  rw [e2 (by omega)]
  unfold aE.L3
  refine loop2 (σ := List RecT × Nat × Nat) (fun s => .int .i64 s.2.1) (fun s => .int .i64 s.2.2) (fun s => .box A.V :: .map (.sb m) :: .row .own v (.recs s.1) :: T) (fun s => s.2.2) (fun s => SegP a b l s.1 ∧ PartS a b s.2.1 s.2.2 s.1) (l2, i + 1, j - 1) rfl rfl ⟨hp2, hS2⟩ ?_
  rintro I back ⟨l3, i3, j3⟩ ⟨hp3, q1, q2, q3, q4, q5, q6⟩
  simp only at hp3 q1 q2 q3 q4 q5 q6 ⊢
  have hl3 := hp3.len
  simp only [hTn _ _, SkT.norm, h2, aA, xK, xL, aA, gq, Int.reduceEq, Int.reduceLT, Int.reduceLE, implies_true, reduceCtorEq, if_true, if_false, go_sem, Nat.reduceEqDiff, Nat.reduceLT, Nat.reduceAdd, Nat.reduceSub, Nat.reduceLeDiff, List.reduceReplicate, Int.reduceToNat]
  refine pK _ rfl rfl A m v l3 T n a j3 i3 hTn (by omega) (by omega) (by omega) (by omega) hr _ _ fun i4 g1 g2 g3 g4 => ?_
  simp only [hTn _ _, SkT.norm, h2, aA, gq, Int.reduceEq, Int.reduceLT, Int.reduceLE, implies_true, reduceCtorEq, if_true, if_false, go_sem, Nat.reduceEqDiff, Nat.reduceLT, Nat.reduceAdd, Nat.reduceSub, Nat.reduceLeDiff, List.reduceReplicate, Int.reduceToNat]
  refine nB _ rfl rfl A m v l3 T n a i4 j3 hTn (by omega) (by omega) (by omega) (by omega) hr _ _ fun j4 k1 k2 k3 k4 => ?_
  have hS4 : PartS a b i4 j4 l3 := ⟨by omega, k2, by omega, by omega, fun k z1 z2 => by
    by_cases e : k < i3
    · exact q5 k z1 e
    · exact g3 k (by omega) z2, fun k z1 z2 => by
    by_cases e : j3 < k
    · exact q6 k e z2
    · exact k3 k z1 (by omega)⟩
  have e4 : j4 ≠ 0 → IntKind.i64.wrap ((j4 : Int) - 1) = ((j4 - 1 : Nat) : Int) := fun h => by rw [w64 (by omega) (by omega)]; omega
  simp only [hTn _ _, SkT.norm, h2, wnext (show i4 < 4611686018427387904 by omega), aA, Int.toNat_natCast, d0_def, kyL_def, rec_eta, fM, List.length_set, aA, gq, Int.reduceEq, Int.reduceLT, Int.reduceLE, implies_true, reduceCtorEq, if_true, if_false, go_sem, Nat.reduceEqDiff, Nat.reduceLT, Nat.reduceAdd, Nat.reduceSub, Nat.reduceLeDiff, List.reduceReplicate, Int.reduceToNat]
  refine ⟨fun hgt => ⟨⟨by omega, by omega⟩, by omega, ⟨by omega, by omega⟩, by omega, ⟨by omega, by omega⟩, by omega, ⟨by omega, by omega⟩, by omega, ?_⟩, fun hle => ⟨⟨by omega, by omega⟩, by omega, ⟨by omega, by omega⟩, by omega, ⟨by omega, by omega⟩, by omega, ⟨by omega, by omega⟩, by omega, ?_⟩⟩
  · rw [tB (by omega) (by omega)]
    exact hK _ j4 false (hp3.trans (SegP.swap (by omega) (by omega) (by omega) (by omega) (by omega))) (by omega) (by omega) (hS4.fin (by omega) (by omega))
  · have hij4 : i4 < j4 := by
      rcases Nat.lt_or_ge i4 j4 with h | h
      · exact h
      · exfalso
        obtain rfl : i4 = j4 := by omega
        have := k4 (Nat.le_refl _)
        have h' := g4 (by omega)
        unfold leB at h'
        rw [this] at h'; cases h'
    rw [e4 (by omega)]
    exact back (swapL l3 i4 j4, i4 + 1, j4 - 1) (by simp only; omega) rfl rfl ⟨hp3.trans (SegP.swap (by omega) (by omega) (by omega) (by omega) (by omega)), hS4.swap hij4 (by omega) (g4 (by omega)) (jO (k4 (by omega)))⟩
end Lam
namespace Lam
set_option maxRecDepth 20000
open Go Go.Proofs
set_option linter.unusedVariables false
set_option linter.unnecessarySimpa false
set_option linter.unusedSimpArgs false
def aP.K : Con := fun args h K => match args with
  | [a0, a1, a2, a3] => aP.H (ctx [] [] aP.loops) a0 a1 a2 a3 h K
  | _ => False
theorem aP.spec : SSpec Tryz.prog 130 aP.K := by
  refine SSpec.of (ctx_ok (F := []) (S := []) (by simp) (by simp) aP.loops) aP.at aP.nm aP.bd ?_
  intro args h K hC
  unfold aP.K at hC
  split at hC
  · rw [aP.eq]; exact hC
  · exact hC.elim
theorem aBo (A : SkT) (m : Bytes → Bool) (v : Nat) (l : List RecT) (T : List AObj) (hTn : OkT T) (n a b : Nat) (hn : n = l.length) (hab : a < b) (hbn : b ≤ n) (hr : roomy n) (K : AOut → List AObj → Prop)
    (hK : ∀ l', SegP a b l l' → K (.ret (.tup [])) (hpS A m v l' T)) :
    aP.K [.sref false 2 v 0 n, .int .i64 a, .int .i64 b, hitF] (hpS A m v l T) K := by
  have hr' := hr
  unfold roomy at hr'
  have h2 : 2 < T.length + 1 + 1 + 1 := by omega
  have e1 : IntKind.i64.wrap ((b : Int) - 1) = ((b - 1 : Nat) : Int) := by rw [w64 (by omega) (by omega)]; omega
  unfold aP.K aP.H
  simp only [hpS, hTn _ _, SkT.norm, h2, e1, aA, gq, Int.reduceEq, Int.reduceLT, Int.reduceLE, implies_true, reduceCtorEq, if_true, if_false, go_sem, Nat.reduceEqDiff, Nat.reduceLT, Nat.reduceAdd, Nat.reduceSub, Nat.reduceLeDiff, List.reduceReplicate, Int.reduceToNat] at hK ⊢
  unfold aP.L1
  refine loop2 (σ := List RecT × Nat × Nat) (fun s => .int .i64 s.2.1) (fun s => .int .i64 s.2.2) (fun s => .box A.V :: .map (.sb m) :: .row .own v (.recs s.1) :: T) (fun s => s.2.2) (fun s => a ≤ s.2.1 ∧ s.2.2 < b ∧ s.2.1 ≤ n ∧ SegP a b l s.1) (l, a, b - 1) rfl rfl ⟨Nat.le_refl _, by simp only; omega, by simp only; omega, SegP.refl⟩ ?_
  rintro I back ⟨l1, i, j⟩ ⟨hi, hj, hin, hp⟩
  simp only at hi hj hin hp ⊢
  have hl1 := hp.len
  by_cases hij : i < j
  · have e2 : IntKind.i64.wrap ((j : Int) - 1) = ((j - 1 : Nat) : Int) := by rw [w64 (by omega) (by omega)]; omega
    have d1 : decide ((i : Int) < (j : Int)) = true := decide_eq_true (by omega)
    simp only [hTn _ _, SkT.norm, h2, aA, d1, e2, wnext (show i < 4611686018427387904 by omega), Int.toNat_natCast, d0_def, rec_eta, fM, List.length_set, aA, gq, Int.reduceEq, Int.reduceLT, Int.reduceLE, implies_true, reduceCtorEq, if_true, if_false, go_sem, Nat.reduceEqDiff, Nat.reduceLT, Nat.reduceAdd, Nat.reduceSub, Nat.reduceLeDiff, List.reduceReplicate, Int.reduceToNat]
    exact ⟨⟨by omega, by omega⟩, by omega, ⟨by omega, by omega⟩, by omega, ⟨by omega, by omega⟩, by omega, ⟨by omega, by omega⟩, by omega, back (swapL l1 i j, i + 1, j - 1) (by simp only; omega) rfl rfl ⟨by simp only; omega, by simp only; omega, by simp only; omega, hp.trans (SegP.swap (by omega) (by omega) (by omega) (by omega) (by omega))⟩⟩
  · have d1 : decide ((i : Int) < (j : Int)) = false := decide_eq_false (by omega)
    simp only [hTn _ _, SkT.norm, h2, aA, d1, aA, gq, Int.reduceEq, Int.reduceLT, Int.reduceLE, implies_true, reduceCtorEq, if_true, if_false, go_sem, Nat.reduceEqDiff, Nat.reduceLT, Nat.reduceAdd, Nat.reduceSub, Nat.reduceLeDiff, List.reduceReplicate, Int.reduceToNat]
    exact hK l1 hp
def aU.K : Con := fun args h K => match args with
  | [a0, a1, a2, a3, a4] => aU.H (ctx [(109, bK.C)] [] aU.loops) a0 a1 a2 a3 a4 h K
  | _ => False
theorem aU.spec : SSpec Tryz.prog 142 aU.K := by
  refine SSpec.of (ctx_ok (F := [(109, bK.C)]) (S := []) (by simpa using bK.spec) (by simp) aU.loops) aU.at aU.nm aU.bd ?_
  intro args h K hC
  unfold aU.K at hC
  split at hC
  · rw [aU.eq]; exact hC
  · exact hC.elim
theorem sift_K (A : SkT) (m : Bytes → Bool) (v : Nat) (l : List RecT) (T : List AObj) (hTn : OkT T) (n lo hi a : Nat) (hn : n = l.length) (hlo : lo ≤ n) (hah : a + hi ≤ n) (hr : roomy n) (hh : HeapS a (lo + 1) hi l) (K : AOut → List AObj → Prop)
    (hK : ∀ l', SegP a (a + hi) l l' → HeapS a lo hi l' → K (.ret (.tup [])) (hpS A m v l' T)) :
    aU.K [.sref false 2 v 0 n, .int .i64 lo, .int .i64 hi, .int .i64 a, hitF] (hpS A m v l T) K := by
  have hr' := hr
  unfold roomy at hr'
  have h2 : 2 < T.length + 1 + 1 + 1 := by omega
  unfold aU.K aU.H
  simp only [hpS, hTn _ _, SkT.norm, h2, aA, gq, Int.reduceEq, Int.reduceLT, Int.reduceLE, implies_true, reduceCtorEq, if_true, if_false, go_sem, Nat.reduceEqDiff, Nat.reduceLT, Nat.reduceAdd, Nat.reduceSub, Nat.reduceLeDiff, List.reduceReplicate, Int.reduceToNat] at hK ⊢
  unfold aU.L1
  refine loop1 (σ := List RecT × Nat) (fun s => .int .i64 s.2) (fun s => .box A.V :: .map (.sb m) :: .row .own v (.recs s.1) :: T) (fun s => n + 1 - s.2) (fun s => lo ≤ s.2 ∧ s.2 ≤ n ∧ SegP a (a + hi) l s.1 ∧ SiftS a lo s.2 hi s.1) (l, lo) rfl rfl ⟨Nat.le_refl _, hlo, SegP.refl, SiftS.begin hh⟩ ?_
  rintro I back ⟨l1, r⟩ ⟨hr1, hr2, hp, hs⟩
  simp only at hr1 hr2 hp hs ⊢
  have hl1 := hp.len
  have e1 : IntKind.i64.wrap (2 * (r : Int)) = ((2 * r : Nat) : Int) := by rw [w64 (by omega) (by omega)]; omega
  have e2 : ∀ k : Nat, k ≤ 4 * n + 4 → IntKind.i64.wrap ((a : Int) + (k : Int)) = ((a + k : Nat) : Int) := fun k hk => by rw [w64 (by omega) (by omega)]; omega
  simp only [hTn _ _, SkT.norm, h2, aA, e1, wnext (show 2 * r < 4611686018427387904 by omega), wnext (show 2 * r + 1 < 4611686018427387904 by omega), e2 (2 * r + 1) (by omega), e2 r (by omega), wnext (show a + (2 * r + 1) < 4611686018427387904 by omega), aA, gq, Int.reduceEq, Int.reduceLT, Int.reduceLE, implies_true, reduceCtorEq, if_true, if_false, go_sem, Nat.reduceEqDiff, Nat.reduceLT, Nat.reduceAdd, Nat.reduceSub, Nat.reduceLeDiff, List.reduceReplicate, Int.reduceToNat]
  refine ⟨fun hge => hK l1 hp (hs.done fun c hc hch => by omega), fun hlt => ?_⟩
  have e3 : ∀ c : Nat, c ≤ 2 * r + 2 → IntKind.i64.wrap ((a : Int) + (c : Int)) = ((a + c : Nat) : Int) := fun c hc => e2 c (by omega)
  have hfin : ∀ c : Nat, (c = 2 * r + 1 ∨ c = 2 * r + 2) → c < hi → (∀ d, (d = 2 * r + 1 ∨ d = 2 * r + 2) → d < hi → leB (kyL l1 (a + d)) (kyL l1 (a + c))) → ltB (kyL l1 (a + r)) (kyL l1 (a + c)) = true →
      ∃ m_1, m_1 < n + 1 - r ∧ I m_1 [.int .i64 c] (.box A.V :: .map (.sb m) :: .row .own v (.recs (swapL l1 (a + r) (a + c))) :: T) := fun c h1 h3 h4 h5 =>
    back (swapL l1 (a + r) (a + c), c) (by simp only; omega) rfl rfl ⟨by simp only; omega, by simp only; omega, hp.trans (SegP.swap (by omega) (by omega) (by omega) (by omega) (by omega)), hs.step hr1 h1 h3 (by omega) (jO h5) h4⟩
  have hstop : ∀ c : Nat, (c = 2 * r + 1 ∨ c = 2 * r + 2) → c < hi → (∀ d, (d = 2 * r + 1 ∨ d = 2 * r + 2) → d < hi → leB (kyL l1 (a + d)) (kyL l1 (a + c))) → ltB (kyL l1 (a + r)) (kyL l1 (a + c)) = false → HeapS a lo hi l1 := fun c h1 h3 h4 h5 =>
    hs.done fun d q1 q2 => kV (h4 d q1 q2) h5
  by_cases h22 : 2 * r + 2 < hi
  rotate_left
  · have d1 : decide (((2 * r + 1 + 1 : Nat) : Int) < (hi : Int)) = false := decide_eq_false (by omega)
    have hle : ∀ d, (d = 2 * r + 1 ∨ d = 2 * r + 2) → d < hi → leB (kyL l1 (a + d)) (kyL l1 (a + (2 * r + 1))) := fun d q1 q2 => by
      obtain rfl : d = 2 * r + 1 := by omega
      exact nR _
    cases hlt2 : ltB (kyL l1 (a + r)) (kyL l1 (a + (2 * r + 1))) with
    | false =>
      simp only [hTn _ _, SkT.norm, h2, aA, d1, hlt2, e3 (2 * r + 1) (by omega), Int.toNat_natCast, bK.C, d0_def, kyL_def, fT, rec_eta, fM, List.length_set, aA, gq, Int.reduceEq, Int.reduceLT, Int.reduceLE, implies_true, reduceCtorEq, if_true, if_false, go_sem, Nat.reduceEqDiff, Nat.reduceLT, Nat.reduceAdd, Nat.reduceSub, Nat.reduceLeDiff, List.reduceReplicate, Int.reduceToNat]
      exact ⟨⟨by omega, by omega⟩, by omega, ⟨by omega, by omega⟩, by omega, hK l1 hp (hstop _ (.inl rfl) (by omega) hle hlt2)⟩
    | true =>
      simp only [hTn _ _, SkT.norm, h2, aA, d1, hlt2, e3 (2 * r + 1) (by omega), Int.toNat_natCast, bK.C, d0_def, kyL_def, fT, rec_eta, fM, List.length_set, aA, gq, Int.reduceEq, Int.reduceLT, Int.reduceLE, implies_true, reduceCtorEq, if_true, if_false, go_sem, Nat.reduceEqDiff, Nat.reduceLT, Nat.reduceAdd, Nat.reduceSub, Nat.reduceLeDiff, List.reduceReplicate, Int.reduceToNat]
      exact ⟨⟨by omega, by omega⟩, by omega, ⟨by omega, by omega⟩, by omega, ⟨by omega, by omega⟩, by omega, ⟨by omega, by omega⟩, by omega, ⟨by omega, by omega⟩, by omega, ⟨by omega, by omega⟩, by omega, hfin _ (.inl rfl) (by omega) hle hlt2⟩
  · have d1 : decide (((2 * r + 1 + 1 : Nat) : Int) < (hi : Int)) = true := decide_eq_true (by omega)
    cases hch : ltB (kyL l1 (a + (2 * r + 1))) (kyL l1 (a + (2 * r + 1) + 1)) with
    | false =>
      have hle : ∀ d, (d = 2 * r + 1 ∨ d = 2 * r + 2) → d < hi → leB (kyL l1 (a + d)) (kyL l1 (a + (2 * r + 1))) := fun d q1 q2 => by
        rcases q1 with rfl | rfl
        · exact nR _
        · exact hch
      cases hlt2 : ltB (kyL l1 (a + r)) (kyL l1 (a + (2 * r + 1))) with
      | false =>
        simp only [hTn _ _, SkT.norm, h2, aA, d1, hch, hlt2, e3 (2 * r + 1) (by omega), Int.toNat_natCast, bK.C, d0_def, kyL_def, fT, rec_eta, fM, List.length_set, aA, gq, Int.reduceEq, Int.reduceLT, Int.reduceLE, implies_true, reduceCtorEq, if_true, if_false, go_sem, Nat.reduceEqDiff, Nat.reduceLT, Nat.reduceAdd, Nat.reduceSub, Nat.reduceLeDiff, List.reduceReplicate, Int.reduceToNat]
        exact ⟨⟨by omega, by omega⟩, by omega, ⟨by omega, by omega⟩, by omega, ⟨by omega, by omega⟩, by omega, ⟨by omega, by omega⟩, by omega, hK l1 hp (hstop _ (.inl rfl) (by omega) hle hlt2)⟩
      | true =>
        simp only [hTn _ _, SkT.norm, h2, aA, d1, hch, hlt2, e3 (2 * r + 1) (by omega), Int.toNat_natCast, bK.C, d0_def, kyL_def, fT, rec_eta, fM, List.length_set, aA, gq, Int.reduceEq, Int.reduceLT, Int.reduceLE, implies_true, reduceCtorEq, if_true, if_false, go_sem, Nat.reduceEqDiff, Nat.reduceLT, Nat.reduceAdd, Nat.reduceSub, Nat.reduceLeDiff, List.reduceReplicate, Int.reduceToNat]
        exact ⟨⟨by omega, by omega⟩, by omega, ⟨by omega, by omega⟩, by omega, ⟨by omega, by omega⟩, by omega, ⟨by omega, by omega⟩, by omega, ⟨by omega, by omega⟩, by omega, ⟨by omega, by omega⟩, by omega, ⟨by omega, by omega⟩, by omega, ⟨by omega, by omega⟩, by omega, hfin _ (.inl rfl) (by omega) hle hlt2⟩
    | true =>
      have hle : ∀ d, (d = 2 * r + 1 ∨ d = 2 * r + 2) → d < hi → leB (kyL l1 (a + d)) (kyL l1 (a + (2 * r + 1 + 1))) := fun d q1 q2 => by
        rcases q1 with rfl | rfl
        · exact jO hch
        · exact nR _
      cases hlt2 : ltB (kyL l1 (a + r)) (kyL l1 (a + (2 * r + 1 + 1))) with
      | false =>
        simp only [hTn _ _, SkT.norm, h2, aA, d1, hch, hlt2, e3 (2 * r + 1 + 1) (by omega), Int.toNat_natCast, bK.C, d0_def, kyL_def, fT, rec_eta, fM, List.length_set, aA, gq, Int.reduceEq, Int.reduceLT, Int.reduceLE, implies_true, reduceCtorEq, if_true, if_false, go_sem, Nat.reduceEqDiff, Nat.reduceLT, Nat.reduceAdd, Nat.reduceSub, Nat.reduceLeDiff, List.reduceReplicate, Int.reduceToNat]
        exact ⟨⟨by omega, by omega⟩, by omega, ⟨by omega, by omega⟩, by omega, ⟨by omega, by omega⟩, by omega, ⟨by omega, by omega⟩, by omega, hK l1 hp (hstop _ (.inr rfl) (by omega) hle hlt2)⟩
      | true =>
        simp only [hTn _ _, SkT.norm, h2, aA, d1, hch, hlt2, e3 (2 * r + 1 + 1) (by omega), Int.toNat_natCast, bK.C, d0_def, kyL_def, fT, rec_eta, fM, List.length_set, aA, gq, Int.reduceEq, Int.reduceLT, Int.reduceLE, implies_true, reduceCtorEq, if_true, if_false, go_sem, Nat.reduceEqDiff, Nat.reduceLT, Nat.reduceAdd, Nat.reduceSub, Nat.reduceLeDiff, List.reduceReplicate, Int.reduceToNat]
        exact ⟨⟨by omega, by omega⟩, by omega, ⟨by omega, by omega⟩, by omega, ⟨by omega, by omega⟩, by omega, ⟨by omega, by omega⟩, by omega, ⟨by omega, by omega⟩, by omega, ⟨by omega, by omega⟩, by omega, ⟨by omega, by omega⟩, by omega, ⟨by omega, by omega⟩, by omega, hfin _ (.inr rfl) (by omega) hle hlt2⟩
def aR.K : Con := fun args h K => match args with
  | [a0, a1, a2, a3] => aR.H (ctx [] [(142, aU.K)] aR.loops) a0 a1 a2 a3 h K
  | _ => False
theorem aR.spec : SSpec Tryz.prog 127 aR.K := by
  refine SSpec.of (ctx_ok (F := []) (S := [(142, aU.K)]) (by simp) (by simpa using aU.spec) aR.loops) aR.at aR.nm aR.bd ?_
  intro args h K hC
  unfold aR.K at hC
  split at hC
  · rw [aR.eq]; exact hC
  · exact hC.elim
theorem heap_K (A : SkT) (m : Bytes → Bool) (v : Nat) (l : List RecT) (T : List AObj) (hTn : OkT T) (n a b : Nat) (hn : n = l.length) (hab : a < b) (hbn : b ≤ n) (hr : roomy n) (K : AOut → List AObj → Prop)
    (hK : ∀ l', SegP a b l l' → SegS a b l' → K (.ret (.tup [])) (hpS A m v l' T)) :
    aR.K [.sref false 2 v 0 n, .int .i64 a, .int .i64 b, hitF] (hpS A m v l T) K := by
  have hr' := hr
  unfold roomy at hr'
  have h2 : 2 < T.length + 1 + 1 + 1 := by omega
  have e0 : IntKind.i64.wrap ((b : Int) - a) = ((b - a : Nat) : Int) := by rw [w64 (by omega) (by omega)]; omega
  have e1 : IntKind.i64.wrap (((b - a : Nat) : Int) - 1) = ((b - a - 1 : Nat) : Int) := by rw [w64 (by omega) (by omega)]; omega
  have e2 : IntKind.i64.wrap (((b - a - 1 : Nat) : Int).tdiv 2) = (((b - a - 1) / 2 + 1 : Nat) : Int) - 1 := by
    rw [Int.tdiv_eq_ediv_of_nonneg (by omega), w64 (by omega) (by omega)]; omega
  unfold aR.K aR.H
  simp only [hpS, hTn _ _, SkT.norm, h2, e0, e1, e2, aA, gq, Int.reduceEq, Int.reduceLT, Int.reduceLE, implies_true, reduceCtorEq, if_true, if_false, go_sem, Nat.reduceEqDiff, Nat.reduceLT, Nat.reduceAdd, Nat.reduceSub, Nat.reduceLeDiff, List.reduceReplicate, Int.reduceToNat] at hK ⊢
  unfold aR.L1
  refine loop1 (σ := List RecT × Nat) (fun s => .int .i64 ((s.2 : Int) - 1)) (fun s => .box A.V :: .map (.sb m) :: .row .own v (.recs s.1) :: T) (fun s => s.2) (fun s => s.2 ≤ n ∧ SegP a b l s.1 ∧ HeapS a s.2 (b - a) s.1) (l, (b - a - 1) / 2 + 1) rfl rfl ⟨by simp only; omega, SegP.refl, fun i c q1 q2 q3 => by simp only at q1; omega⟩ ?_
  rintro I back ⟨l1, k⟩ ⟨hk, hp, hh⟩
  simp only at hk hp hh ⊢
  have hl1 := hp.len
  have e3 : IntKind.i64.wrap ((k : Int) - 1 - 1) = ((k - 1 : Nat) : Int) - 1 ∨ k = 0 := by
    rcases Nat.eq_zero_or_pos k with h | h
    · exact .inr h
    · left; rw [w64 (by omega) (by omega)]; omega
  by_cases hk0 : k = 0
  rotate_left
  · have e3 := e3.resolve_right hk0
    have d1 : decide ((0 : Int) ≤ (k : Int) - 1) = true := decide_eq_true (by omega)
    have e4 : (k : Int) - 1 = ((k - 1 : Nat) : Int) := by omega
    rw [e4] at e3 d1 ⊢
    simp only [hTn _ _, SkT.norm, h2, aA, d1, aA, gq, Int.reduceEq, Int.reduceLT, Int.reduceLE, implies_true, reduceCtorEq, if_true, if_false, go_sem, Nat.reduceEqDiff, Nat.reduceLT, Nat.reduceAdd, Nat.reduceSub, Nat.reduceLeDiff, List.reduceReplicate, Int.reduceToNat]
    refine sift_K A m v l1 T hTn n (k - 1) (b - a) a (by omega) (by omega) (by omega) hr (by rw [show k - 1 + 1 = k by omega]; exact hh) _ fun l2 p2 h2' => ?_
    simp only [hpS, hTn _ _, SkT.norm, h2, e3, aA, gq, Int.reduceEq, Int.reduceLT, Int.reduceLE, implies_true, reduceCtorEq, if_true, if_false, go_sem, Nat.reduceEqDiff, Nat.reduceLT, Nat.reduceAdd, Nat.reduceSub, Nat.reduceLeDiff, List.reduceReplicate, Int.reduceToNat]
    exact back (l2, k - 1) (by simp only; omega) rfl rfl ⟨by simp only; omega, hp.trans (p2.mono (Nat.le_refl _) (by omega)), h2'⟩
  subst hk0
  have e5 : IntKind.i64.wrap (((b - a : Nat) : Int) - 1) = ((b - a : Nat) : Int) - 1 := w64 (by omega) (by omega)
  simp only [hTn _ _, SkT.norm, h2, aA, e5, aA, gq, Int.reduceEq, Int.reduceLT, Int.reduceLE, implies_true, reduceCtorEq, if_true, if_false, go_sem, Nat.reduceEqDiff, Nat.reduceLT, Nat.reduceAdd, Nat.reduceSub, Nat.reduceLeDiff, List.reduceReplicate, Int.reduceToNat]
  refine ⟨fun h => absurd h (by omega), fun _ => ?_⟩
  unfold aR.L2
  refine loop1 (σ := List RecT × Nat) (fun s => .int .i64 ((s.2 : Int) - 1)) (fun s => .box A.V :: .map (.sb m) :: .row .own v (.recs s.1) :: T) (fun s => s.2) (fun s => s.2 ≤ b - a ∧ SegP a b l s.1 ∧ DownS a s.2 b s.1) (l1, b - a) rfl rfl ⟨Nat.le_refl _, hp, DownS.begin (by omega) hh⟩ ?_
  rintro I2 back2 ⟨l2, k⟩ ⟨hk, hp2, hd⟩
  simp only at hk hp2 hd ⊢
  have hl2 := hp2.len
  by_cases hk0 : k = 0
  · subst hk0
    simp only [hTn _ _, SkT.norm, h2, aA, aA, gq, Int.reduceEq, Int.reduceLT, Int.reduceLE, implies_true, reduceCtorEq, if_true, if_false, go_sem, Nat.reduceEqDiff, Nat.reduceLT, Nat.reduceAdd, Nat.reduceSub, Nat.reduceLeDiff, List.reduceReplicate, Int.reduceToNat]
    exact ⟨fun h => absurd h (by omega), fun _ => hK l2 hp2 hd.fin⟩
  · have d1 : decide ((0 : Int) ≤ (k : Int) - 1) = true := decide_eq_true (by omega)
    have e3 : IntKind.i64.wrap ((k : Int) - 1 - 1) = ((k - 1 : Nat) : Int) - 1 := by rw [w64 (by omega) (by omega)]; omega
    have e4 : (k : Int) - 1 = ((k - 1 : Nat) : Int) := by omega
    have e6 : IntKind.i64.wrap ((a : Int) + ((k - 1 : Nat) : Int)) = ((a + (k - 1) : Nat) : Int) := by rw [w64 (by omega) (by omega)]; omega
    rw [e4] at e3 d1 ⊢
    have hd' : DownS a (k - 1 + 1) b l2 := by rw [show k - 1 + 1 = k by omega]; exact hd
    simp only [hTn _ _, SkT.norm, h2, aA, d1, e6, Int.toNat_natCast, d0_def, rec_eta, fM, List.length_set, aA, gq, Int.reduceEq, Int.reduceLT, Int.reduceLE, implies_true, reduceCtorEq, if_true, if_false, go_sem, Nat.reduceEqDiff, Nat.reduceLT, Nat.reduceAdd, Nat.reduceSub, Nat.reduceLeDiff, List.reduceReplicate, Int.reduceToNat]
    refine ⟨⟨by omega, by omega⟩, by omega, ⟨by omega, by omega⟩, by omega, ⟨by omega, by omega⟩, by omega, ⟨by omega, by omega⟩, by omega, ?_⟩
    refine sift_K A m v (swapL l2 a (a + (k - 1))) T hTn n 0 (k - 1) a (by rw [iA]; omega) (Nat.zero_le _) (by omega) hr (hd'.heap (by omega) (by omega)) _ fun l3 p3 h3 => ?_
    simp only [hpS, hTn _ _, SkT.norm, h2, e3, aA, gq, Int.reduceEq, Int.reduceLT, Int.reduceLE, implies_true, reduceCtorEq, if_true, if_false, go_sem, Nat.reduceEqDiff, Nat.reduceLT, Nat.reduceAdd, Nat.reduceSub, Nat.reduceLeDiff, List.reduceReplicate, Int.reduceToNat]
    exact back2 (l3, k - 1) (by simp only; omega) rfl rfl ⟨by simp only; omega, hp2.trans ((SegP.swap (Nat.le_refl _) (by omega) (by omega) (by omega) (by omega)).trans (p3.mono (Nat.le_refl _) (by omega))), hd'.next (by omega) (by omega) p3 h3⟩
theorem and_le {a b : Int} (h0 : 0 ≤ b) (h1 : b < 18446744073709551616) : 0 ≤ andI .u64 a b ∧ andI .u64 a b ≤ b := by
  unfold andI
  have h := aBc ((BitVec.ofInt IntKind.u64.bits a &&& BitVec.ofInt IntKind.u64.bits b).toNat : Int)
  refine ⟨h.1, ?_⟩
  have e : (BitVec.ofInt IntKind.u64.bits b).toNat = b.toNat := by
    show (BitVec.ofInt 64 b).toNat = _
    rw [BitVec.toNat_ofInt]; omega
  have hle : (BitVec.ofInt IntKind.u64.bits a &&& BitVec.ofInt IntKind.u64.bits b).toNat ≤ b.toNat := by
    rw [BitVec.toNat_and, e]; exact Nat.and_le_right
  rw [u64_id (by omega) (by omega)]
  omega
def bO.K : Con := fun args h K => match args with
  | [a0] => bO.H (ctx [] [] bO.loops) a0 h K
  | _ => False
theorem bO.spec : SSpec Tryz.prog 144 bO.K := by
  refine SSpec.of (ctx_ok (F := []) (S := []) (by simp) (by simp) bO.loops) bO.at bO.nm bO.bd ?_
  intro args h K hC
  unfold bO.K at hC
  split at hC
  · rw [bO.eq]; exact hC
  · exact hC.elim
theorem next_K (A : SkT) (m : Bytes → Bool) (v : Nat) (l : List RecT) (T : List AObj) (hTn : OkT T) (x : Int) (K : AOut → List AObj → Prop)
    (hK : ∀ y : Int, K (.ret (.int .u64 y)) (hpS A m v l (T ++ [.box (.int .u64 y)]))) :
    bO.K [.ptr (T.length + 1 + 1 + 1) []] (hpS A m v l (T ++ [.box (.int .u64 x)])) K := by
  unfold bO.K bO.H
  simp only [hpS, jJ, nS, List.map_cons, List.map_nil, aA, gq, Int.reduceEq, Int.reduceLT, Int.reduceLE, implies_true, reduceCtorEq, if_true, if_false, go_sem, Nat.reduceEqDiff, Nat.reduceLT, Nat.reduceAdd, Nat.reduceSub, Nat.reduceLeDiff, List.reduceReplicate, Int.reduceToNat] at hK ⊢
  exact hK _
end Lam
namespace Lam
set_option maxRecDepth 20000
open Go Go.Proofs
set_option linter.unusedVariables false
set_option linter.unnecessarySimpa false
set_option linter.unusedSimpArgs false
def lenN (n : Nat) : Nat := if n = 0 then 0 else if n < 2 then 1 else if n < 4 then 2 else if n < 8 then 3 else if n < 16 then 4 else if n < 32 then 5 else if n < 64 then 6 else if n < 128 then 7 else 8
def lenTb : Bytes := [0, 1, 2, 2, 3, 3, 3, 3, 4, 4, 4, 4, 4, 4, 4, 4, 5, 5, 5, 5, 5, 5, 5, 5, 5, 5, 5, 5, 5, 5, 5, 5, 6, 6, 6, 6, 6, 6, 6, 6, 6, 6, 6, 6, 6, 6, 6, 6, 6, 6, 6, 6, 6, 6, 6, 6, 6, 6, 6, 6, 6, 6, 6, 6, 7, 7, 7, 7, 7, 7, 7, 7, 7, 7, 7, 7, 7, 7, 7, 7, 7, 7, 7, 7, 7, 7, 7, 7, 7, 7, 7, 7, 7, 7, 7, 7, 7, 7, 7, 7, 7, 7, 7, 7, 7, 7, 7, 7, 7, 7, 7, 7, 7, 7, 7, 7, 7, 7, 7, 7, 7, 7, 7, 7, 7, 7, 7, 7, 8, 8, 8, 8, 8, 8, 8, 8, 8, 8, 8, 8, 8, 8, 8, 8, 8, 8, 8, 8, 8, 8, 8, 8, 8, 8, 8, 8, 8, 8, 8, 8, 8, 8, 8, 8, 8, 8, 8, 8, 8, 8, 8, 8, 8, 8, 8, 8, 8, 8, 8, 8, 8, 8, 8, 8, 8, 8, 8, 8, 8, 8, 8, 8, 8, 8, 8, 8, 8, 8, 8, 8, 8, 8, 8, 8, 8, 8, 8, 8, 8, 8, 8, 8, 8, 8, 8, 8, 8, 8, 8, 8, 8, 8, 8, 8, 8, 8, 8, 8, 8, 8, 8, 8, 8, 8, 8, 8, 8, 8, 8, 8, 8, 8, 8, 8, 8, 8, 8, 8, 8, 8, 8, 8, 8, 8, 8, 8]
theorem aCh : ∀ k, k < 256 → (lenTb.getD k 0).toNat = lenN k := by decide +kernel
theorem aCi : ∀ k, k < 256 → 8 ≤ k → 1 ≤ 2 ^ lenN k ∧ 2 ^ lenN k ≤ 2 * k ∧ lenN k ≤ 8 := by decide +kernel
theorem lenN_le : ∀ k, k < 256 → lenN k ≤ 8 := by decide +kernel
def cV.C : aD
  | [.int .u64 n] => some (false, pD (0 ≤ n ∧ n < 256) (.int .i64 (lenN n.toNat)))
  | _ => none
set_option maxRecDepth 20000 in
theorem cV.spec : FSpec Tryz.prog 135 cV.C := by
  refine FSpec.of (ctx_ok (F := []) (S := []) (by simp) (by simp) cV.loops) cV.at cV.nm cV.bd ?_
  intro vs b S v news e hS
  unfold cV.C at e
  split at e
  rotate_left
  · cases e
  cases e
  rw [cV.eq]
  unfold cV.H
  simp (maxSteps := 4000000) only [go_sem, Nat.reduceEqDiff, Nat.reduceLT, Nat.reduceAdd, Nat.reduceSub, Nat.reduceLeDiff, List.reduceReplicate, Int.reduceToNat]
  rename_i n
  have d1 : decide ((4294967296 : Int) ≤ n) = false := decide_eq_false (by omega)
  have d2 : decide ((65536 : Int) ≤ n) = false := decide_eq_false (by omega)
  have d3 : decide ((256 : Int) ≤ n) = false := decide_eq_false (by omega)
  have g1 : ¬ (4294967296 : Int) ≤ n := by omega
  have g2 : IntKind.u8.wrap n = n := by simp [IntKind.wrap, IntKind.bits, IntKind.signed]; omega
  simp only [g1, d1, d2, d3, g2, aA, aA, gq, Int.reduceEq, Int.reduceLT, Int.reduceLE, implies_true, reduceCtorEq, if_true, if_false, go_sem, Nat.reduceEqDiff, Nat.reduceLT, Nat.reduceAdd, Nat.reduceSub, Nat.reduceLeDiff, List.reduceReplicate, Int.reduceToNat]
  refine ⟨hS, ?_⟩
  show Post false (.int .i64 (lenN n.toNat)) [] (.ret (.int .i64 (IntKind.i64.wrap (0 + IntKind.i64.wrap ((lenTb.getD n.toNat 0).toNat : Int))))) []
  have h8 := lenN_le n.toNat (by omega)
  rw [aCh n.toNat (by omega), w64 (n := (lenN n.toNat : Int)) (by omega) (by omega), Int.zero_add, w64 (by omega) (by omega)]
  exact aH rfl rfl
def cM.C : aD
  | [.int .u64 n] => some (false, pD (0 ≤ n ∧ n < 256) (.int .i64 (lenN n.toNat)))
  | _ => none
set_option maxRecDepth 20000 in
theorem cM.spec : FSpec Tryz.prog 120 cM.C := by
  refine FSpec.of (ctx_ok (F := [(135, cV.C)]) (S := []) (by simpa using cV.spec) (by simp) cM.loops) cM.at cM.nm cM.bd ?_
  intro vs b S v news e hS
  unfold cM.C at e
  split at e
  rotate_left
  · cases e
  cases e
  rw [cM.eq]
  unfold cM.H
  simp (maxSteps := 4000000) only [go_sem, Nat.reduceEqDiff, Nat.reduceLT, Nat.reduceAdd, Nat.reduceSub, Nat.reduceLeDiff, List.reduceReplicate, Int.reduceToNat, cV.C]
  rename_i n
  exact ⟨hS, aH rfl rfl⟩
def bR.C : aD
  | [.int .i64 n] => some (false, pD (0 ≤ n ∧ n < 256) (.int .u64 (2 ^ lenN n.toNat : Nat)))
  | _ => none
set_option maxRecDepth 20000 in
theorem bR.spec : FSpec Tryz.prog 143 bR.C := by
  refine FSpec.of (ctx_ok (F := [(120, cM.C)]) (S := []) (by simpa using cM.spec) (by simp) bR.loops) bR.at bR.nm bR.bd ?_
  intro vs b S v news e hS
  unfold bR.C at e
  split at e
  rotate_left
  · cases e
  cases e
  rw [bR.eq]
  unfold bR.H
  simp (maxSteps := 4000000) only [go_sem, Nat.reduceEqDiff, Nat.reduceLT, Nat.reduceAdd, Nat.reduceSub, Nat.reduceLeDiff, List.reduceReplicate, Int.reduceToNat, cM.C]
  rename_i n
  have g2 : IntKind.u64.wrap n = n := u64_id (by omega) (by omega)
  have h8 := lenN_le n.toNat (by omega)
  simp only [g2, cM.C, aA, gq, Int.reduceEq, Int.reduceLT, Int.reduceLE, implies_true, reduceCtorEq, if_true, if_false, go_sem, Nat.reduceEqDiff, Nat.reduceLT, Nat.reduceAdd, Nat.reduceSub, Nat.reduceLeDiff, List.reduceReplicate, Int.reduceToNat]
  refine ⟨hS.2, by omega, ?_⟩
  have h2 : 2 ^ lenN n.toNat ≤ 2 ^ 8 := Nat.pow_le_pow_right (by decide) h8
  have e : (2 : Int) ^ lenN n.toNat = ((2 ^ lenN n.toNat : Nat) : Int) := by rw [Int.natCast_pow]; rfl
  rw [Nat.min_eq_left (by omega), Int.one_mul, e]
  generalize 2 ^ lenN n.toNat = P at *
  rw [u64_id (n := (P : Int)) (by omega) (by omega)]
  exact aH rfl rfl
def aO.K : Con := fun args h K => match args with
  | [a0, a1, a2, a3] => aO.H (ctx [(143, bR.C)] [(144, bO.K)] aO.loops) a0 a1 a2 a3 h K
  | _ => False
theorem aO.spec : SSpec Tryz.prog 128 aO.K := by
  refine SSpec.of (ctx_ok (F := [(143, bR.C)]) (S := [(144, bO.K)]) (by simpa using bR.spec) (by simpa using bO.spec) aO.loops) aO.at aO.nm aO.bd ?_
  intro args h K hC
  unfold aO.K at hC
  split at hC
  · rw [aO.eq]; exact hC
  · exact hC.elim
theorem break_K (A : SkT) (m : Bytes → Bool) (v : Nat) (l : List RecT) (T : List AObj) (hTn : OkT T) (n a b : Nat) (hn : n = l.length) (hab : a + 8 ≤ b) (hbn : b ≤ n) (h255 : b < a + 256) (hr : roomy n) (K : AOut → List AObj → Prop)
    (hK : ∀ l' y, SegP a b l l' → K (.ret (.tup [])) (hpS A m v l' (T ++ [.box (.int .u64 y)]))) :
    aO.K [.sref false 2 v 0 n, .int .i64 a, .int .i64 b, hitF] (hpS A m v l T) K := by
  have hr' := hr
  unfold roomy at hr'
  have h2 : 2 < T.length + 1 + 1 + 1 := by omega
  obtain ⟨len, hlen⟩ : ∃ len, b - a = len := ⟨_, rfl⟩
  have hl8 : 8 ≤ len := by omega
  have hpw := aCi len (by omega) hl8
  obtain ⟨P, hP⟩ : ∃ P, 2 ^ lenN len = P := ⟨_, rfl⟩
  rw [hP] at hpw
  have e0 : IntKind.i64.wrap ((b : Int) - a) = (len : Int) := by rw [w64 (by omega) (by omega)]; omega
  have e1 : IntKind.i64.wrap ((len : Int).tdiv 4) = ((len / 4 : Nat) : Int) := by rw [Int.tdiv_eq_ediv_of_nonneg (by omega), w64 (by omega) (by omega)]; omega
  obtain ⟨q, hq⟩ : ∃ q, len / 4 = q := ⟨_, rfl⟩
  rw [hq] at e1
  have e2 : IntKind.i64.wrap ((q : Int) * 2) = ((q * 2 : Nat) : Int) := by rw [w64 (by omega) (by omega)]; omega
  have e3 : IntKind.i64.wrap ((a : Int) + ((q * 2 : Nat) : Int)) = ((a + q * 2 : Nat) : Int) := by rw [w64 (by omega) (by omega)]; omega
  have e4 : IntKind.i64.wrap (((a + q * 2 : Nat) : Int) - 1) = ((a + q * 2 - 1 : Nat) : Int) := by rw [w64 (by omega) (by omega)]; omega
  have e5 : IntKind.u64.wrap ((P : Int) - 1) = (P : Int) - 1 := u64_id (by omega) (by omega)
  have d1 : decide ((8 : Int) ≤ (len : Int)) = true := decide_eq_true (by omega)
  unfold aO.K aO.H
  have hT1 : ∀ y k h, (T ++ [AObj.box (.int .u64 y)]).map (normO k h) = T ++ [AObj.box (.int .u64 y)] := fun y => hTn.snoc .u64 y
  have hL1 : ∀ y : AObj, (T ++ [y]).length = T.length + 1 := fun y => by simp
  have hTk : ∀ y : AObj, (T ++ [y]).take (T.length + 1) = T ++ [y] := fun y => List.take_of_length_le (by simp)
  have h3 : T.length + 1 + 1 + 1 < T.length + 1 + 1 + 1 + 1 := by omega
  have h4 : 2 < T.length + 1 + 1 + 1 + 1 := by omega
  simp only [hpS, hTn _ _, hT1, hL1, jJ, nS, SkT.norm, h2, h3, h4, e0, e1, e2, e3, e4, d1, aA, bR.C, Int.toNat_natCast, hP, aA, gq, Int.reduceEq, Int.reduceLT, Int.reduceLE, implies_true, reduceCtorEq, if_true, if_false, go_sem, Nat.reduceEqDiff, Nat.reduceLT, Nat.reduceAdd, Nat.reduceSub, Nat.reduceLeDiff, List.reduceReplicate, Int.reduceToNat] at hK ⊢
  refine ⟨⟨by omega, by omega⟩, ?_⟩
  unfold aO.L1
  refine loop1 (σ := List RecT × Nat × Int) (fun s => .int .i64 s.2.1) (fun s => .box A.V :: .map (.sb m) :: .row .own v (.recs s.1) :: (T ++ [.box (.int .u64 s.2.2)])) (fun s => a + q * 2 + 2 - s.2.1) (fun s => a + q * 2 - 1 ≤ s.2.1 ∧ s.2.1 ≤ a + q * 2 + 2 ∧ SegP a b l s.1) (l, a + q * 2 - 1, IntKind.u64.wrap len) rfl rfl ⟨Nat.le_refl _, by simp only; omega, SegP.refl⟩ ?_
  rintro I back ⟨l1, i, x⟩ ⟨hi1, hi2, hp⟩
  simp only at hi1 hi2 hp ⊢
  have hl1 := hp.len
  simp only [e1, e2, e3, wnext (show a + q * 2 < 4611686018427387904 by omega), hT1, hL1, SkT.norm, h2, h3, h4, aA, aA, gq, Int.reduceEq, Int.reduceLT, Int.reduceLE, implies_true, reduceCtorEq, if_true, if_false, go_sem, Nat.reduceEqDiff, Nat.reduceLT, Nat.reduceAdd, Nat.reduceSub, Nat.reduceLeDiff, List.reduceReplicate, Int.reduceToNat]
  refine ⟨fun hle => ?_, fun hgt => hK l1 x hp⟩
  refine next_K A m v l1 T hTn x _ fun y => ?_
  obtain ⟨z0, z1⟩ := and_le (a := y) (b := (P : Int) - 1) (by omega) (by omega)
  have hlt : ∀ c : Nat, c < len → ∃ m_1, m_1 < a + q * 2 + 2 - i ∧ I m_1 [.int .i64 ((i + 1 : Nat) : Int)] (.box A.V :: .map (.sb m) :: .row .own v (.recs (swapL l1 i (a + c))) :: (T ++ [.box (.int .u64 y)])) := fun c hc =>
    back (swapL l1 i (a + c), i + 1, y) (by simp only; omega) rfl rfl ⟨by simp only; omega, by simp only; omega, hp.trans (SegP.swap (by omega) (by omega) (by omega) (by omega) (by omega))⟩
  obtain ⟨c, hc⟩ : ∃ c : Nat, andI .u64 y ((P : Int) - 1) = c := ⟨(andI .u64 y ((P : Int) - 1)).toNat, by omega⟩
  have e6 : IntKind.i64.wrap (c : Int) = c := w64 (by omega) (by omega)
  have e7 : ∀ c : Nat, c < len → IntKind.i64.wrap ((a : Int) + (c : Int)) = ((a + c : Nat) : Int) := fun c hc => by rw [w64 (by omega) (by omega)]; omega
  have e8 : len ≤ c → IntKind.i64.wrap ((c : Int) - (len : Int)) = ((c - len : Nat) : Int) := fun h => by rw [w64 (by omega) (by omega)]; omega
  rw [hc] at z0 z1
  simp only [hpS, hT1, hL1, jJ, SkT.norm, h2, h3, h4, e5, hc, e6, aA, wnext (show i < 4611686018427387904 by omega), aA, gq, Int.reduceEq, Int.reduceLT, Int.reduceLE, implies_true, reduceCtorEq, if_true, if_false, go_sem, Nat.reduceEqDiff, Nat.reduceLT, Nat.reduceAdd, Nat.reduceSub, Nat.reduceLeDiff, List.reduceReplicate, Int.reduceToNat]
  refine ⟨fun hge => ?_, fun hnge => ?_⟩
  · have hcl : c - len < len := by omega
    simp only [hpS, hT1, hL1, SkT.norm, h2, h3, h4, e8 (by omega), e7 _ hcl, aA, Int.toNat_natCast, d0_def, kyL_def, rec_eta, fM, List.length_set, hTk, wnext (show i < 4611686018427387904 by omega), aA, gq, Int.reduceEq, Int.reduceLT, Int.reduceLE, implies_true, reduceCtorEq, if_true, if_false, go_sem, Nat.reduceEqDiff, Nat.reduceLT, Nat.reduceAdd, Nat.reduceSub, Nat.reduceLeDiff, List.reduceReplicate, Int.reduceToNat]
    exact ⟨⟨by omega, by omega⟩, by omega, ⟨by omega, by omega⟩, by omega, ⟨by omega, by omega⟩, by omega, ⟨by omega, by omega⟩, by omega, hlt _ hcl⟩
  · have hcl : c < len := by omega
    simp only [hpS, hT1, hL1, SkT.norm, h2, h3, h4, e7 _ hcl, aA, Int.toNat_natCast, d0_def, kyL_def, rec_eta, fM, List.length_set, hTk, wnext (show i < 4611686018427387904 by omega), aA, gq, Int.reduceEq, Int.reduceLT, Int.reduceLE, implies_true, reduceCtorEq, if_true, if_false, go_sem, Nat.reduceEqDiff, Nat.reduceLT, Nat.reduceAdd, Nat.reduceSub, Nat.reduceLeDiff, List.reduceReplicate, Int.reduceToNat]
    exact ⟨⟨by omega, by omega⟩, by omega, ⟨by omega, by omega⟩, by omega, ⟨by omega, by omega⟩, by omega, ⟨by omega, by omega⟩, by omega, hlt _ hcl⟩
end Lam
namespace Lam
set_option maxRecDepth 20000
open Go Go.Proofs
set_option linter.unusedVariables false
set_option linter.unnecessarySimpa false
set_option linter.unusedSimpArgs false
theorem rL {w : List Int} {b : Int} {n : Nd} (h : nodeO w b = some n) : readV w b = .tup [n.V, .int .i64 0] := by
  unfold nodeO at h
  unfold readV
  split at h
  · cases h
  · rename_i hb; rw [if_neg hb, h]
theorem xM {w : List Int} {b : Int} (h : nodeO w b = none) : ∃ e, e ≠ 0 ∧ readV w b = .tup [zeroNd.V, .int .i64 e] := by
  unfold nodeO at h
  unfold readV
  split at h
  · rename_i hb; rw [if_pos hb]; exact ⟨1, by decide, rfl⟩
  · rename_i hb; rw [if_neg hb, h]; exact ⟨90, by decide, rfl⟩
theorem vA {w : List Int} {b : Int} {n : Rc} (h : recO w b = some n) : rreadV w b = .tup [n.V, .int .i64 0] := by
  unfold recO at h
  unfold rreadV
  split at h
  · cases h
  · rename_i hb; rw [if_neg hb, h]
theorem aBp {w : List Int} {b : Int} (h : recO w b = none) : ∃ e, e ≠ 0 ∧ rreadV w b = .tup [zeroRc.V, .int .i64 e] := by
  unfold recO at h
  unfold rreadV
  split at h
  · rename_i hb; rw [if_pos hb]; exact ⟨1, by decide, rfl⟩
  · rename_i hb; rw [if_neg hb, h]; exact ⟨70, by decide, rfl⟩
structure Sk where
  block : Int
  turn : Int
  at_ : Int
  refs : List Int
  over : Bool
def Sk.V (s : Sk) : AV := .agg [.int .i64 s.block, .int .i64 s.turn, .int .i64 s.at_, .sl false (.ints .i64 s.refs), .bool s.over]
def downB (t : Int) : Bool := decide (andI .i64 t 1 = 1)
def dJ.C : aD
  | [.agg [.int .i64 _, .int .i64 t, .int .i64 _, .sl _ (.ints .i64 _), .bool _]] => some (false, pD True (.bool (downB t)))
  | _ => none
set_option maxRecDepth 20000 in
theorem dJ.spec : FSpec Tryz.prog 67 dJ.C := by
  refine FSpec.of (ctx_ok (F := []) (S := []) (by simp) (by simp) dJ.loops) dJ.at dJ.nm dJ.bd ?_
  intro vs b S v news e hS
  unfold dJ.C at e
  split at e
  rotate_left
  · cases e
  cases e
  rw [dJ.eq]
  unfold dJ.H
  simp (maxSteps := 4000000) only [go_sem, Nat.reduceEqDiff, Nat.reduceLT, Nat.reduceAdd, Nat.reduceSub, Nat.reduceLeDiff, List.reduceReplicate, Int.reduceToNat]
  exact aH rfl rfl
def skZ : Sk := ⟨0, 0, 0, [], false⟩
def beginO (w : List Int) (b : Int) : Option Sk := match nodeO w b with
  | some n => if 256 ≤ b then none else some ⟨b, n.turn, if downB n.turn = true then 12 else 0, [], false⟩
  | none => none
def beginV (w : List Int) (b : Int) : AV := match beginO w b with
  | some s => .tup [s.V, .int .i64 0]
  | none => .tup [skZ.V, .int .i64 90]
def eK.C : aD
  | [.sl _ (.ints .i64 w), .int .i64 b] => some (false, pD (roomy w.length) (beginV w b))
  | _ => none
set_option maxRecDepth 20000 in
theorem eK.spec : FSpec Tryz.prog 40 eK.C := by
  refine FSpec.of (ctx_ok (F := [(46, bY.C), (67, dJ.C)]) (S := []) (by simpa using ⟨bY.spec, dJ.spec⟩) (by simp) eK.loops) eK.at eK.nm eK.bd ?_
  intro vs b S v news e hS
  unfold eK.C at e
  split at e
  rotate_left
  · cases e
  cases e
  rw [eK.eq]
  unfold eK.H
  simp (maxSteps := 4000000) only [go_sem, Nat.reduceEqDiff, Nat.reduceLT, Nat.reduceAdd, Nat.reduceSub, Nat.reduceLeDiff, List.reduceReplicate, Int.reduceToNat, bY.C, dJ.C]
  rename_i w b
  unfold beginV beginO
  cases hn : nodeO w b with
  | none =>
    obtain ⟨e, he, hr⟩ := xM hn
    simp only [hr, zeroNd, he, decide_true, decide_false, aA, skZ, Sk.V, aA, gq, Int.reduceEq, Int.reduceLT, Int.reduceLE, implies_true, reduceCtorEq, if_true, if_false, go_sem, Nat.reduceEqDiff, Nat.reduceLT, Nat.reduceAdd, Nat.reduceSub, Nat.reduceLeDiff, List.reduceReplicate, Int.reduceToNat]
    exact ⟨hS, aH rfl rfl⟩
  | some n =>
    obtain ⟨n1, n2, n3, n4, n5⟩ := n
    by_cases hb : 256 ≤ b
    · simp only [rL hn, hb, if_true, decide_true, aA, skZ, Sk.V, aA, gq, Int.reduceEq, Int.reduceLT, Int.reduceLE, implies_true, reduceCtorEq, if_true, if_false, go_sem, Nat.reduceEqDiff, Nat.reduceLT, Nat.reduceAdd, Nat.reduceSub, Nat.reduceLeDiff, List.reduceReplicate, Int.reduceToNat]
      exact ⟨hS, aH rfl rfl⟩
    · simp only [rL hn, hb, if_false, decide_false, dJ.C, aA, Sk.V, aA, gq, Int.reduceEq, Int.reduceLT, Int.reduceLE, implies_true, reduceCtorEq, if_true, if_false, go_sem, Nat.reduceEqDiff, Nat.reduceLT, Nat.reduceAdd, Nat.reduceSub, Nat.reduceLeDiff, List.reduceReplicate, Int.reduceToNat]
      cases hd : downB n2 with
      | true => simp only [if_true, aA, gq, Int.reduceEq, Int.reduceLT, Int.reduceLE, implies_true, reduceCtorEq, if_true, if_false, go_sem, Nat.reduceEqDiff, Nat.reduceLT, Nat.reduceAdd, Nat.reduceSub, Nat.reduceLeDiff, List.reduceReplicate, Int.reduceToNat]; exact ⟨hS, aH rfl rfl⟩
      | false => simp only [if_false, aA, gq, Int.reduceEq, Int.reduceLT, Int.reduceLE, implies_true, reduceCtorEq, if_true, if_false, go_sem, Nat.reduceEqDiff, Nat.reduceLT, Nat.reduceAdd, Nat.reduceSub, Nat.reduceLeDiff, List.reduceReplicate, Int.reduceToNat]; exact ⟨hS, aH rfl rfl⟩
def holdsB (w : List Int) (b t : Int) : Bool := match nodeO w b with
  | some n => decide (n.turn = t)
  | none => false
def eL.C : aD
  | [.sl _ (.ints .i64 w), .agg [.int .i64 b, .int .i64 t, .int .i64 _, .sl _ (.ints .i64 _), .bool _]] => some (false, pD (roomy w.length) (.bool (holdsB w b t)))
  | _ => none
set_option maxRecDepth 20000 in
theorem eL.spec : FSpec Tryz.prog 71 eL.C := by
  refine FSpec.of (ctx_ok (F := [(46, bY.C)]) (S := []) (by simpa using bY.spec) (by simp) eL.loops) eL.at eL.nm eL.bd ?_
  intro vs b S v news e hS
  unfold eL.C at e
  split at e
  rotate_left
  · cases e
  cases e
  rw [eL.eq]
  unfold eL.H
  simp (maxSteps := 4000000) only [go_sem, Nat.reduceEqDiff, Nat.reduceLT, Nat.reduceAdd, Nat.reduceSub, Nat.reduceLeDiff, List.reduceReplicate, Int.reduceToNat, bY.C]
  rename_i _ w b t _ _ _ _
  unfold holdsB
  cases hn : nodeO w b with
  | none =>
    obtain ⟨e, he, hr⟩ := xM hn
    simp only [hr, zeroNd, he, decide_true, decide_false, aA, aA, gq, Int.reduceEq, Int.reduceLT, Int.reduceLE, implies_true, reduceCtorEq, if_true, if_false, go_sem, Nat.reduceEqDiff, Nat.reduceLT, Nat.reduceAdd, Nat.reduceSub, Nat.reduceLeDiff, List.reduceReplicate, Int.reduceToNat]
    exact ⟨hS, aH rfl rfl⟩
  | some n =>
    obtain ⟨n1, n2, n3, n4, n5⟩ := n
    simp only [rL hn, decide_true, aA, aA, gq, Int.reduceEq, Int.reduceLT, Int.reduceLE, implies_true, reduceCtorEq, if_true, if_false, go_sem, Nat.reduceEqDiff, Nat.reduceLT, Nat.reduceAdd, Nat.reduceSub, Nat.reduceLeDiff, List.reduceReplicate, Int.reduceToNat]
    exact ⟨hS, aH rfl rfl⟩
def cJ.K : Con := fun args h K => match args with
  | [a0] => cJ.H (ctx [] [] cJ.loops) a0 h K
  | _ => False
theorem cJ.spec : SSpec Tryz.prog 69 cJ.K := by
  refine SSpec.of (ctx_ok (F := []) (S := []) (by simp) (by simp) cJ.loops) cJ.at cJ.nm cJ.bd ?_
  intro args h K hC
  unfold cJ.K at hC
  split at hC
  · rw [cJ.eq]; exact hC
  · exact hC.elim
def bX.K : Con := fun args h K => match args with
  | [a0] => bX.H (ctx [] [] bX.loops) a0 h K
  | _ => False
theorem bX.spec : SSpec Tryz.prog 70 bX.K := by
  refine SSpec.of (ctx_ok (F := []) (S := []) (by simp) (by simp) bX.loops) bX.at bX.nm bX.bd ?_
  intro args h K hC
  unfold bX.K at hC
  split at hC
  · rw [bX.eq]; exact hC
  · exact hC.elim
def overB (w : Int) (s : Sk) : Bool := if downB s.turn = true then decide (s.at_ = 0) else decide (w < 1) || decide (s.at_ = 12)
def goOn (w : Int) (s : Sk) : Sk :=
  { s with
    refs := if (decide (0 < w) && (decide (s.refs.length = 0) || !decide (s.refs.getD (s.refs.length - 1) 0 = w))) = true then s.refs ++ [w] else s.refs
    over := overB w s
    at_ := if overB w s = true then s.at_ else if downB s.turn = true then IntKind.i64.wrap (s.at_ - 1) else IntKind.i64.wrap (s.at_ + 1) }
/-- where the next one is -/
def spotI (w : List Int) (s : Sk) : Int := if (decide (0 ≤ s.block) && decide (s.block < 256) && decide (s.block < ((w.length / 16 : Nat) : Int))) = true then placeI (16 * s.block) s.at_ else -1
def stepS (w : List Int) (s : Sk) : Sk := if (s.over || decide (spotI w s < 0)) = true then s else goOn (w.getD (spotI w s).toNat 0) s
def fA.C : aD
  | [.sl _ (.ints .i64 w), .agg [.int .i64 b, .int .i64 t, .int .i64 a, .sl _ (.ints .i64 l), .bool o]] => some (false, pD (w.length ≤ 65536 ∧ l.length ≤ 65536) (stepS w ⟨b, t, a, l, o⟩).V)
  | _ => none
set_option maxRecDepth 20000 in
theorem fA.spec : FSpec Tryz.prog 41 fA.C := by
  refine FSpec.of (ctx_ok (F := [(68, eV.C), (34, aT.C), (67, dJ.C)]) (S := [(69, cJ.K), (70, bX.K)]) (by simpa using ⟨eV.spec, aT.spec, dJ.spec⟩) (by simpa using ⟨cJ.spec, bX.spec⟩) fA.loops) fA.at fA.nm fA.bd ?_
  intro vs b S v news e hS
  unfold fA.C at e
  split at e
  rotate_left
  · cases e
  cases e
  rw [fA.eq]
  unfold fA.H
  simp (maxSteps := 4000000) only [go_sem, Nat.reduceEqDiff, Nat.reduceLT, Nat.reduceAdd, Nat.reduceSub, Nat.reduceLeDiff, List.reduceReplicate, Int.reduceToNat, eV.C, aT.C, dJ.C]
  rename_i _ w b t a x l o
  obtain ⟨hw, hl⟩ := hS
  have e0 : IntKind.i64.wrap ((w.length : Int).tdiv 16) = ((w.length / 16 : Nat) : Int) := by
    rw [Int.tdiv_eq_ediv_of_nonneg (by omega)]; exact w64 (by omega) (by omega)
  have hst : ∀ s : Sk, (s.over || decide (spotI w s < 0)) = true → stepS w s = s := fun s h => by unfold stepS; rw [if_pos h]
  have hgo : ∀ s : Sk, (s.over || decide (spotI w s < 0)) = false → stepS w s = goOn (w.getD (spotI w s).toNat 0) s := fun s h => by unfold stepS; rw [if_neg (by rw [h]; decide)]
  refine ⟨fun _ => by decide, ?_⟩
  cases hin : (decide (0 ≤ b) && decide (b < 256) && decide (b < ((w.length / 16 : Nat) : Int))) with
  | false =>
    have hs : spotI w ⟨b, t, a, l, o⟩ = -1 := by unfold spotI; rw [if_neg (by rw [hin]; decide)]
    rw [hst _ (by rw [hs]; cases o <;> rfl)]
    simp only [e0, hin, aA, Sk.V, aA, gq, Int.reduceEq, Int.reduceLT, Int.reduceLE, implies_true, reduceCtorEq, if_true, if_false, go_sem, Nat.reduceEqDiff, Nat.reduceLT, Nat.reduceAdd, Nat.reduceSub, Nat.reduceLeDiff, List.reduceReplicate, Int.reduceToNat]
    cases o with
    | true => simp only [aA, gq, Int.reduceEq, Int.reduceLT, Int.reduceLE, implies_true, reduceCtorEq, if_true, if_false, go_sem, Nat.reduceEqDiff, Nat.reduceLT, Nat.reduceAdd, Nat.reduceSub, Nat.reduceLeDiff, List.reduceReplicate, Int.reduceToNat]; exact aH rfl rfl
    | false => simp only [aA, gq, Int.reduceEq, Int.reduceLT, Int.reduceLE, implies_true, reduceCtorEq, if_true, if_false, go_sem, Nat.reduceEqDiff, Nat.reduceLT, Nat.reduceAdd, Nat.reduceSub, Nat.reduceLeDiff, List.reduceReplicate, Int.reduceToNat]; exact aH rfl rfl
  | true =>
    have hin' := hin
    simp only [Bool.and_eq_true, decide_eq_true_eq] at hin'
    obtain ⟨⟨h0, h1⟩, h2⟩ := hin'
    have e1 : IntKind.i64.wrap (16 * b) = 16 * b := w64 (by omega) (by omega)
    have hs : spotI w ⟨b, t, a, l, o⟩ = placeI (16 * b) a := by unfold spotI; rw [if_pos hin]
    by_cases hp : placeI (16 * b) a < 0
    · rw [hst _ (by rw [hs, decide_eq_true hp, Bool.or_true])]
      simp only [e0, e1, hin, hp, decide_true, aA, Sk.V, aA, gq, Int.reduceEq, Int.reduceLT, Int.reduceLE, implies_true, reduceCtorEq, if_true, if_false, go_sem, Nat.reduceEqDiff, Nat.reduceLT, Nat.reduceAdd, Nat.reduceSub, Nat.reduceLeDiff, List.reduceReplicate, Int.reduceToNat]
      cases o with
      | true => simp only [aA, gq, Int.reduceEq, Int.reduceLT, Int.reduceLE, implies_true, reduceCtorEq, if_true, if_false, go_sem, Nat.reduceEqDiff, Nat.reduceLT, Nat.reduceAdd, Nat.reduceSub, Nat.reduceLeDiff, List.reduceReplicate, Int.reduceToNat]; exact aH rfl rfl
      | false => simp only [aA, gq, Int.reduceEq, Int.reduceLT, Int.reduceLE, implies_true, reduceCtorEq, if_true, if_false, go_sem, Nat.reduceEqDiff, Nat.reduceLT, Nat.reduceAdd, Nat.reduceSub, Nat.reduceLeDiff, List.reduceReplicate, Int.reduceToNat]; exact aH rfl rfl
    · cases o with
      | true =>
        rw [hst _ rfl]
        simp only [e0, e1, hin, hp, decide_true, decide_false, aA, Sk.V, aA, gq, Int.reduceEq, Int.reduceLT, Int.reduceLE, implies_true, reduceCtorEq, if_true, if_false, go_sem, Nat.reduceEqDiff, Nat.reduceLT, Nat.reduceAdd, Nat.reduceSub, Nat.reduceLeDiff, List.reduceReplicate, Int.reduceToNat]
        exact aH rfl rfl
      | false =>
        rw [hgo _ (by rw [hs, decide_eq_false hp]; rfl), hs]
        have hnb : nodeB (16 * b) = true := (rE (by omega)).2 ⟨by omega, by omega, by omega⟩
        have ha : 0 ≤ a ∧ a < 13 ∧ placeI (16 * b) a = 16 * b + 3 + a := by
          by_cases h : 0 ≤ a ∧ a < 13
          · exact ⟨h.1, h.2, aBS hnb (by omega) h.1 h.2⟩
          · exfalso
            apply hp
            unfold placeI
            rw [if_neg (by simp only [Bool.and_eq_true, decide_eq_true_eq]; rintro ⟨⟨_, h1⟩, h2⟩; exact h ⟨h1, h2⟩)]
            decide
        obtain ⟨a0, a1, hpl⟩ := ha
        obtain ⟨P, hP⟩ : ∃ P : Nat, 16 * b + 3 + a = P := ⟨(16 * b + 3 + a).toNat, by omega⟩
        have hPl : P < w.length := by omega
        rw [hpl, hP, Int.toNat_natCast]
        rw [hP] at hpl
        have hpn : ¬ ((P : Nat) : Int) < 0 := by omega
        have hrl : roomy l.length := by unfold roomy; omega
        have e3 : l.length ≠ 0 → IntKind.i64.wrap ((l.length : Int) - 1) = ((l.length - 1 : Nat) : Int) := fun h => by rw [w64 (by omega) (by omega)]; omega
        simp only [e0, e1, hin, hpl, hpn, decide_true, decide_false, aA, Int.toNat_natCast, aT.C, aA, gq, Int.reduceEq, Int.reduceLT, Int.reduceLE, implies_true, reduceCtorEq, if_true, if_false, go_sem, Nat.reduceEqDiff, Nat.reduceLT, Nat.reduceAdd, Nat.reduceSub, Nat.reduceLeDiff, List.reduceReplicate, Int.reduceToNat]
        refine ⟨⟨by omega, by omega⟩, hrl, ?_⟩
        generalize w.getD P 0 = W
        have hra : roomy (l ++ [W]).length := by unfold roomy; simp; omega
        have hgo2 : ∀ (R : List Int), (goOn W ⟨b, t, a, l, false⟩).refs = R → ∀ (o : Bool) (a' : Int), overB W ⟨b, t, a, l, false⟩ = o → (a' = if o = true then a else if downB t = true then IntKind.i64.wrap (a - 1) else IntKind.i64.wrap (a + 1)) → goOn W ⟨b, t, a, l, false⟩ = ⟨b, t, a', R, o⟩ := by
          rintro _ rfl _ _ rfl rfl; rfl
        by_cases hW : 0 < W
        · have hW1 : decide (W < 1) = false := decide_eq_false (by omega)
          have happ : ∀ K : Nat → Prop, True := fun _ => trivial
          by_cases hl0 : l.length = 0
          · have hd0 : decide ((l.length : Int) = 0) = true := decide_eq_true (by omega)
            have hgr : (goOn W ⟨b, t, a, l, false⟩).refs = l ++ [W] := by unfold goOn; simp [hW, hl0]
            simp only [hW, hW1, hd0, decide_true, dJ.C, cJ.K, cJ.H, bX.K, bX.H, aA, aA, gq, Int.reduceEq, Int.reduceLT, Int.reduceLE, implies_true, reduceCtorEq, if_true, if_false, go_sem, Nat.reduceEqDiff, Nat.reduceLT, Nat.reduceAdd, Nat.reduceSub, Nat.reduceLeDiff, List.reduceReplicate, Int.reduceToNat]
            refine ⟨hra, fun hd => ⟨fun h => ?_, fun h => ?_⟩, fun hd => ⟨fun h => ?_, fun h => ?_⟩⟩
            · rw [hgo2 _ hgr false _ (by simp [overB, hd, h]) (by simp [hd]; rfl), decide_eq_false h]
              refine aH ?_ rfl
              simp only [Sk.V, List.take_length, go_sem, Nat.reduceEqDiff, Nat.reduceLT, Nat.reduceAdd, Nat.reduceSub, Nat.reduceLeDiff, List.reduceReplicate, Int.reduceToNat]
            · rw [hgo2 _ hgr true _ (by simp [overB, hd, h]) (by simp; rfl), decide_eq_true h]
              refine aH ?_ rfl
              simp only [Sk.V, List.take_length, go_sem, Nat.reduceEqDiff, Nat.reduceLT, Nat.reduceAdd, Nat.reduceSub, Nat.reduceLeDiff, List.reduceReplicate, Int.reduceToNat]
            · rw [hgo2 _ hgr false _ (by simp [overB, hd, h]; omega) (by simp [hd]; rfl), decide_eq_false h]
              refine aH ?_ rfl
              simp only [Sk.V, List.take_length, go_sem, Nat.reduceEqDiff, Nat.reduceLT, Nat.reduceAdd, Nat.reduceSub, Nat.reduceLeDiff, List.reduceReplicate, Int.reduceToNat]
            · rw [hgo2 _ hgr true _ (by simp [overB, hd, h]) (by simp; rfl), decide_eq_true h]
              refine aH ?_ rfl
              simp only [Sk.V, List.take_length, go_sem, Nat.reduceEqDiff, Nat.reduceLT, Nat.reduceAdd, Nat.reduceSub, Nat.reduceLeDiff, List.reduceReplicate, Int.reduceToNat]
          · have hd0 : decide ((l.length : Int) = 0) = false := decide_eq_false (by omega)
            by_cases hla : l.getD (l.length - 1) 0 = W
            · have hgr : (goOn W ⟨b, t, a, l, false⟩).refs = l := by
                unfold goOn
                simp only [hla, decide_true, Bool.not_true, Bool.or_false, decide_eq_false hl0, Bool.and_false]
                rw [if_neg (by decide)]
              simp only [hW, hW1, hd0, e3 hl0, hla, Int.toNat_natCast, decide_true, dJ.C, cJ.K, cJ.H, bX.K, bX.H, aA, aA, gq, Int.reduceEq, Int.reduceLT, Int.reduceLE, implies_true, reduceCtorEq, if_true, if_false, go_sem, Nat.reduceEqDiff, Nat.reduceLT, Nat.reduceAdd, Nat.reduceSub, Nat.reduceLeDiff, List.reduceReplicate, Int.reduceToNat]
              refine ⟨⟨by omega, by omega⟩, fun hd => ⟨fun h => ?_, fun h => ?_⟩, fun hd => ⟨fun h => ?_, fun h => ?_⟩⟩
              · rw [hgo2 _ hgr false _ (by simp [overB, hd, h]) (by simp [hd]; rfl), decide_eq_false h]
                refine aH ?_ rfl
                simp only [Sk.V, List.take_length, go_sem, Nat.reduceEqDiff, Nat.reduceLT, Nat.reduceAdd, Nat.reduceSub, Nat.reduceLeDiff, List.reduceReplicate, Int.reduceToNat]
              · rw [hgo2 _ hgr true _ (by simp [overB, hd, h]) (by simp; rfl), decide_eq_true h]
                refine aH ?_ rfl
                simp only [Sk.V, List.take_length, go_sem, Nat.reduceEqDiff, Nat.reduceLT, Nat.reduceAdd, Nat.reduceSub, Nat.reduceLeDiff, List.reduceReplicate, Int.reduceToNat]
              · rw [hgo2 _ hgr false _ (by simp [overB, hd, h]; omega) (by simp [hd]; rfl), decide_eq_false h]
                refine aH ?_ rfl
                simp only [Sk.V, List.take_length, go_sem, Nat.reduceEqDiff, Nat.reduceLT, Nat.reduceAdd, Nat.reduceSub, Nat.reduceLeDiff, List.reduceReplicate, Int.reduceToNat]
              · rw [hgo2 _ hgr true _ (by simp [overB, hd, h]) (by simp; rfl), decide_eq_true h]
                refine aH ?_ rfl
                simp only [Sk.V, List.take_length, go_sem, Nat.reduceEqDiff, Nat.reduceLT, Nat.reduceAdd, Nat.reduceSub, Nat.reduceLeDiff, List.reduceReplicate, Int.reduceToNat]
            · have hgr : (goOn W ⟨b, t, a, l, false⟩).refs = l ++ [W] := by
                unfold goOn
                simp only [decide_eq_false hla, Bool.not_false, Bool.or_true, Bool.and_true, decide_eq_true hW, if_true]
              simp only [hW, hW1, hd0, e3 hl0, hla, Int.toNat_natCast, decide_true, decide_false, dJ.C, cJ.K, cJ.H, bX.K, bX.H, aA, aA, gq, Int.reduceEq, Int.reduceLT, Int.reduceLE, implies_true, reduceCtorEq, if_true, if_false, go_sem, Nat.reduceEqDiff, Nat.reduceLT, Nat.reduceAdd, Nat.reduceSub, Nat.reduceLeDiff, List.reduceReplicate, Int.reduceToNat]
              refine ⟨⟨by omega, by omega⟩, hra, fun hd => ⟨fun h => ?_, fun h => ?_⟩, fun hd => ⟨fun h => ?_, fun h => ?_⟩⟩
              · rw [hgo2 _ hgr false _ (by simp [overB, hd, h]) (by simp [hd]; rfl), decide_eq_false h]
                refine aH ?_ rfl
                simp only [Sk.V, List.take_length, go_sem, Nat.reduceEqDiff, Nat.reduceLT, Nat.reduceAdd, Nat.reduceSub, Nat.reduceLeDiff, List.reduceReplicate, Int.reduceToNat]
              · rw [hgo2 _ hgr true _ (by simp [overB, hd, h]) (by simp; rfl), decide_eq_true h]
                refine aH ?_ rfl
                simp only [Sk.V, List.take_length, go_sem, Nat.reduceEqDiff, Nat.reduceLT, Nat.reduceAdd, Nat.reduceSub, Nat.reduceLeDiff, List.reduceReplicate, Int.reduceToNat]
              · rw [hgo2 _ hgr false _ (by simp [overB, hd, h]; omega) (by simp [hd]; rfl), decide_eq_false h]
                refine aH ?_ rfl
                simp only [Sk.V, List.take_length, go_sem, Nat.reduceEqDiff, Nat.reduceLT, Nat.reduceAdd, Nat.reduceSub, Nat.reduceLeDiff, List.reduceReplicate, Int.reduceToNat]
              · rw [hgo2 _ hgr true _ (by simp [overB, hd, h]) (by simp; rfl), decide_eq_true h]
                refine aH ?_ rfl
                simp only [Sk.V, List.take_length, go_sem, Nat.reduceEqDiff, Nat.reduceLT, Nat.reduceAdd, Nat.reduceSub, Nat.reduceLeDiff, List.reduceReplicate, Int.reduceToNat]
        · have hW1 : decide (W < 1) = true := decide_eq_true (by omega)
          have hgr : (goOn W ⟨b, t, a, l, false⟩).refs = l := by
            unfold goOn
            simp only [decide_eq_false hW, Bool.false_and]
            rw [if_neg (by decide)]
          simp only [hW, hW1, decide_true, decide_false, dJ.C, cJ.K, cJ.H, bX.K, bX.H, aA, aA, gq, Int.reduceEq, Int.reduceLT, Int.reduceLE, implies_true, reduceCtorEq, if_true, if_false, go_sem, Nat.reduceEqDiff, Nat.reduceLT, Nat.reduceAdd, Nat.reduceSub, Nat.reduceLeDiff, List.reduceReplicate, Int.reduceToNat]
          refine ⟨fun hd => ⟨fun h => ?_, fun h => ?_⟩, fun hd => ?_⟩
          · rw [hgo2 _ hgr false _ (by simp [overB, hd, h]) (by simp [hd]; rfl), decide_eq_false h]
            refine aH ?_ rfl
            simp only [Sk.V, List.take_length, go_sem, Nat.reduceEqDiff, Nat.reduceLT, Nat.reduceAdd, Nat.reduceSub, Nat.reduceLeDiff, List.reduceReplicate, Int.reduceToNat]
          · rw [hgo2 _ hgr true _ (by simp [overB, hd, h]) (by simp; rfl), decide_eq_true h]
            refine aH ?_ rfl
            simp only [Sk.V, List.take_length, go_sem, Nat.reduceEqDiff, Nat.reduceLT, Nat.reduceAdd, Nat.reduceSub, Nat.reduceLeDiff, List.reduceReplicate, Int.reduceToNat]
          · rw [hgo2 _ hgr true _ (by simp [overB, hd]; omega) (by simp; rfl)]
            refine aH ?_ rfl
            simp only [Sk.V, List.take_length, go_sem, Nat.reduceEqDiff, Nat.reduceLT, Nat.reduceAdd, Nat.reduceSub, Nat.reduceLeDiff, List.reduceReplicate, Int.reduceToNat]
end Lam
namespace Lam
set_option maxRecDepth 20000
open Go Go.Proofs
set_option linter.unusedVariables false
set_option linter.unnecessarySimpa false
set_option linter.unusedSimpArgs false
/-- what is kept, with more behind it -/
def ExtT (T T1 : List AObj) : Prop := OkT T1 ∧ T1.take T.length = T
theorem ExtT.refl {T : List AObj} (h : OkT T) : ExtT T T := ⟨h, List.take_of_length_le (Nat.le_refl _)⟩
theorem ExtT.len {T T1 : List AObj} (h : ExtT T T1) : T.length ≤ T1.length := by
  have := congrArg List.length h.2
  rw [List.length_take] at this; omega
theorem ExtT.trans {T T1 T2 : List AObj} (h : ExtT T T1) (h' : ExtT T1 T2) : ExtT T T2 :=
  ⟨h'.1, by
    have e : T2.take T.length = (T2.take T1.length).take T.length := by rw [List.take_take, Nat.min_eq_left h.len]
    rw [e, h'.2, h.2]⟩
theorem ExtT.snoc {T T1 : List AObj} (h : ExtT T T1) (k : IntKind) (n : Int) : ExtT T (T1 ++ [.box (.int k n)]) :=
  ⟨h.1.snoc k n, by rw [List.take_append_of_le_length h.len]; exact h.2⟩
abbrev pdq_ctx (C : Con) : Ctx := ctx [(109, bK.C)] [(126, aK.K), (127, aR.K), (128, aO.K), (129, aX.K), (130, aP.K), (131, aC.K), (133, aE.K), (119, C)] bF.loops
def pdqD : Nat → Con
  | 0 => fun _ _ _ => False
  | d + 1 => fun args h K => match args with
    | [a0, a1, a2, a3, a4] => bF.H (pdq_ctx (pdqD d)) a0 a1 a2 a3 a4 h K
    | _ => False
theorem pdqD.spec : ∀ d, SSpec Tryz.prog 119 (pdqD d)
  | 0 => by
    refine SSpec.of (c := ctx [] [] bF.loops) (ctx_ok (by simp) (by simp) bF.loops) bF.at bF.nm bF.bd ?_
    intro args h K hC
    exact hC.elim
  | d + 1 => by
    refine SSpec.of (c := pdq_ctx (pdqD d)) (ctx_ok (by simpa using bK.spec) (by simpa using ⟨aK.spec, aR.spec, aO.spec, aX.spec, aP.spec, aC.spec, aE.spec, pdqD.spec d⟩) bF.loops) bF.at bF.nm bF.bd ?_
    intro args h K hC
    unfold pdqD at hC
    split at hC
    · rw [bF.eq]; exact hC
    · exact hC.elim
theorem pdq_K (A : SkT) (m : Bytes → Bool) (v : Nat) (n : Nat) (hr : roomy n) (h255 : n < 256) : ∀ (d : Nat) (l : List RecT) (T : List AObj) (hTn : OkT T) (a b : Nat) (lim : Int) (hn : n = l.length) (hab : a ≤ b) (hbn : b ≤ n) (hd : b < a + d) (hpre : PreS a b l) (hnd : (l.map (·.key)).Nodup) (K : AOut → List AObj → Prop)
    (hK : ∀ l' T', ExtT T T' → SegP a b l l' → SegS a b l' → K (.ret (.tup [])) (hpS A m v l' T')),
    pdqD d [.sref false 2 v 0 n, .int .i64 a, .int .i64 b, .int .i64 lim, hitF] (hpS A m v l T) K
  | 0, l, T, hTn, a, b, lim, hn, hab, hbn, hd, hpre, hnd, K, hK => by omega
  | d + 1, l, T, hTn, a0, b0, lim0, hn, hab0, hbn0, hd, hpre0, hnd, K, hK => by
    have ih := pdq_K A m v n hr h255 d
    have hr' := hr
    unfold roomy at hr'
    have h2 : 2 < T.length + 1 + 1 + 1 := by omega
    unfold pdqD bF.H
    simp only [hpS, hTn _ _, SkT.norm, h2, aA, aA, gq, Int.reduceEq, Int.reduceLT, Int.reduceLE, implies_true, reduceCtorEq, if_true, if_false, go_sem, Nat.reduceEqDiff, Nat.reduceLT, Nat.reduceAdd, Nat.reduceSub, Nat.reduceLeDiff, List.reduceReplicate, Int.reduceToNat]
    unfold bF.L1
    refine loop5 (σ := List RecT × Nat × Nat × Int × Bool × Bool) (fun s => .int .i64 s.2.1) (fun s => .int .i64 s.2.2.1) (fun s => .int .i64 s.2.2.2.1) (fun s => .bool s.2.2.2.2.1) (fun s => .bool s.2.2.2.2.2) (fun s => .box A.V :: .map (.sb m) :: .row .own v (.recs s.1) :: T) (fun s => s.2.2.1 - s.2.1)
      (fun s => a0 ≤ s.2.1 ∧ s.2.1 ≤ s.2.2.1 ∧ s.2.2.1 ≤ b0 ∧ SegP a0 b0 l s.1 ∧ PreS s.2.1 s.2.2.1 s.1 ∧ ∀ l', SegP s.2.1 s.2.2.1 s.1 l' → SegS s.2.1 s.2.2.1 l' → SegS a0 b0 l') (l, a0, b0, lim0, true, true) rfl rfl ⟨Nat.le_refl _, hab0, Nat.le_refl _, SegP.refl, hpre0, fun l' _ h => h⟩ ?_
    rintro I back ⟨l1, a, b, lim, t10, t11⟩ ⟨g1, g2, g3, g4, g5, g6⟩
    simp only at g1 g2 g3 g4 g5 g6 ⊢
    have hl1 := g4.len
    obtain ⟨len, hlen⟩ : ∃ len, b - a = len := ⟨_, rfl⟩
    have e2 : IntKind.i64.wrap ((b : Int) - a) = (len : Int) := by rw [w64 (by omega) (by omega)]; omega
    have hlt : ∀ (l2 : List RecT) (p : Nat), SegP a b l1 l2 → a ≤ p → p < b → 0 < a → ltB (kyL l2 (a - 1)) (kyL l2 p) = true := fun l2 p h1 h3 h4 h5 => by
      rcases g5.keep h1 with h | h
      · omega
      · refine mV (h p h3 h4) fun e => ?_
        have hnd2 : (l2.map (·.key)).Nodup := ((g4.trans (h1.mono g1 g3)).1.map _).nodup_iff.2 hnd
        have hl2 := h1.len
        have h6 := List.pairwise_iff_getElem.1 hnd2 (a - 1) p (by simp; omega) (by simp; omega) (by omega)
        apply h6
        unfold kyL at e
        rw [List.getD_eq_getElem?_getD, List.getD_eq_getElem?_getD, List.getElem?_eq_getElem (by omega), List.getElem?_eq_getElem (by omega)] at e
        simpa using e
    have ea1 : 0 < a → IntKind.i64.wrap ((a : Int) - 1) = ((a - 1 : Nat) : Int) := fun h => by rw [w64 (by omega) (by omega)]; omega
    have eb1 : 0 < b → IntKind.i64.wrap ((b : Int) - 1) = ((b - 1 : Nat) : Int) := fun h => by rw [w64 (by omega) (by omega)]; omega
    have ep1 : ∀ p : Nat, a ≤ p → p < b → IntKind.i64.wrap (((b - 1 : Nat) : Int) - IntKind.i64.wrap ((p : Int) - (a : Int))) = ((b - 1 - (p - a) : Nat) : Int) := fun p h1 h3 => by
      rw [w64 (n := (p : Int) - a) (by omega) (by omega), w64 (n := ((b - 1 : Nat) : Int) - ((p : Int) - (a : Int))) (by omega) (by omega)]; omega
    refine iR fun kb hkb => ?_
    rw [aA]
    simp only [SkT.norm, e2, gq, Int.reduceEq, Int.reduceLT, Int.reduceLE, implies_true, reduceCtorEq, if_true, if_false, go_sem, Nat.reduceEqDiff, Nat.reduceLT, Nat.reduceAdd, Nat.reduceSub, Nat.reduceLeDiff, List.reduceReplicate, Int.reduceToNat]
    refine ⟨fun h12 => ?_, fun h12 => ⟨fun hz => ?_, fun hz => ?_⟩⟩
    · exact ins_K A m v l1 T hTn n a b (by omega) g2 (by omega) hr _ fun l' p s => hK l' T (ExtT.refl hTn) (g4.trans (p.mono g1 g3)) (g6 l' p s)
    · exact heap_K A m v l1 T hTn n a b (by omega) (by omega) (by omega) hr _ fun l' p s => hK l' T (ExtT.refl hTn) (g4.trans (p.mono g1 g3)) (g6 l' p s)
    have backb : ∀ (l6 : List RecT) (T6 : List AObj) (a' b' : Nat) (lim' : Int) (x y : Bool), ExtT T T6 → a ≤ a' → a' ≤ b' → b' ≤ b → b' - a' < b - a → SegP a b l1 l6 → PreS a' b' l6 → (∀ l7, SegP a' b' l6 l7 → SegS a' b' l7 → SegS a b l7) → kb (.int .i64 a') (.int .i64 b') (.int .i64 lim') (.bool x) (.bool y) (hpS A m v l6 T6) := by
      intro l6 T6 a' b' lim' x y x6 q1 q2 q3 q4 q5 q6 q7
      have hT6 := x6.1
      have hx6 := x6.2
      rw [hkb]
      simp only [hpS, hT6 _ _, hx6, hTn _ _, SkT.norm, h2, gq, Int.reduceEq, Int.reduceLT, Int.reduceLE, implies_true, reduceCtorEq, if_true, if_false, go_sem, Nat.reduceEqDiff, Nat.reduceLT, Nat.reduceAdd, Nat.reduceSub, Nat.reduceLeDiff, List.reduceReplicate, Int.reduceToNat]
      exact back (l6, a', b', lim', x, y) q4 rfl rfl ⟨by simp only; omega, q2, by simp only; omega, g4.trans (q5.mono g1 g3), q6, fun l7 p7 s7 => g6 l7 (q5.trans (p7.mono q1 q3)) (q7 l7 p7 s7)⟩
    clear hkb
    refine iR fun k3 hk3 => ?_
    have rest3 : ∀ (l2 : List RecT) (T2 : List AObj) (lim2 : Int), ExtT T T2 → SegP a b l1 l2 → k3 (.int .i64 lim2) (hpS A m v l2 T2) := by
      intro l2 T2 lim2 x2 p2
      have hT2 := x2.1
      rw [hk3]
      simp only [hpS, hT2 _ _, SkT.norm, gq, Int.reduceEq, Int.reduceLT, Int.reduceLE, implies_true, reduceCtorEq, if_true, if_false, go_sem, Nat.reduceEqDiff, Nat.reduceLT, Nat.reduceAdd, Nat.reduceSub, Nat.reduceLeDiff, List.reduceReplicate, Int.reduceToNat]
      refine aCg A m v l2 T2 hT2 n a b (by rw [p2.len]; omega) (by omega) (by omega) hr _ fun p e s hp1 hp2 he => ?_
      have x3 := x2.snoc .i64 s
      generalize T2 ++ [AObj.box (.int .i64 s)] = T3 at *
      have hT3 := x3.1
      simp only [hpS, hT3 _ _, SkT.norm, gq, Int.reduceEq, Int.reduceLT, Int.reduceLE, implies_true, reduceCtorEq, if_true, if_false, go_sem, Nat.reduceEqDiff, Nat.reduceLT, Nat.reduceAdd, Nat.reduceSub, Nat.reduceLeDiff, List.reduceReplicate, Int.reduceToNat]
      refine iR fun k4 hk4 => ?_
      have rest4 : ∀ (l3 : List RecT) (p : Nat) (e : Int), SegP a b l1 l3 → a ≤ p → p < b → k4 (.int .i64 p) (.int .i64 e) (hpS A m v l3 T3) := by
        intro l3 p e p3 hp1 hp2
        have hl3 := p3.len
        rw [hk4]
        cases t10 <;> cases t11 <;> simp only [hpS, hT3 _ _, SkT.norm, gq, Int.reduceEq, Int.reduceLT, Int.reduceLE, implies_true, reduceCtorEq, if_true, if_false, go_sem, Nat.reduceEqDiff, Nat.reduceLT, Nat.reduceAdd, Nat.reduceSub, Nat.reduceLeDiff, List.reduceReplicate, Int.reduceToNat]
        all_goals (rw [aA]; simp only [gq, Int.reduceEq, Int.reduceLT, Int.reduceLE, implies_true, reduceCtorEq, if_true, if_false, go_sem, Nat.reduceEqDiff, Nat.reduceLT, Nat.reduceAdd, Nat.reduceSub, Nat.reduceLeDiff, List.reduceReplicate, Int.reduceToNat])
        all_goals
          refine iR fun k7 hk7 => ?_
          have rest7 : ∀ l4, SegP a b l1 l4 → k7 (hpS A m v l4 T3) := by
            intro l4 p4
            have hl4 := p4.len
            rw [hk7]
            refine iR fun k8 hk8 => ?_
            have rest8 : ∀ x y, ((x = .bool true ∧ y = .bool false) ∨ (x = .bool false ∧ y = .und)) → k8 x y (hpS A m v l4 T3) := by
              rintro x y hxy
              rw [hk8]
              rcases hxy with ⟨rfl, rfl⟩ | ⟨rfl, rfl⟩ <;> simp only [hpS, hT3 _ _, SkT.norm, gq, Int.reduceEq, Int.reduceLT, Int.reduceLE, implies_true, reduceCtorEq, if_true, if_false, go_sem, Nat.reduceEqDiff, Nat.reduceLT, Nat.reduceAdd, Nat.reduceSub, Nat.reduceLeDiff, List.reduceReplicate, Int.reduceToNat]
              all_goals
                refine zC A m v l4 T3 hT3 n a b p (by omega) (by omega) (by omega) hp1 hp2 hr _ fun l5 q al p5 hq1 hq2 hpt => ?_
                have hl5 := p5.len
                have P5 := p4.trans p5
                have f1 : IntKind.i64.wrap ((q : Int) - a) = ((q - a : Nat) : Int) := by rw [w64 (by omega) (by omega)]; omega
                have f2 : IntKind.i64.wrap ((b : Int) - q) = ((b - q : Nat) : Int) := by rw [w64 (by omega) (by omega)]; omega
                have hnd5 : (l5.map (·.key)).Nodup := ((g4.trans (P5.mono g1 g3)).1.map _).nodup_iff.2 hnd
                simp only [hpS, hT3 _ _, SkT.norm, f1, f2, wnext (show q < 4611686018427387904 by omega), gq, Int.reduceEq, Int.reduceLT, Int.reduceLE, implies_true, reduceCtorEq, if_true, if_false, go_sem, Nat.reduceEqDiff, Nat.reduceLT, Nat.reduceAdd, Nat.reduceSub, Nat.reduceLeDiff, List.reduceReplicate, Int.reduceToNat]
                refine iR fun k9 hk9 => ?_
                have rest9 : ∀ (l6 : List RecT) (T6 : List AObj) (a' b' : Nat) (x : Bool), ExtT T T6 → a ≤ a' → a' ≤ b' → b' ≤ b → b' - a' < b - a → SegP a b l1 l6 → PreS a' b' l6 → (∀ l7, SegP a' b' l6 l7 → SegS a' b' l7 → SegS a b l7) → k9 (.int .i64 a') (.int .i64 b') (.bool x) (hpS A m v l6 T6) := fun l6 T6 a' b' x q0 q1 q2 q3 q4 q5 q6 q7 => by
                  rw [hk9]; exact backb l6 T6 a' b' lim2 x al q0 q1 q2 q3 q4 q5 q6 q7
                clear hk9
                rw [aA]
                refine ⟨fun hlt1 => ?_, fun hge => ?_⟩
                · refine ih l5 T3 hT3 a q lim2 (by omega) hq1 (by omega) (by omega) ((g5.keep P5).imp id fun h k k1 k2 => h k k1 (by omega)) hnd5 _ fun l6 T6 x6 p6 s6 => ?_
                  have hT6 := x6.1
                  have hl := hpt.left p6
                  simp only [hpS, hT6 _ _, SkT.norm, wnext (show q < 4611686018427387904 by omega), gq, Int.reduceEq, Int.reduceLT, Int.reduceLE, implies_true, reduceCtorEq, if_true, if_false, go_sem, Nat.reduceEqDiff, Nat.reduceLT, Nat.reduceAdd, Nat.reduceSub, Nat.reduceLeDiff, List.reduceReplicate, Int.reduceToNat]
                  exact rest9 l6 T6 (q + 1) b _ (x3.trans x6) (by omega) (by omega) (Nat.le_refl _) (by omega) (P5.trans (p6.mono (Nat.le_refl _) (by omega))) (.inr fun k k1 k2 => hl.2 k (by omega) k2) fun l7 p7 s7 => (hl.right p7).sorted (s6.keep p7 (.inl (by omega))) s7
                · refine ih l5 T3 hT3 (q + 1) b lim2 (by omega) (by omega) (by omega) (by omega) (.inr fun k k1 k2 => hpt.2 k (by omega) k2) hnd5 _ fun l6 T6 x6 p6 s6 => ?_
                  have hT6 := x6.1
                  have hl := hpt.right p6
                  have P6 := P5.trans (p6.mono (by omega) (Nat.le_refl _))
                  simp only [hpS, hT6 _ _, SkT.norm, wnext (show q < 4611686018427387904 by omega), gq, Int.reduceEq, Int.reduceLT, Int.reduceLE, implies_true, reduceCtorEq, if_true, if_false, go_sem, Nat.reduceEqDiff, Nat.reduceLT, Nat.reduceAdd, Nat.reduceSub, Nat.reduceLeDiff, List.reduceReplicate, Int.reduceToNat]
                  exact rest9 l6 T6 a q _ (x3.trans x6) (Nat.le_refl _) (by omega) (by omega) (by omega) P6 ((g5.keep P6).imp id fun h k k1 k2 => h k k1 (by omega)) fun l7 p7 s7 => (hl.left p7).sorted s7 (s6.keep p7 (.inr (by omega)))
            clear hk8
            rw [aA]
            by_cases ha0 : 0 < a
            · have hlt0 := hlt l4 p p4 hp1 hp2 ha0
              have da : decide ((0 : Int) < (a : Int)) = true := decide_eq_true (by omega)
              simp only [hpS, hT3 _ _, SkT.norm, da, hlt0, ea1 ha0, Int.toNat_natCast, bK.C, d0_def, kyL_def, fT, gq, Int.reduceEq, Int.reduceLT, Int.reduceLE, implies_true, reduceCtorEq, if_true, if_false, go_sem, Nat.reduceEqDiff, Nat.reduceLT, Nat.reduceAdd, Nat.reduceSub, Nat.reduceLeDiff, List.reduceReplicate, Int.reduceToNat]
              refine ⟨⟨by omega, by omega⟩, by omega, ⟨by omega, by omega⟩, by omega, ?_⟩
              exact rest8 _ _ (.inl ⟨rfl, rfl⟩)
            · have da : decide ((0 : Int) < (a : Int)) = false := decide_eq_false (by omega)
              simp only [hpS, da, gq, Int.reduceEq, Int.reduceLT, Int.reduceLE, implies_true, reduceCtorEq, if_true, if_false, go_sem, Nat.reduceEqDiff, Nat.reduceLT, Nat.reduceAdd, Nat.reduceSub, Nat.reduceLeDiff, List.reduceReplicate, Int.reduceToNat]
              exact rest8 _ _ (.inr ⟨rfl, rfl⟩)
          clear hk7
          rw [aA]
          first
            | exact rest7 l3 p3
            | refine ⟨fun _ => part_K A m v l3 T3 hT3 n a b (by omega) (by omega) (by omega) (g5.keep p3) hr _ (fun l4 p4 s4 => ?_) fun l4 p4 => ?_, fun _ => rest7 l3 p3⟩
              · simp only [hpS, gq, Int.reduceEq, Int.reduceLT, Int.reduceLE, implies_true, reduceCtorEq, if_true, if_false, go_sem, Nat.reduceEqDiff, Nat.reduceLT, Nat.reduceAdd, Nat.reduceSub, Nat.reduceLeDiff, List.reduceReplicate, Int.reduceToNat]
                exact hK l4 T3 x3 (g4.trans ((p3.trans p4).mono g1 g3)) (g6 l4 (p3.trans p4) s4)
              · simp only [hpS, gq, Int.reduceEq, Int.reduceLT, Int.reduceLE, implies_true, reduceCtorEq, if_true, if_false, go_sem, Nat.reduceEqDiff, Nat.reduceLT, Nat.reduceAdd, Nat.reduceSub, Nat.reduceLeDiff, List.reduceReplicate, Int.reduceToNat]
                exact rest7 l4 (p3.trans p4)
      rw [aA]
      simp only [eb1 (by omega), ep1 p hp1 hp2, gq, Int.reduceEq, Int.reduceLT, Int.reduceLE, implies_true, reduceCtorEq, if_true, if_false, go_sem, Nat.reduceEqDiff, Nat.reduceLT, Nat.reduceAdd, Nat.reduceSub, Nat.reduceLeDiff, List.reduceReplicate, Int.reduceToNat]
      refine ⟨fun he2 => aBo A m v l2 T3 hT3 n a b (by rw [p2.len]; omega) (by omega) (by omega) hr _ fun l3 p3 => ?_, fun _ => rest4 l2 p e p2 hp1 hp2⟩
      simp only [hpS, hT3 _ _, SkT.norm, gq, Int.reduceEq, Int.reduceLT, Int.reduceLE, implies_true, reduceCtorEq, if_true, if_false, go_sem, Nat.reduceEqDiff, Nat.reduceLT, Nat.reduceAdd, Nat.reduceSub, Nat.reduceLeDiff, List.reduceReplicate, Int.reduceToNat]
      exact rest4 l3 (b - 1 - (p - a)) 1 (p2.trans p3) (by omega) (by omega)
    rw [aA]
    cases t10 with
    | false =>
      simp only [gq, Int.reduceEq, Int.reduceLT, Int.reduceLE, implies_true, reduceCtorEq, if_true, if_false, go_sem, Nat.reduceEqDiff, Nat.reduceLT, Nat.reduceAdd, Nat.reduceSub, Nat.reduceLeDiff, List.reduceReplicate, Int.reduceToNat]
      refine break_K A m v l1 T hTn n a b (by omega) (by omega) (by omega) (by omega) hr _ fun l2 y p2 => ?_
      have x2 := (ExtT.refl hTn).snoc .u64 y
      have hT2 := x2.1
      simp only [hpS, gq, Int.reduceEq, Int.reduceLT, Int.reduceLE, implies_true, reduceCtorEq, if_true, if_false, go_sem, Nat.reduceEqDiff, Nat.reduceLT, Nat.reduceAdd, Nat.reduceSub, Nat.reduceLeDiff, List.reduceReplicate, Int.reduceToNat]
      exact rest3 l2 _ _ x2 p2
    | true =>
      simp only [gq, Int.reduceEq, Int.reduceLT, Int.reduceLE, implies_true, reduceCtorEq, if_true, if_false, go_sem, Nat.reduceEqDiff, Nat.reduceLT, Nat.reduceAdd, Nat.reduceSub, Nat.reduceLeDiff, List.reduceReplicate, Int.reduceToNat]
      exact rest3 l1 T lim (ExtT.refl hTn) SegP.refl
def aS.K : Con := fun args h K => match args with
  | [a0, a1] => aS.H (ctx [(120, cM.C)] [(119, pdqD 256)] aS.loops) a0 a1 h K
  | _ => False
theorem aS.spec : SSpec Tryz.prog 108 aS.K := by
  refine SSpec.of (c := ctx [(120, cM.C)] [(119, pdqD 256)] aS.loops) (ctx_ok (by simpa using cM.spec) (by simpa using pdqD.spec 256) aS.loops) aS.at aS.nm aS.bd ?_
  intro args h K hC
  unfold aS.K at hC
  split at hC
  · rw [aS.eq]; exact hC
  · exact hC.elim
theorem sort_K (A : SkT) (m : Bytes → Bool) (v : Nat) (l : List RecT) (n : Nat) (hn : n = l.length) (h255 : n < 256) (hnd : (l.map (·.key)).Nodup) (K : AOut → List AObj → Prop)
    (hK : ∀ l' T, l'.Perm l → SegS 0 n l' → K (.ret (.tup [])) (hpS A m v l' T)) :
    aS.K [.sref false 2 v 0 n, hitF] (hpS A m v l []) K := by
  have hr : roomy n := by unfold roomy; omega
  have e1 : IntKind.u64.wrap (n : Int) = n := u64_id (by omega) (by omega)
  unfold aS.K aS.H
  simp only [hpS, cM.C, e1, Int.toNat_natCast, aA, gq, Int.reduceEq, Int.reduceLT, Int.reduceLE, implies_true, reduceCtorEq, if_true, if_false, go_sem, Nat.reduceEqDiff, Nat.reduceLT, Nat.reduceAdd, Nat.reduceSub, Nat.reduceLeDiff, List.reduceReplicate, Int.reduceToNat]
  exact ⟨⟨by omega, by omega⟩, pdq_K A m v n hr h255 256 l [] OkT.nil 0 n _ hn (Nat.zero_le _) (Nat.le_refl _) (by omega) (.inl rfl) hnd _ fun l' T' _ s1 s2 => hK l' T' s1.1 s2⟩
end Lam
namespace Lam
set_option maxRecDepth 20000
open Go Go.Proofs
set_option linter.unusedVariables false
set_option linter.unnecessarySimpa false
set_option linter.unusedSimpArgs false
def rcT (x : Rc) : RecT := ⟨x.kind, x.key, x.val, x.child⟩
def hitS (w : List Int) (out : List RecT) (r : Int) : List RecT := match recO w r with
  | none => out
  | some x => if x.key ∈ out.map (·.key) then out else out ++ [rcT x]
def hitsOf (w refs : List Int) : List RecT := refs.foldl (hitS w) []
theorem aCj (w : List Int) (out : List RecT) (r : Int) : (hitS w out r).length ≤ out.length + 1 := by
  unfold hitS
  split
  · omega
  · split
    · omega
    · simp
theorem aAw {w : List Int} {out : List RecT} {r : Int} (h : (out.map (·.key)).Nodup) : ((hitS w out r).map (·.key)).Nodup := by
  unfold hitS
  split
  · exact h
  · split
    · exact h
    · rename_i x _ hx
      rw [List.map_append, List.nodup_append]
      refine ⟨h, by simp, fun a ha b hb => ?_⟩
      simp only [List.map_cons, List.map_nil, List.mem_singleton] at hb
      subst hb
      rintro rfl
      exact hx ha
theorem pL {w : List Int} : ∀ {refs : List Int} {out : List RecT}, (out.map (·.key)).Nodup → ((refs.foldl (hitS w) out).map (·.key)).Nodup ∧ (refs.foldl (hitS w) out).length ≤ out.length + refs.length
  | [], out, h => ⟨h, by simp⟩
  | r :: refs, out, h => by
    obtain ⟨h1, h2⟩ := pL (refs := refs) (aAw (r := r) (w := w) h)
    have := aCj w out r
    exact ⟨h1, by simp only [List.foldl_cons, List.length_cons]; omega⟩
def insR (x : RecT) : List RecT → List RecT
  | [] => [x]
  | y :: l => if ltB x.key y.key = true then x :: y :: l else y :: insR x l
def sortR (l : List RecT) : List RecT := l.foldr insR []
theorem pM (x : RecT) : ∀ l : List RecT, (insR x l).Perm (x :: l)
  | [] => .refl _
  | y :: l => by
    unfold insR
    split
    · exact .refl _
    · exact ((pM x l).cons y).trans (.swap x y l)
theorem lR : ∀ l : List RecT, (sortR l).Perm l
  | [] => .refl _
  | x :: l => (pM x _).trans ((lR l).cons x)
def ltR (x y : RecT) : Prop := ltB x.key y.key = true
theorem tC {x : RecT} : ∀ {l : List RecT}, l.Pairwise ltR → (∀ y ∈ l, y.key ≠ x.key) → (insR x l).Pairwise ltR
  | [], _, _ => by simp [insR]
  | y :: l, h, hx => by
    rw [List.pairwise_cons] at h
    unfold insR
    split
    · rename_i hl
      rw [List.pairwise_cons]
      refine ⟨fun z hz => ?_, List.pairwise_cons.2 h⟩
      rcases List.mem_cons.1 hz with rfl | hz
      · exact hl
      · exact kU hl (h.1 z hz)
    · rename_i hl
      rw [List.pairwise_cons]
      refine ⟨fun z hz => ?_, tC h.2 fun z hz => hx z (by simp [hz])⟩
      rcases List.mem_cons.1 ((pM x l).mem_iff.1 hz) with rfl | hz
      · exact mV (by unfold leB; simpa using hl) (hx y (by simp))
      · exact h.1 z hz
theorem qJ : ∀ {l : List RecT}, (l.map (·.key)).Nodup → (sortR l).Pairwise ltR
  | [], _ => List.Pairwise.nil
  | x :: l, h => by
    rw [List.map_cons, List.nodup_cons] at h
    refine tC (qJ h.2) fun y hy he => h.1 ?_
    rw [← he]
    exact List.mem_map_of_mem (f := (·.key)) ((lR l).mem_iff.1 hy)
theorem xN : ∀ {l l' : List RecT}, l.Pairwise ltR → l'.Pairwise ltR → l.Perm l' → l = l'
  | [], l', _, _, p => p.nil_eq
  | x :: l, [], _, _, p => by have := p.length_eq; simp at this
  | x :: l, y :: l', h, h', p => by
    rw [List.pairwise_cons] at h h'
    have e : x = y := by
      rcases List.mem_cons.1 (p.mem_iff.1 (List.mem_cons_self (a := x))) with e | hx
      · exact e
      · rcases List.mem_cons.1 (p.mem_iff.2 (List.mem_cons_self (a := y))) with e | hy
        · exact e.symm
        · have := kU (h.1 y hy) (h'.1 x hx)
          rw [nQ] at this; cases this
    subst e
    rw [xN h.2 h'.2 (List.Perm.cons_inv p)]
theorem aBq {l l' : List RecT} (hp : l'.Perm l) (hs : SegS 0 l.length l') (hn : (l.map (·.key)).Nodup) : l' = sortR l := by
  refine xN ?_ (qJ hn) (hp.trans (lR l).symm)
  have hn' : (l'.map (·.key)).Nodup := (hp.map _).nodup_iff.2 hn
  rw [List.pairwise_iff_getElem]
  intro i j hi hj hij
  have h1 := hs i j (Nat.zero_le _) hij (by rw [← hp.length_eq]; exact hj)
  unfold kyL at h1
  rw [List.getD_eq_getElem?_getD, List.getD_eq_getElem?_getD, List.getElem?_eq_getElem hi, List.getElem?_eq_getElem hj] at h1
  refine mV h1 fun e => ?_
  have := List.pairwise_iff_getElem.1 hn' i j (by simpa using hi) (by simpa using hj) hij
  apply this
  simpa using e
def eN.C : aD
  | [.sl _ (.ints .i64 w), .agg [.int .i64 b, .int .i64 t, .int .i64 a, .sl _ (.ints .i64 l), .bool o]] => some (false, pD (roomy w.length ∧ l.length ≤ 200) (.sl false (.recs (sortR (hitsOf w l)))))
  | _ => none
set_option maxRecDepth 20000 in
theorem eN.spec : FSpec Tryz.prog 89 eN.C := by
  refine FSpec.of (ctx_ok (F := [(79, dM.C)]) (S := [(108, aS.K)]) (by simpa using dM.spec) (by simpa using aS.spec) eN.loops) eN.at eN.nm eN.bd ?_
  intro vs b S v news e hS
  unfold eN.C at e
  split at e
  rotate_left
  · cases e
  cases e
  rw [eN.eq]
  unfold eN.H
  simp (maxSteps := 4000000) only [go_sem, Nat.reduceEqDiff, Nat.reduceLT, Nat.reduceAdd, Nat.reduceSub, Nat.reduceLeDiff, List.reduceReplicate, Int.reduceToNat, dM.C]
  rename_i _ w b t a x l o
  obtain ⟨hw, hl⟩ := hS
  rw [aA]
  unfold eN.L1
  refine loop2 (σ := Nat) (fun k => .sref false 2 (hitsOf w (l.take k)).length 0 (hitsOf w (l.take k)).length) (fun k => .int .i64 k) (fun k => [.box (Sk.V ⟨b, t, a, l, o⟩), .map (.sb fun s => decide (s ∈ (hitsOf w (l.take k)).map (·.key))), .row .own (hitsOf w (l.take k)).length (.recs (hitsOf w (l.take k)))]) (fun k => l.length - k) (fun k => k ≤ l.length) 0 rfl (by simp [hitsOf, Sk.V]) (Nat.zero_le _) ?_
  intro I back k hk
  have hnext : k < l.length → hitsOf w (l.take (k + 1)) = hitS w (hitsOf w (l.take k)) (l.getD k 0) := fun h => by
    unfold hitsOf; rw [gA l k 0 h, List.foldl_append]; rfl
  obtain ⟨hnd, hol⟩ := pL (w := w) (refs := l.take k) (out := []) (by simp)
  have hnd : ((hitsOf w (l.take k)).map (·.key)).Nodup := hnd
  have hol : (hitsOf w (l.take k)).length ≤ k := by
    have : (hitsOf w (l.take k)).length ≤ 0 + (l.take k).length := hol
    rw [List.length_take] at this; omega
  by_cases hlt : k < l.length
  · have hb : ∀ (n : Nat) (lv : List AV) (h : List AObj), _ := fun n lv h => @back n lv h (k + 1)
    rw [hnext hlt] at hb
    clear back hnext
    generalize hitsOf w (l.take k) = out at *
    cases hx : recO w (l.getD k 0) with
    | none =>
      obtain ⟨e, he, hr⟩ := aBp hx
      have hs : hitS w out (l.getD k 0) = out := by unfold hitS; rw [hx]
      rw [hs] at hb
      simp only [dM.C, hr, zeroRc, he, decide_false, aA, Sk.V, aA, gq, Int.reduceEq, Int.reduceLT, Int.reduceLE, implies_true, reduceCtorEq, if_true, if_false, go_sem, Nat.reduceEqDiff, Nat.reduceLT, Nat.reduceAdd, Nat.reduceSub, Nat.reduceLeDiff, List.reduceReplicate, Int.reduceToNat]
      exact ⟨fun _ => ⟨⟨by omega, by omega⟩, hw, hb _ _ _ (by omega) (by rw [wnext (by omega)]) rfl (by omega)⟩, fun h => absurd h (by omega)⟩
    | some y =>
      obtain ⟨y1, y2, y3, y4⟩ := y
      by_cases hin : y2 ∈ out.map (·.key)
      · have hs : hitS w out (l.getD k 0) = out := by unfold hitS; rw [hx]; simp only [hin, if_true]
        rw [hs] at hb
        simp only [dM.C, vA hx, hin, decide_true, aA, Sk.V, aA, gq, Int.reduceEq, Int.reduceLT, Int.reduceLE, implies_true, reduceCtorEq, if_true, if_false, go_sem, Nat.reduceEqDiff, Nat.reduceLT, Nat.reduceAdd, Nat.reduceSub, Nat.reduceLeDiff, List.reduceReplicate, Int.reduceToNat]
        exact ⟨fun _ => ⟨⟨by omega, by omega⟩, hw, hb _ _ _ (by omega) (by rw [wnext (by omega)]) rfl (by omega)⟩, fun h => absurd h (by omega)⟩
      · have hs : hitS w out (l.getD k 0) = out ++ [⟨y1, y2, y3, y4⟩] := by unfold hitS; rw [hx]; simp only [hin, if_false]; rfl
        rw [hs] at hb
        have hmap : (fun j => if j = y2 then true else decide (j ∈ out.map (·.key))) = fun j => decide (j ∈ (out ++ [(⟨y1, y2, y3, y4⟩ : RecT)]).map (·.key)) := by
          funext j
          rw [List.map_append, show decide (j ∈ out.map (·.key) ++ [(⟨y1, y2, y3, y4⟩ : RecT)].map (·.key)) = decide (j ∈ out.map (·.key) ∨ j = y2) from decide_eq_decide.2 (by simp)]
          by_cases e : j = y2
          · simp [e]
          · simp [e]
        simp only [dM.C, vA hx, hin, decide_false, aA, Sk.V, aA, gq, Int.reduceEq, Int.reduceLT, Int.reduceLE, implies_true, reduceCtorEq, if_true, if_false, go_sem, Nat.reduceEqDiff, Nat.reduceLT, Nat.reduceAdd, Nat.reduceSub, Nat.reduceLeDiff, List.reduceReplicate, Int.reduceToNat]
        have hl1 : (out ++ [(⟨y1, y2, y3, y4⟩ : RecT)]).length = out.length + 1 := by simp
        refine ⟨fun _ => ⟨⟨by omega, by omega⟩, hw, by rw [hl1]; unfold roomy; omega, hb _ _ _ (by omega) (by rw [wnext (by omega), hl1]) (by rw [hmap, hl1]; rfl) (by omega)⟩, fun h => absurd h (by omega)⟩
  · obtain rfl : k = l.length := by omega
    rw [List.take_length] at hnd hol ⊢
    clear back hnext
    simp only [Sk.V, aA, gq, Int.reduceEq, Int.reduceLT, Int.reduceLE, implies_true, reduceCtorEq, if_true, if_false, go_sem, Nat.reduceEqDiff, Nat.reduceLT, Nat.reduceAdd, Nat.reduceSub, Nat.reduceLeDiff, List.reduceReplicate, Int.reduceToNat]
    refine ⟨fun h => absurd h (by omega), fun _ => ?_⟩
    refine sort_K ⟨b, t, a, l, o⟩ _ _ (hitsOf w l) _ rfl (by omega) hnd _ fun l' tl hp hs => ?_
    simp only [hpS, SkT.V, aA, gq, Int.reduceEq, Int.reduceLT, Int.reduceLE, implies_true, reduceCtorEq, if_true, if_false, go_sem, Nat.reduceEqDiff, Nat.reduceLT, Nat.reduceAdd, Nat.reduceSub, Nat.reduceLeDiff, List.reduceReplicate, Int.reduceToNat]
    have e := aBq hp hs hnd
    rw [← e]
    refine aH ?_ rfl
    simp only [List.take_of_length_le (Nat.le_of_eq hp.length_eq), go_sem, Nat.reduceEqDiff, Nat.reduceLT, Nat.reduceAdd, Nat.reduceSub, Nat.reduceLeDiff, List.reduceReplicate, Int.reduceToNat]
end Lam
