/- What functions of the program come to, each proved from its code. -/
import Derived.Test.YtmbmfnmjjelmkabGreatLm6
set_option linter.unusedVariables false
set_option linter.unusedSimpArgs false
set_option linter.unnecessarySimpa false
set_option linter.unusedSectionVars false
open Nat (reduceEqDiff reduceAdd reduceSub reduceLeDiff)
open Int (reduceToNat reduceEq reduceLE reduceLT)
open List (reduceReplicate)
set_option maxRecDepth 20000
namespace Lam
open Go Go.Proofs
def bZ.loops : Nat → bX
 | 8 => ⟨[11, 12], [false, false], [3, 5, 6, 8, 10], [(3, none), (3, some [39, 42])], [], []⟩
 | 12 => ⟨[], [], [], [(3, none), (2, some [56, 58]), (2, none), (2, some [60, 62]), (2, none), (3, some [64, 67]), (2, none), (4, some [69, 73]), (2, none), (2, some [75, 77])], [], []⟩
 | _ => ⟨[], [], [], [], [], []⟩
def bZ.L1 (c : Ctx) (J1 : AV → AV → AV → AV → AV → List AObj → Prop) (K : AOut → List AObj → Prop) (lv : List AV) (h0 : List AObj) (n0 : Nat) (c3 : AV) (c5 : AV) (c6 : AV) (c8 : AV) (c10 : AV) : Prop :=
 ∃ I : Nat → List AV → List AObj → Prop, (∃ n, I n lv h0) ∧ ∀ n h, ∀ t11, ∀ t12, I n [t11, t12] h →
 runD (binD aA .lss t12 (.int .i64 40)) h fun t38 h =>
 aM (fun (J2 : AV → AV → List AObj → Prop) =>
 aX t38 true
 (runD (aC aG c5 3) h fun t40 h =>
 runD (fitD aA (aD h t40)) h fun t41 h =>
 runD (binD aA .neq t41 (.int .i64 8)) h fun t42 h =>
 J2 (.bool true) t42 h)
 (J2 (.bool false) .und h))
 (fun t39 t42 h => runD (bP t39 t42 (.bool false)) h fun t43 h =>
 aZ t43
 (runD (fitD aL (aD h c3)) h fun t47 h =>
 runD (fitD aG (aD h c5)) h fun t48 h =>
 bB false c (.fn (.func 19) [] []) [t47, t48] h (fun t49 h =>
 runD (bM t49 0) h fun t50 h =>
 runD (bM t49 1) h fun t51 h =>
 runH (aQ aL h c3 t50) h fun _ h =>
 runH (aQ aG h c5 t51) h fun _ h =>
 runD (binD aA .add t11 (.int .i64 1)) h fun t53 h =>
 runD (binD aA .add t12 (.int .i64 1)) h fun t45 h =>
 (∃ m, m < n ∧ I m (AV.norms n0 h [t53, t45]) (cG n0 h)) ∧ AV.norms n0 h [c3, c5, c6, c8, c10] = [c3, c5, c6, c8, c10])
 (fun v h => K (.pan v) h))
 (J1 c5 c6 c8 c10 t11 h))
def bZ.H (c : Ctx) (h : List AObj) (K : AOut → List AObj → Prop) : Prop :=
 bB false c (.fn (.func 32) [] []) [(.int .i64 4)] h (fun t14 h =>
 runD (bM t14 0) h fun t15 h =>
 runD (bM t14 1) h fun t16 h =>
 bB false c (.fn (.func 28) [] []) [t15] h (fun t19 h =>
 runD (bM t19 0) h fun t20 h =>
 runD (bM t19 1) h fun t21 h =>
 cK aL h fun t3 h =>
 runH (aQ aL h t3 t20) h fun _ h =>
 bB false c (.fn (.func 18) [] []) [t15, (.str [97]), (.str []), (.int .i64 5)] h (fun t24 h =>
 runD (bM t24 0) h fun t25 h =>
 runD (bM t24 1) h fun t26 h =>
 cK aG h fun t5 h =>
 runH (aQ aG h t5 t25) h fun _ h =>
 bB false c (.fn (.func 18) [] []) [t15, (.str [97]), (.str []), (.int .i64 0)] h (fun t29 h =>
 runD (bM t29 0) h fun t30 h =>
 runD (bM t29 1) h fun t31 h =>
 cK aG h fun t7 h =>
 runH (aQ aG h t7 t30) h fun _ h =>
 bB false c (.fn (.func 18) [] []) [t15, (.str [97, 98, 99, 100, 101, 102, 103, 104, 105, 106, 107, 108, 109, 110, 111, 112, 113, 114, 115, 116, 117, 118]), (.str []), (.int .i64 0)] h (fun t34 h =>
 runD (bM t34 0) h fun t35 h =>
 runD (bM t34 1) h fun t36 h =>
 cK aG h fun t9 h =>
 runH (aQ aG h t9 t35) h fun _ h =>
 aM (fun (J1 : AV → AV → AV → AV → AV → List AObj → Prop) =>
 dE [false, false] [(.int .i64 0), (.int .i64 0)] h fun lv h => bZ.L1 c J1 K (AV.norms h.length h lv) (cG h.length h) h.length (AV.norm h.length h t3) (AV.norm h.length h t5) (AV.norm h.length h t26) (AV.norm h.length h t31) (AV.norm h.length h t36))
 (fun t5 t6 t8 t10 t11 h => runD (binD dD .eql t6 (.int .i64 0)) h fun t55 h =>
 aM (fun (J3 : AV → AV → List AObj → Prop) =>
 aX t55 true
 (runD (binD dD .eql t8 (.int .i64 1)) h fun t58 h =>
 J3 (.bool true) t58 h)
 (J3 (.bool false) .und h))
 (fun t56 t58 h => runD (bP t56 t58 (.bool false)) h fun t59 h =>
 aM (fun (J4 : AV → AV → List AObj → Prop) =>
 aX t59 true
 (runD (binD dD .eql t10 (.int .i64 20)) h fun t62 h =>
 J4 (.bool true) t62 h)
 (J4 (.bool false) .und h))
 (fun t60 t62 h => runD (bP t60 t62 (.bool false)) h fun t63 h =>
 aM (fun (J5 : AV → AV → List AObj → Prop) =>
 aX t63 true
 (runD (aC aG t5 3) h fun t65 h =>
 runD (fitD aA (aD h t65)) h fun t66 h =>
 runD (binD aA .eql t66 (.int .i64 8)) h fun t67 h =>
 J5 (.bool true) t67 h)
 (J5 (.bool false) .und h))
 (fun t64 t67 h => runD (bP t64 t67 (.bool false)) h fun t68 h =>
 aM (fun (J6 : AV → AV → List AObj → Prop) =>
 aX t68 true
 (runD (aC aG t5 8) h fun t70 h =>
 runD (fitD bV (aD h t70)) h fun t71 h =>
 runD (lenD bV h t71) h fun t72 h =>
 runD (binD aA .eql t72 (.int .i64 0)) h fun t73 h =>
 J6 (.bool true) t73 h)
 (J6 (.bool false) .und h))
 (fun t69 t73 h => runD (bP t69 t73 (.bool false)) h fun t74 h =>
 aM (fun (J7 : AV → AV → List AObj → Prop) =>
 aX t74 true
 (runD (binD aA .eql t11 (.int .i64 6)) h fun t77 h =>
 J7 (.bool true) t77 h)
 (J7 (.bool false) .und h))
 (fun t75 t77 h => runD (bP t75 t77 (.bool false)) h fun t78 h =>
 runD (bP t78 (.bool true) (.bool false)) h fun t80 h =>
 K (.ret t80) h)))))))
 (fun v h => K (.pan v) h))
 (fun v h => K (.pan v) h))
 (fun v h => K (.pan v) h))
 (fun v h => K (.pan v) h))
 (fun v h => K (.pan v) h)
theorem bZ.eq (F : List (FuncId × aF)) (S : List (FuncId × Con)) (h : List AObj) (K : AOut → List AObj → Prop) : funW (ctx F S bZ.loops) Tryz.f17 [] h K = bZ.H (ctx F S bZ.loops)  h K := by kernel_rfl
theorem bZ.at : Tryz.prog.funcs[17]? = some Tryz.f17 := by kernel_rfl
theorem bZ.nm : (Tryz.f17.name == "runtime.NumGoroutine") = false := by kernel_rfl
theorem bZ.bd : Tryz.f17.body.isNone = false := by kernel_rfl
end Lam
namespace Lam
open Go Go.Proofs
def C17 : Nat → Sc
  | 0 => ⟨[97], [], 5, 1, 1, 0, skZ, [97], []⟩
  | 1 => ⟨[97], [], 5, 2, 1, 0, skZ, [97], []⟩
  | 2 => ⟨[97], [], 5, 3, 1, 0, ⟨1, 0, 0, [], false⟩, [97], []⟩
  | 3 => ⟨[97], [], 5, 4, 1, 0, ⟨1, 0, 0, [], true⟩, [97], []⟩
  | 4 => ⟨[97], [], 5, 6, 1, 0, ⟨1, 0, 0, [], true⟩, [97], []⟩
  | 5 => ⟨[97], [], 5, 7, 1, 0, ⟨1, 0, 0, [], true⟩, [97], []⟩
  | _ => ⟨[97], [], 5, 8, 1, 0, ⟨1, 0, 0, [], true⟩, [97], []⟩
theorem aLg : ∀ k, k < 6 → kH M16 (C17 k) = (M16, C17 (k + 1)) ∧ (C17 k).phase ≠ 8
  | 0, _ => ⟨by
      show ((M16, rL A4 (C17 0)) : Mm × Sc) = _
      unfold rL; rw [show (C17 0).block = 1 from rfl, aAz]; rfl, by decide⟩
  | 1, _ => ⟨by
      show ((M16, uX A4 (C17 1)) : Mm × Sc) = _
      unfold uX; rw [show (C17 1).block = 1 from rfl, aLf]; rfl, by decide⟩
  | 2, _ => ⟨by
      show ((M16, wV A4 (C17 2)) : Mm × Sc) = _
      rfl, by decide⟩
  | 3, _ => ⟨by
      show ((M16, mE A4 (C17 3)) : Mm × Sc) = _
      unfold mE
      rw [show wU A4 (C17 3).seek.block (C17 3).seek.turn = true by
        unfold wU
        rw [show (C17 3).seek.block = 1 from rfl, aAz]; rfl]
      rw [if_neg (by decide), show aAe A4 (C17 3).block = none by
        unfold aAe
        rw [show (C17 3).block = 1 from rfl, aAz]; rfl]
      rfl, by decide⟩
  | 4, _ => ⟨by
      show ((mR M16 1 0, (⟨[97], [], 5, 7, 1, 0, ⟨1, 0, 0, [], true⟩, [97], []⟩ : Sc)) : Mm × Sc) = _
      unfold M16
      rw [aEh]; rfl, by decide⟩
  | 5, _ => ⟨by
      show ((mR M16 1 1, (⟨[97], [], 5, 8, 1, 0, ⟨1, 0, 0, [], true⟩, [97], []⟩ : Sc)) : Mm × Sc) = _
      unfold M16
      rw [aEh]; rfl, by decide⟩
  | k + 6, h => by omega
theorem aLh : ∀ k, k ≤ 6 → (C17 k).seek.refs = [] ∧ (C17 k).out = []
  | 0, _ => ⟨rfl, rfl⟩
  | 1, _ => ⟨rfl, rfl⟩
  | 2, _ => ⟨rfl, rfl⟩
  | 3, _ => ⟨rfl, rfl⟩
  | 4, _ => ⟨rfl, rfl⟩
  | 5, _ => ⟨rfl, rfl⟩
  | 6, _ => ⟨rfl, rfl⟩
  | k + 7, h => by omega
theorem aKj : jV A4 [97] [] 5 = .tup [(C17 0).V, .int .i64 0] := by
  unfold jV sc0; rw [if_neg (by decide), if_neg (by decide), aMi]; rfl
theorem aKk : jV A4 [97] [] 0 = .tup [scZ.V, .int .i64 1] := by
  unfold jV; rw [if_neg (by decide), if_pos (by decide)]
theorem aKl : jV A4 [97, 98, 99, 100, 101, 102, 103, 104, 105, 106, 107, 108, 109, 110, 111, 112, 113, 114, 115, 116, 117, 118] [] 0 = .tup [scZ.V, .int .i64 20] := by
  unfold jV; rw [if_pos (by decide)]
def bZ.C : aF
  | [] => some (false, pD True (.bool true))
  | _ => none
theorem bZ.spec : bJ Tryz.prog 17 bZ.C := by
  refine bJ.of (bU (F := [(32, gE.C), (28, gM.C), (18, dV.C), (19, eS.C)]) (S := []) (by simpa using ⟨gE.spec, gM.spec, dV.spec, eS.spec⟩) (by simp) bZ.loops) bZ.at bZ.nm bZ.bd ?_
  intro vs b S v news e hS
  unfold bZ.C at e
  split at e
  rotate_left
  · cases e
  cases e
  rw [bZ.eq]
  unfold bZ.H
  simp (maxSteps := 4000000) only [go_sem, reduceEqDiff, Nat.reduceLT, reduceAdd, reduceSub, reduceLeDiff, reduceReplicate, reduceToNat, gE.C, gM.C, dV.C, eS.C, aNh, aKi, aKj, aKk, aKl]
  have rA : roomy A4.length := aFR.roomy
  have hsm : kY A4 A4 [] := ⟨rA, rA, by unfold roomy; decide⟩
  simp only [gM.C, dV.C, aKi, aKj, aKk, aKl, memV, C17, scZ, Sc.V, Sk.V, skZ, aB, gq, reduceEq, reduceLT, reduceLE, implies_true, reduceCtorEq, if_true, if_false, go_sem, reduceEqDiff, Nat.reduceLT, reduceAdd, reduceSub, reduceLeDiff, reduceReplicate, reduceToNat]
  refine ⟨rA, rA, rA, rA, ?_⟩
  unfold bZ.L1
  refine aAu (σ := Nat) (fun k => .int .i64 k) (fun k => .int .i64 k) (fun k => [.box M16.V, .box (C17 k).V, .box scZ.V, .box scZ.V]) (fun k => 6 - k) (fun k => k ≤ 6) 0 rfl rfl (by decide) ?_
  intro I back k hk
  by_cases hk6 : k < 6
  · obtain ⟨h1, h2⟩ := aLg k hk6
    obtain ⟨h3, h4⟩ := aLh k hk
    have hb := back (k + 1) (n := 6 - k) (by omega) rfl rfl (by omega)
    clear back
    generalize C17 (k + 1) = y at *
    generalize C17 k = x at *
    obtain ⟨y1, y2, y3, y4, y5, y6, ⟨z1, z2, z3, z4, z5⟩, y7, y8⟩ := y
    obtain ⟨x1, x2, x3, x4, x5, x6, ⟨s1, s2, s3, s4, s5⟩, x7, x8⟩ := x
    simp only at h2 h3 h4
    have d1 : decide ((k : Int) < 40) = true := decide_eq_true (by omega)
    unfold M16 at h1 hb ⊢
    simp only [eS.C, h1, h2, d1, scZ, Mm.V, memV, Sc.V, Sk.V, skZ, eX (show k < 4611686018427387904 by omega), decide_false, aB, aB, gq, reduceEq, reduceLT, reduceLE, implies_true, reduceCtorEq, if_true, if_false, go_sem, reduceEqDiff, Nat.reduceLT, reduceAdd, reduceSub, reduceLeDiff, reduceReplicate, reduceToNat] at hb ⊢
    exact ⟨⟨hsm, aFR, by rw [h3]; decide, by rw [h4]; decide⟩, hb⟩
  · obtain rfl : k = 6 := by omega
    clear back
    simp only [C17, M16, scZ, Mm.V, memV, Sc.V, Sk.V, skZ, aB, aB, gq, reduceEq, reduceLT, reduceLE, implies_true, reduceCtorEq, if_true, if_false, go_sem, reduceEqDiff, Nat.reduceLT, reduceAdd, reduceSub, reduceLeDiff, reduceReplicate, reduceToNat]
    exact aJ rfl rfl
end Lam
namespace Lam
open Go
end Lam
namespace Lam
open Go
theorem aIL {w : List Int} {i : Nat} {last low : bF} {b : Int} (h : xQ w i last b = some low) : ∃ n, eO w b = some n ∧ lowO w n = some low ∧ wJ w low (plain n.slots) 0 low = true := by
  unfold xQ at h
  cases hn : eO w b with
  | none => rw [hn] at h; cases h
  | some n =>
    rw [hn] at h
    simp only at h
    cases hw : lowO w n with
    | none => rw [hw] at h; cases h
    | some lo =>
      rw [hw] at h
      simp only at h
      split at h
      rotate_left
      · cases h
      rename_i hc
      cases h
      simp only [Bool.and_eq_true] at hc
      exact ⟨n, rfl, hw, hc.2⟩
end Lam
namespace Lam
open Go
theorem aAY {w l : List Int} {i : Nat} {last : bF} (hi : i < l.length) (h : pL w (l.drop i) i last = true) : ∃ low, xQ w i last (l.getD i 0) = some low ∧ pL w (l.drop (i + 1)) (i + 1) low = true := by
  rw [aJJ l i 0 hi] at h
  simp only [pL] at h
  split at h
  · cases h
  · rename_i low hl; exact ⟨low, hl, h⟩
theorem uY {w : List Int} {i : Nat} {last : bF} {b : Int} {low : bF} (h : xQ w i last b = some low) : (eO w b).bind (lowO w) = some low ∧ ((i = 0 ∧ low = []) ∨ (0 < i ∧ ltB last low = true)) := by
  unfold xQ at h
  cases hn : eO w b with
  | none => rw [hn] at h; cases h
  | some n =>
    rw [hn] at h
    simp only at h
    cases hw : lowO w n with
    | none => rw [hw] at h; cases h
    | some lo =>
      rw [hw] at h
      simp only at h
      split at h
      rotate_left
      · cases h
      rename_i hc
      cases h
      refine ⟨hw, ?_⟩
      simp only [Bool.and_eq_true, Bool.or_eq_true, decide_eq_true_eq] at hc
      rcases hc.1 with ⟨h1, h2⟩ | ⟨h1, h2⟩
      · left
        unfold lowO at hw
        rw [if_pos h2] at hw
        cases hw
        exact ⟨h1, rfl⟩
      · exact .inr ⟨h1, h2⟩
theorem aIM {w l : List Int} (hl : xR (lG w) w = some l) : zY (lG w) w = some l ∧ pL w l 0 [] = true ∧ lG w = true := by
  unfold xR at hl
  split at hl
  · cases hl
  · rename_i l' hl'
    split at hl
    · rename_i hb; cases hl; exact ⟨hl', hb, (aGJ hl').1⟩
    · cases hl
def aEL (w : List Int) : Int → List Int → Prop
  | b, [] => b = 0
  | b, x :: r => b ≠ 0 ∧ x = b ∧ ∃ n, eO w b = some n ∧ n.level = 0 ∧ aEL w n.next r
theorem aAZ {w : List Int} : ∀ (m : Nat) (b : Int) (out l : List Int), wI w m b out = some l → ∃ r, l = out ++ r ∧ aEL w b r
  | 0, b, out, l, h => by cases h
  | m + 1, b, out, l, h => by
    simp only [wI] at h
    split at h
    · rename_i h0; cases h; exact ⟨[], by simp, h0⟩
    · rename_i h0
      cases hn : eO w b with
      | none => rw [hn] at h; cases h
      | some n =>
        rw [hn] at h
        simp only at h
        split at h
        · rename_i hc
          obtain ⟨r, hr, hl⟩ := aAZ m n.next (out ++ [b]) l h
          exact ⟨b :: r, by rw [hr]; simp, h0, rfl, n, hn, hc.1, hl⟩
        · cases h
theorem aFS {w : List Int} : ∀ {b : Int} {l : List Int}, aEL w b l → ∀ {i : Nat}, i < l.length → l.getD i 0 ≠ 0 ∧ ∃ n, eO w (l.getD i 0) = some n ∧ n.level = 0 ∧ n.next = if i + 1 < l.length then l.getD (i + 1) 0 else 0
  | b, [], _, i, hi => absurd hi (Nat.not_lt_zero _)
  | b, x :: r, h, 0, hi => by
    obtain ⟨h0, rfl, n, hn, hl, hk⟩ := h
    refine ⟨h0, n, hn, hl, ?_⟩
    cases r with
    | nil => exact hk
    | cons y r' => exact hk.2.1.symm
  | b, x :: r, h, i + 1, hi => by
    obtain ⟨h0, rfl, n, hn, hl, hk⟩ := h
    obtain ⟨q0, n', q1, q2, q3⟩ := aFS hk (i := i) (by simpa using hi)
    refine ⟨q0, n', q1, q2, ?_⟩
    rw [q3]
    by_cases hc : i + 1 < r.length
    · rw [if_pos hc, if_pos (by simp; omega)]; rfl
    · rw [if_neg hc, if_neg (by simp; omega)]
theorem aHv {w : List Int} {b : Int} {low : bF} (h : (eO w b).bind (lowO w) = some low) : lowZ w b = low := by unfold lowZ; rw [h]; rfl
theorem aHw {w l : List Int} (h : pL w l 0 [] = true) : ∀ i, i < l.length → ∃ last low, xQ w i last (l.getD i 0) = some low ∧ pL w (l.drop (i + 1)) (i + 1) low = true ∧ (i = 0 → low = []) ∧ ∀ j, j < i → ltB (lowZ w (l.getD j 0)) low = true
  | 0, hi => by
    obtain ⟨low, h1, h2⟩ := aAY (last := []) hi (by rw [List.drop_zero]; exact h)
    refine ⟨[], low, h1, h2, fun _ => ?_, fun j hj => by omega⟩
    rcases (uY h1).2 with h | h
    · exact h.2
    · omega
  | i + 1, hi => by
    obtain ⟨last, low, h1, h2, h3, h4⟩ := aHw h i (by omega)
    obtain ⟨low', q1, q2⟩ := aAY hi h2
    have hlt : ltB low low' = true := by
      rcases (uY q1).2 with h | h
      · omega
      · exact h.2
    refine ⟨low, low', q1, q2, fun h => by omega, fun j hj => ?_⟩
    by_cases e : j = i
    · rw [e, aHv (uY h1).1]; exact hlt
    · exact kA (h4 j (by omega)) hlt
theorem aBG {w l : List Int} (h : xR (lG w) w = some l) {i : Nat} (hi : i < l.length) :
    l.getD i 0 ≠ 0 ∧ ∃ n, eO w (l.getD i 0) = some n ∧ n.level = 0 ∧ n.next = (if i + 1 < l.length then l.getD (i + 1) 0 else 0) ∧ lowO w n = some (lowZ w (l.getD i 0)) ∧ wJ w (lowZ w (l.getD i 0)) (plain n.slots) 0 (lowZ w (l.getD i 0)) = true ∧
      (i = 0 → lowZ w (l.getD i 0) = []) ∧ ∀ j, j < i → ltB (lowZ w (l.getD j 0)) (lowZ w (l.getD i 0)) = true := by
  obtain ⟨h1, h2, hrd⟩ := aIM h
  have hlk : aEL w 1 l := by
    unfold zY at h1
    rw [if_pos hrd] at h1
    obtain ⟨r, hr, hl⟩ := aAZ _ _ _ _ h1
    rw [List.nil_append] at hr
    rw [hr]; exact hl
  obtain ⟨q0, n, q1, q2, q3⟩ := aFS hlk hi
  obtain ⟨last, low, g1, _, g3, g4⟩ := aHw h2 i hi
  have hlow := aHv (uY g1).1
  obtain ⟨n', r1, r2, r3⟩ := aIL g1
  rw [q1] at r1
  cases r1
  rw [hlow]
  exact ⟨q0, n, q1, q2, q3, r2, r3, g3, g4⟩
end Lam
namespace Lam
open Go Go.Proofs
end Lam
namespace Lam
open Go Go.Proofs
end Lam
namespace Lam
open Go
/-! ### A look through a leaf -/
end Lam
namespace Lam
open Go
def xV (w l : List Int) (i : Nat) : bF := lowZ w (l.getD i 0)
/-! ### The way down -/
end Lam
namespace Lam
open Go
theorem aCO {w : List Int} {low : bF} : ∀ {l : List Int} {k : Nat} {last : bF}, wJ w low l k last = true → ∀ s ∈ l, ltB (recZ w s).key low = false
  | [], _, _, _, s, hs => by cases hs
  | a :: r, k, last, h, s, hs => by
    simp only [wJ] at h
    cases hx : recO w a with
    | none => rw [hx] at h; cases h
    | some x =>
      rw [hx] at h
      simp only [Bool.and_eq_true, Bool.not_eq_true'] at h
      rcases List.mem_cons.1 hs with rfl | hs
      · have : recZ w s = x := by unfold recZ; rw [hx]; rfl
        rw [this]; exact h.1.1.2
      · exact aCO h.2 s hs
theorem aFT {α : Type} {p : α → Bool} : ∀ {L : List α} {x : α}, x ∈ L.takeWhile p → x ∈ L ∧ p x = true
  | [], x, h => by cases h
  | a :: r, x, h => by
    rw [List.takeWhile_cons] at h
    split at h
    · rename_i hp
      rcases List.mem_cons.1 h with rfl | h
      · exact ⟨by simp, hp⟩
      · have := aFT h; exact ⟨by simp [this.1], this.2⟩
    · cases h
theorem aFU {w l : List Int} (h : xR (lG w) w = some l) {i j : Nat} (hij : i ≤ j) (hj : j < l.length) {key : bF} : (ltB key (xV w l i) = true → ltB key (xV w l j) = true) := by
  intro hk
  by_cases e : i = j
  · rw [← e]; exact hk
  · obtain ⟨_, n, _, _, _, _, _, _, hlt⟩ := aBG h hj
    exact kA hk (hlt i (by omega))
/-! ### A look holds not more than a leaf's slots -/
def FewS (s : Sk) : Prop := s.refs.length ≤ 13 ∧ (s.over = false → (s.refs.length : Int) ≤ if uV s.turn = true then 12 - s.at_ else s.at_)
theorem aMj : FewS skZ := ⟨by decide, fun _ => by decide⟩
theorem aKm {w : List Int} {b : Int} {s : Sk} (h : sD w b = some s) : FewS s := by
  unfold sD at h
  split at h
  · split at h
    · cases h
    · cases h
      refine ⟨by simp, fun _ => ?_⟩
      simp only [List.length_nil]
      split <;> simp
  · cases h
theorem aLi {w : List Int} {s : Sk} (h : FewS s) : FewS (rJ w s) := by
  unfold rJ
  split
  · exact h
  · rename_i hc
    have hc : (s.over || decide (mQ w s < 0)) = false := by simpa using hc
    rw [Bool.or_eq_false_iff, decide_eq_false_iff_not] at hc
    obtain ⟨ho, hsp⟩ := hc
    obtain ⟨h1, h2⟩ := h
    have h2 := h2 ho
    have hat : 0 ≤ s.at_ ∧ s.at_ < 13 := by
      unfold mQ at hsp
      split at hsp
      · unfold oL at hsp
        split at hsp
        · rename_i hb
          simp only [Bool.and_eq_true, decide_eq_true_eq] at hb
          omega
        · omega
      · omega
    have hlen : (goOn (w.getD (mQ w s).toNat 0) s).refs.length ≤ s.refs.length + 1 := by
      unfold goOn
      simp only
      split <;> simp
    have hto : (goOn (w.getD (mQ w s).toNat 0) s).turn = s.turn := rfl
    refine ⟨?_, fun hov => ?_⟩
    · split at h2 <;> omega
    · rw [hto]
      have hov' : kQ (w.getD (mQ w s).toNat 0) s = false := hov
      have hatn : (goOn (w.getD (mQ w s).toNat 0) s).at_ = if uV s.turn = true then s.at_ - 1 else s.at_ + 1 := by
        unfold goOn
        simp only
        rw [if_neg (by rw [hov']; decide)]
        split
        · exact w64 (by omega) (by omega)
        · exact w64 (by omega) (by omega)
      rw [hatn]
      split at h2
      · rename_i hd; rw [if_pos hd, if_pos hd]; omega
      · rename_i hd; rw [if_neg hd, if_neg hd]; omega
end Lam
namespace Lam
open Go
def aEM (w : List Int) (s : Sc) : Sc :=
  if s.phase = 1 then rL w s else if s.phase = 2 then uX w s else if s.phase = 3 then wV w s else if s.phase = 4 then mE w s
  else if s.phase = 5 then { s with block := s.to_, phase := 2 } else if s.phase = 6 then { s with phase := 7 } else if s.phase = 7 then (if s.to_ = 0 then { s with phase := 8 } else { s with block := s.to_, phase := 2 }) else s
/-! ### What a scanner tells -/
def inR (lo hi : bF) (x : kZ) : Bool := !ltB x.key lo && (decide (hi = []) || ltB x.key hi)
theorem aEi {w l : List Int} (h : xR (lG w) w = some l) {i : Nat} (hi : i < l.length) {x : kZ} (hx : x ∈ ownP w (l.getD i 0)) : ltB x.key (xV w l i) = false ∧ (i + 1 < l.length → ltB x.key (xV w l (i + 1)) = true) := by
  obtain ⟨hz, n, hn, hlev, hnx, hlow, hsl, _, _⟩ := aBG h hi
  have hnz : aIF w (l.getD i 0) = n := by unfold aIF; rw [hn]; rfl
  unfold ownP ownL at hx
  rw [hnz] at hx
  obtain ⟨y, hy, rfl⟩ := List.mem_map.1 hx
  obtain ⟨hy1, hy2⟩ := aFT hy
  obtain ⟨s, hs, rfl⟩ := List.mem_map.1 hy1
  refine ⟨aCO hsl s hs, fun hc => ?_⟩
  rw [if_pos hc] at hnx
  obtain ⟨hz2, _⟩ := aBG h hc
  unfold ownB at hy2
  rw [hnx, decide_eq_false hz2, Bool.false_or] at hy2
  exact hy2
theorem ahead {w l : List Int} (h : xR (lG w) w = some l) {i : Nat} (hi : i < l.length) : ∀ {x : kZ}, x ∈ allP w (l.take i) → ltB x.key (xV w l i) = true := by
  intro x hx
  unfold allP at hx
  obtain ⟨b, hb, hxb⟩ := List.mem_flatMap.1 hx
  obtain ⟨j, hj, rfl⟩ := List.getElem_of_mem hb
  rw [List.length_take] at hj
  have e : (l.take i)[j] = l.getD j 0 := by rw [List.getElem_take, List.getD_eq_getElem?_getD, List.getElem?_eq_getElem (by omega)]; rfl
  rw [e] at hxb
  exact aFU h (show j + 1 ≤ i by omega) hi (aEi h (by omega) hxb |>.2 (by omega))
theorem behind {w l : List Int} (h : xR (lG w) w = some l) {i : Nat} : ∀ {x : kZ}, x ∈ allP w (l.drop i) → ltB x.key (xV w l i) = false := by
  intro x hx
  unfold allP at hx
  obtain ⟨b, hb, hxb⟩ := List.mem_flatMap.1 hx
  obtain ⟨j, hj, rfl⟩ := List.getElem_of_mem hb
  rw [List.length_drop] at hj
  have e : (l.drop i)[j] = l.getD (i + j) 0 := by rw [List.getElem_drop, List.getD_eq_getElem?_getD, List.getElem?_eq_getElem (by omega)]; rfl
  rw [e] at hxb
  cases hc : ltB x.key (xV w l i) with
  | false => rfl
  | true =>
    have := aFU h (show i ≤ i + j by omega) (by omega) hc
    rw [(aEi h (by omega) hxb).1] at this; cases this
end Lam
namespace Lam
open Go Go.Proofs
def cB.loops : Nat → bX
 | 1 => ⟨[], [], [], [(4, none), (7, some [10, 17])], [], []⟩
 | _ => ⟨[], [], [], [], [], []⟩
def cB.H (c : Ctx) (t0 : AV) (t1 : AV) (t2 : AV) (h : List AObj) (K : AOut → List AObj → Prop) : Prop :=
 runD (binD bS .geq t0 t1) h fun t9 h =>
 aM (fun (J1 : AV → AV → List AObj → Prop) =>
 aX t9 true
 (runD (binD bS .eql t2 (.str [])) h fun t12 h =>
 aM (fun (J2 : AV → AV → List AObj → Prop) =>
 aX t12 false
 (runD (binD bS .lss t0 t2) h fun t16 h =>
 J2 (.bool false) t16 h)
 (J2 (.bool true) .und h))
 (fun t13 t16 h => runD (bP t13 (.bool true) t16) h fun t17 h =>
 J1 (.bool true) t17 h))
 (J1 (.bool false) .und h))
 (fun t10 t17 h => runD (bP t10 t17 (.bool false)) h fun t18 h =>
 K (.ret t18) h)
theorem cB.eq (F : List (FuncId × aF)) (S : List (FuncId × Con)) (t0 t1 t2 : AV) (h : List AObj) (K : AOut → List AObj → Prop) : funW (ctx F S cB.loops) Tryz.f21 [t0, t1, t2] h K = cB.H (ctx F S cB.loops) t0 t1 t2 h K := by kernel_rfl
theorem cB.at : Tryz.prog.funcs[21]? = some Tryz.f21 := by kernel_rfl
theorem cB.nm : (Tryz.f21.name == "runtime.NumGoroutine") = false := by kernel_rfl
theorem cB.bd : Tryz.f21.body.isNone = false := by kernel_rfl
end Lam
namespace Lam
open Go Go.Proofs
def cB.C : aF
  | [.str k, .str lo, .str hi] => some (false, pD True (.bool (!ltB k lo && (decide (hi = []) || ltB k hi))))
  | _ => none
theorem cB.spec : bJ Tryz.prog 21 cB.C := by
  refine bJ.of (bU (F := []) (S := []) (by simp) (by simp) cB.loops) cB.at cB.nm cB.bd ?_
  intro vs b S v news e hS
  unfold cB.C at e
  split at e
  rotate_left
  · cases e
  cases e
  rw [cB.eq]
  unfold cB.H
  simp (maxSteps := 4000000) only [go_sem, reduceEqDiff, Nat.reduceLT, reduceAdd, reduceSub, reduceLeDiff, reduceReplicate, reduceToNat]
  rename_i k lo hi
  exact aJ rfl rfl
end Lam
namespace Lam
open Go Go.Proofs
def cA.loops : Nat → bX
 | 4 => ⟨[5], [false], [0, 1], [], [], []⟩
 | _ => ⟨[], [], [], [], [], []⟩
def cA.L1 (c : Ctx) (J1 : List AObj → Prop) (K : AOut → List AObj → Prop) (lv : List AV) (h0 : List AObj) (n0 : Nat) (c0 : AV) (c1 : AV) : Prop :=
 ∃ I : Nat → List AV → List AObj → Prop, (∃ n, I n lv h0) ∧ ∀ n h, ∀ t5, I n [t5] h →
 runD (lenD bV h c0) h fun t13 h =>
 runD (binD aA .lss t5 t13) h fun t14 h =>
 aZ t14
 (runD (aH bV h c0 t5) h fun t19 h =>
 runD (fitD iL (aD h t19)) h fun t20 h =>
 runD (aH bV h c1 t5) h fun t23 h =>
 runD (fitD iL (aD h t23)) h fun t24 h =>
 runD (binD iL .neq t20 t24) h fun t25 h =>
 aZ t25
 (K (.ret (.bool false)) h)
 (runD (binD aA .add t5 (.int .i64 1)) h fun t16 h =>
 (∃ m, m < n ∧ I m (AV.norms n0 h [t16]) (cG n0 h)) ∧ AV.norms n0 h [c0, c1] = [c0, c1]))
 (J1 h)
def cA.H (c : Ctx) (t0 : AV) (t1 : AV) (h : List AObj) (K : AOut → List AObj → Prop) : Prop :=
 runD (lenD bV h t0) h fun t7 h =>
 runD (lenD bV h t1) h fun t9 h =>
 runD (binD aA .neq t7 t9) h fun t10 h =>
 aZ t10
 (K (.ret (.bool false)) h)
 (aM (fun (J1 : List AObj → Prop) =>
 dE [false] [(.int .i64 0)] h fun lv h => cA.L1 c J1 K (AV.norms h.length h lv) (cG h.length h) h.length (AV.norm h.length h t0) (AV.norm h.length h t1))
 (fun h => K (.ret (.bool true)) h))
theorem cA.eq (F : List (FuncId × aF)) (S : List (FuncId × Con)) (t0 t1 : AV) (h : List AObj) (K : AOut → List AObj → Prop) : funW (ctx F S cA.loops) Tryz.f20 [t0, t1] h K = cA.H (ctx F S cA.loops) t0 t1 h K := by kernel_rfl
theorem cA.at : Tryz.prog.funcs[20]? = some Tryz.f20 := by kernel_rfl
theorem cA.nm : (Tryz.f20.name == "runtime.NumGoroutine") = false := by kernel_rfl
theorem cA.bd : Tryz.f20.body.isNone = false := by kernel_rfl
end Lam
namespace Lam
open Go Go.Proofs
def cA.C : aF
  | [.sl _ (.pairs a), .sl _ (.pairs b)] => some (false, pD (roomy a.length) (.bool (decide (a = b))))
  | _ => none
theorem cA.spec : bJ Tryz.prog 20 cA.C := by
  refine bJ.of (bU (F := []) (S := []) (by simp) (by simp) cA.loops) cA.at cA.nm cA.bd ?_
  intro vs b S v news e hS
  unfold cA.C at e
  split at e
  rotate_left
  · cases e
  cases e
  rw [cA.eq]
  unfold cA.H
  simp (maxSteps := 4000000) only [go_sem, reduceEqDiff, Nat.reduceLT, reduceAdd, reduceSub, reduceLeDiff, reduceReplicate, reduceToNat]
  rename_i a _ b
  unfold roomy at hS
  refine ⟨fun hne => ?_, fun heq => ?_⟩
  · have : decide (a = b) = false := by rw [decide_eq_false_iff_not]; rintro rfl; exact hne rfl
    rw [this]; exact aJ rfl rfl
  rw [aB]
  unfold cA.L1
  have hlen : a.length = b.length := by omega
  refine lD (fun k : Nat => .int .i64 k) (fun _ => []) (fun k => a.length - k) (fun k => k ≤ a.length ∧ ∀ i, i < k → a.getD i ⟨[], []⟩ = b.getD i ⟨[], []⟩) 0 rfl rfl ⟨Nat.zero_le _, fun i hi => absurd hi (Nat.not_lt_zero i)⟩ ?_
  rintro I back k ⟨hk, hall⟩
  simp only [go_sem, reduceEqDiff, Nat.reduceLT, reduceAdd, reduceSub, reduceLeDiff, reduceReplicate, reduceToNat]
  have hp : ∀ x y : kZ, (decide (x.key = y.key) && decide (x.val = y.val)) = decide (x = y) := fun x y => by
    obtain ⟨x1, x2⟩ := x
    obtain ⟨y1, y2⟩ := y
    rw [Bool.eq_iff_iff]
    simp only [Bool.and_eq_true, decide_eq_true_eq, kZ.mk.injEq]
  simp only [hp, decide_eq_true_eq, decide_eq_false_iff_not]
  refine ⟨fun hlt => ⟨by omega, by omega, fun h0 => ?_, fun h0 => ?_⟩, fun hge => ?_⟩
  · have : decide (a = b) = false := by rw [decide_eq_false_iff_not]; rintro rfl; exact h0 rfl
    rw [this]; exact aJ rfl rfl
  · refine back (k + 1) (by omega) (by rw [eX (by omega)]) rfl ⟨by omega, fun i hi => ?_⟩
    by_cases e : i = k
    · subst e; exact h0
    · exact hall i (by omega)
  · rw [decide_eq_true (aRu ⟨[], []⟩ hlen fun i hi => hall i (by omega))]; exact aJ rfl rfl
end Lam
namespace Lam
open Go Go.Proofs
end Lam
namespace Lam
open Go
structure uZ (lo hi : bF) (limit : Int) (s : Sc) : Prop where
  eqlo : s.lo = lo
  eqhi : s.hi = hi
  eqlim : s.limit = limit
  few : (s.out.length : Int) ≤ limit
  inr : ∀ x ∈ s.out, inR lo hi x = true
  rise : s.out.Pairwise fun a b => ltB a.key b.key = true
  from_ : ltB s.from_ lo = false
  ahead : (s.phase ≤ 5 ∨ s.to_ ≠ 0) → ∀ x ∈ s.out, ltB x.key s.from_ = true
theorem aGP (w : List Int) (lo hi : bF) {limit : Int} (h : 0 ≤ limit) : uZ lo hi limit (sc0 w lo hi limit) :=
  ⟨rfl, rfl, rfl, by show ((0 : Nat) : Int) ≤ limit; omega, fun x hx => absurd hx (by simp [sc0]), List.Pairwise.nil, tY _, fun _ x hx => absurd hx (by simp [sc0])⟩
theorem aIN {lo hi : bF} {limit : Int} {s : Sc} (h : uZ lo hi limit s) (hp : s.phase = 4) (w : List Int) (high : bF) (bnd : Bool) :
    (∃ t, sOut w s high bnd = s.out ++ t) ∧ ((sOut w s high bnd).length : Int) ≤ limit ∧ (∀ x ∈ sOut w s high bnd, inR lo hi x = true) ∧ (sOut w s high bnd).Pairwise (fun a b => ltB a.key b.key = true) ∧ (bnd = true → ltB s.from_ high = true → ∀ x ∈ sOut w s high bnd, ltB x.key high = true) := by
  obtain ⟨h1, h2, h3, h4, h5, h6, h7, h8⟩ := h
  have h8 := h8 (.inl (by omega))
  have hsort : (rK (iF w s.seek.refs)).Pairwise ltR := vJ (uW (w := w) (refs := s.seek.refs) (out := []) (by simp)).1
  have hmem : ∀ x ∈ ((((rK (iF w s.seek.refs)).filter (sIn s high bnd)).map jW).take (s.limit - s.out.length).toNat), inR lo hi x = true ∧ ltB x.key s.from_ = false ∧ (bnd = true → ltB x.key high = true) := by
    intro x hx
    obtain ⟨y, hy, rfl⟩ := List.mem_map.1 (List.mem_of_mem_take hx)
    have hs := (List.mem_filter.1 hy).2
    unfold sIn at hs
    rw [h1, h2] at hs
    simp only [Bool.and_eq_true, Bool.not_eq_true', Bool.or_eq_true, decide_eq_true_eq] at hs
    obtain ⟨⟨a1, a2⟩, a3⟩ := hs
    have hge : ltB y.key s.from_ = false ∧ ltB y.key lo = false := by
      cases hlf : ltB lo s.from_ with
      | true =>
        rw [hlf, if_pos rfl] at a1
        refine ⟨a1, ?_⟩
        cases e : ltB y.key lo with
        | false => rfl
        | true => have := kA e hlf; rw [a1] at this; cases this
      | false =>
        rw [hlf, if_neg (by decide)] at a1
        refine ⟨?_, a1⟩
        have : s.from_ = lo := by
          rcases wK lo s.from_ with e | e | e
          · rw [hlf] at e; cases e
          · exact e.symm
          · rw [h7] at e; cases e
        rw [this]; exact a1
    refine ⟨?_, hge.1, fun hb => ?_⟩
    · unfold inR
      show (!ltB y.key lo && (decide (hi = []) || ltB y.key hi)) = true
      rw [hge.2]
      rcases a2 with e | e
      · rw [decide_eq_true e]; rfl
      · rw [e]; simp
    · rcases a3 with e | e
      · rw [hb] at e; cases e
      · exact e
  have hpw : (((rK (iF w s.seek.refs)).filter (sIn s high bnd)).map jW).Pairwise (fun a b => ltB a.key b.key = true) := by
    rw [List.pairwise_map]
    exact hsort.filter _
  refine ⟨⟨_, rfl⟩, ?_, ?_, ?_, ?_⟩
  · unfold sOut
    rw [List.length_append, List.length_take]; omega
  · intro x hx
    unfold sOut at hx
    rcases List.mem_append.1 hx with hx | hx
    · exact h5 x hx
    · exact (hmem x hx).1
  · unfold sOut
    rw [List.pairwise_append]
    refine ⟨h6, hpw.sublist (List.take_sublist _ _), fun a ha b hb => ?_⟩
    have q1 := h8 a ha
    have q2 := (hmem b hb).2.1
    rcases wK a.key b.key with e | e | e
    · exact e
    · rw [← e, q1] at q2; cases q2
    · have := kA e q1; rw [q2] at this; cases this
  · intro hb hf x hx
    unfold sOut at hx
    rcases List.mem_append.1 hx with hx | hx
    · exact kA (h8 x hx) hf
    · exact (hmem x hx).2.2 hb
theorem aCP {lo hi : bF} {limit : Int} {s : Sc} (h : uZ lo hi limit s) (hp : s.phase = 4) (w : List Int) {high : bF} {bnd : Bool} (to : Int) (hf : bnd = true → ltB s.from_ high = true) : uZ lo hi limit (nU w s bnd high to) ∧ ∃ t, (nU w s bnd high to).out = s.out ++ t := by
  obtain ⟨t1, t2, t3, t4, t5⟩ := aIN h hp w high bnd
  obtain ⟨h1, h2, h3, h4, h5, h6, h7, h8⟩ := h
  unfold nU
  split
  · rename_i hc
    simp only [Bool.and_eq_true] at hc
    have hb := hc.1.1
    refine ⟨⟨h1, h2, h3, t2, t3, t4, ?_, fun _ => t5 hb (hf hb)⟩, t1⟩
    cases e : ltB high lo with
    | false => rfl
    | true => have := kA (hf hb) e; rw [h7] at this; cases this
  · refine ⟨⟨h1, h2, h3, t2, t3, t4, h7, fun hh => ?_⟩, t1⟩
    rcases hh with hh | hh
    · exact absurd (show (6 : Int) ≤ 5 from hh) (by decide)
    · exact absurd rfl hh
theorem aIO {lo hi : bF} {limit : Int} {s : Sc} (h : uZ lo hi limit s) (hp : 1 ≤ s.phase ∧ s.phase ≤ 8) (m : Mm) : uZ lo hi limit (kH m s).2 ∧ (1 ≤ (kH m s).2.phase ∧ (kH m s).2.phase ≤ 8) ∧ ∃ t, (kH m s).2.out = s.out ++ t := by
  have same : ∃ t, s.out = s.out ++ t := ⟨[], by rw [List.append_nil]⟩
  have hh := h
  obtain ⟨h1, h2, h3, h4, h5, h6, h7, h8⟩ := h
  unfold kH
  split
  · rename_i hc
    have h9 := h8 (.inl (by omega))
    unfold rL
    split
    · exact ⟨⟨h1, h2, h3, h4, h5, h6, h7, fun _ => h9⟩, ⟨by simp, by simp⟩, same⟩
    · split
      · exact ⟨⟨h1, h2, h3, h4, h5, h6, h7, fun _ => h9⟩, ⟨by simp, by simp⟩, same⟩
      · split
        · exact ⟨⟨h1, h2, h3, h4, h5, h6, h7, fun _ => h9⟩, ⟨by simp, by simp⟩, same⟩
        · exact ⟨⟨h1, h2, h3, h4, h5, h6, h7, fun _ => h9⟩, hp, same⟩
  split
  · have h9 := h8 (.inl (by omega))
    unfold uX
    split
    · exact ⟨⟨h1, h2, h3, h4, h5, h6, h7, fun _ => h9⟩, ⟨by simp, by simp⟩, same⟩
    · exact ⟨⟨h1, h2, h3, h4, h5, h6, h7, fun _ => h9⟩, ⟨by simp, by simp⟩, same⟩
  split
  · have h9 := h8 (.inl (by omega))
    refine ⟨⟨h1, h2, h3, h4, h5, h6, h7, fun _ => h9⟩, ?_, same⟩
    unfold wV
    simp only
    split <;> omega
  split
  · rename_i hc
    have h9 := h8 (.inl (by omega))
    unfold mE
    simp only
    split
    · exact ⟨⟨h1, h2, h3, h4, h5, h6, h7, fun _ => h9⟩, ⟨by simp, by simp⟩, same⟩
    · have hph : ∀ b x t, (nU m.vol s b x t).phase = 6 := fun b x t => by unfold nU; split <;> rfl
      split
      · obtain ⟨q1, q2⟩ := aCP hh hc m.vol (high := []) (bnd := false) 0 (fun h => by cases h)
        exact ⟨q1, by rw [hph]; exact ⟨by decide, by decide⟩, q2⟩
      · split
        · exact ⟨⟨h1, h2, h3, h4, h5, h6, h7, fun _ => h9⟩, ⟨by simp, by simp⟩, same⟩
        · rename_i hlt
          obtain ⟨q1, q2⟩ := aCP hh hc m.vol (bnd := true) _ (fun _ => by simpa using hlt)
          exact ⟨q1, by rw [hph]; exact ⟨by decide, by decide⟩, q2⟩
  split
  · have h9 := h8 (.inl (by omega))
    exact ⟨⟨h1, h2, h3, h4, h5, h6, h7, fun _ => h9⟩, ⟨by simp, by simp⟩, same⟩
  split
  · refine ⟨⟨h1, h2, h3, h4, h5, h6, h7, fun hx => h8 (.inr ?_)⟩, ⟨by simp, by simp⟩, same⟩
    rcases hx with hx | hx
    · exact absurd (show (7 : Int) ≤ 5 from hx) (by decide)
    · exact hx
  split
  · by_cases ht : s.to_ = 0
    · rw [if_pos ht]
      refine ⟨⟨h1, h2, h3, h4, h5, h6, h7, fun hx => ?_⟩, ⟨by simp, by simp⟩, same⟩
      rcases hx with hx | hx
      · exact absurd (show (8 : Int) ≤ 5 from hx) (by decide)
      · exact absurd ht hx
    · rw [if_neg ht]
      exact ⟨⟨h1, h2, h3, h4, h5, h6, h7, fun _ => h8 (.inr ht)⟩, ⟨by simp, by simp⟩, same⟩
  · exact ⟨hh, hp, same⟩
end Lam
namespace Lam
open Go
end Lam
namespace Lam
open Go
/-! ### What a scanner holds -/
def FewC (s : Sc) : Prop := FewS s.seek ∧ s.limit ≤ 100 ∧ s.out.length ≤ 100
theorem aMk (w : List Int) (lo hi : bF) {limit : Int} (h : limit ≤ 100) : FewC (sc0 w lo hi limit) := ⟨aMj, h, Nat.zero_le _⟩
theorem aFV {w : List Int} {s : Sc} (h : FewC s) (bnd : Bool) (high : bF) (to : Int) : FewC (nU w s bnd high to) := by
  obtain ⟨h1, h2, h3⟩ := h
  have ho : (sOut w s high bnd).length ≤ 100 := by
    unfold sOut
    rw [List.length_append, List.length_take]; omega
  unfold nU
  split
  · exact ⟨h1, h2, ho⟩
  · exact ⟨h1, h2, ho⟩
theorem aKn {w : List Int} {s : Sc} (h : FewC s) : FewC (aEM w s) := by
  obtain ⟨h1, h2, h3⟩ := h
  unfold aEM
  split
  · unfold rL
    split
    · exact ⟨h1, h2, h3⟩
    · split
      · exact ⟨h1, h2, h3⟩
      · split <;> exact ⟨h1, h2, h3⟩
  split
  · unfold uX
    split
    · exact ⟨h1, h2, h3⟩
    · rename_i x hx; exact ⟨aKm hx, h2, h3⟩
  split
  · exact ⟨aLi h1, h2, h3⟩
  split
  · unfold mE
    split
    · exact ⟨h1, h2, h3⟩
    · split
      · exact aFV ⟨h1, h2, h3⟩ _ _ _
      · split
        · exact ⟨h1, h2, h3⟩
        · exact aFV ⟨h1, h2, h3⟩ _ _ _
  split
  · exact ⟨h1, h2, h3⟩
  split
  · exact ⟨h1, h2, h3⟩
  split
  · split <;> exact ⟨h1, h2, h3⟩
  · exact ⟨h1, h2, h3⟩
end Lam
namespace Lam
open Go
theorem aLj {α : Type} (f : α → AV) (xs : List α) (i : Nat) {d : α} {z : AV} (h : f d = z) : (xs.map f).getD i z = f (xs.getD i d) := by
  subst h
  rw [List.getD_eq_getElem?_getD, List.getD_eq_getElem?_getD, List.getElem?_map]
  cases xs[i]? <;> rfl
theorem aHx {α : Type} (f : α → AV) (Q : α → Prop) {R : AV → Prop} (h : ∀ v, R v → ∃ a, v = f a ∧ Q a) : ∀ {l : List AV}, (∀ v ∈ l, R v) → ∃ xs : List α, l = xs.map f ∧ ∀ a ∈ xs, Q a
  | [], _ => ⟨[], rfl, fun a ha => by cases ha⟩
  | v :: r, hl => by
    obtain ⟨a, rfl, ha⟩ := h v (hl v (by simp))
    obtain ⟨xs, rfl, hx⟩ := aHx f Q h (l := r) fun u hu => hl u (by simp [hu])
    exact ⟨a :: xs, rfl, fun b hb => by
      rcases List.mem_cons.1 hb with rfl | hb
      · exact ha
      · exact hx b hb⟩
def m00 : Mm := ⟨[], [], []⟩
def encM (m : Mm) : AV := .agg [.sl false (.ints .i64 m.vol), .sl false (.ints .i64 m.per), .sl false (.pends m.pend)]
@[go_sem] theorem aUH (ms : List Mm) (i : Nat) : (ms.map encM).getD i VK.mem.zero = .agg [.sl false (.ints .i64 (ms.getD i m00).vol), .sl false (.ints .i64 (ms.getD i m00).per), .sl false (.pends (ms.getD i m00).pend)] := aLj encM ms i rfl
def wfM (m : Mm) : Prop := wfL (.ints .i64 m.vol) ∧ wfL (.ints .i64 m.per) ∧ wfL (.pends m.pend) ∧ m.vol.length ≤ maxLen ∧ m.per.length ≤ maxLen ∧ m.pend.length ≤ maxLen
theorem aMl {l : List AV} (h : wfL (.vals .mem l)) : ∃ ms : List Mm, l = ms.map encM ∧ ∀ m ∈ ms, wfM m := by
  refine aHx encM wfM (fun v hv => ?_) h
  obtain ⟨_, rfl, _, _, rfl, ⟨a, rfl, ka, wa, na⟩, _, _, rfl, ⟨b, rfl, kb, wb, nb⟩, _, _, rfl, ⟨c, rfl, kc, wc, nc⟩, rfl⟩ := hv
  obtain ⟨a, rfl⟩ := xK ka
  obtain ⟨b, rfl⟩ := xK kb
  obtain ⟨c, rfl⟩ := aGz kc
  exact ⟨⟨a, b, c⟩, rfl, wa, wb, wc, na, nb, nc⟩
end Lam
namespace Lam
open Go Go.Proofs
def cE.loops : Nat → bX
 | 2 => ⟨[], [], [], [(4, none), (3, some [23, 26]), (2, none), (3, some [28, 31]), (2, none), (3, some [33, 36]), (2, none), (3, some [38, 41])], [], []⟩
 | 5 => ⟨[12], [false], [0, 1, 2, 3, 4, 11], [], [], []⟩
 | 11 => ⟨[15], [false], [0, 1, 2, 3, 4, 11, 13, 14], [(5, none), (2, some [72, 74])], [], []⟩
 | 17 => ⟨[18], [false], [0, 1, 2, 3, 4, 11, 13, 14, 15, 17], [], [], []⟩
 | _ => ⟨[], [], [], [], [], []⟩
def cE.L1 (c : Ctx) (J5 : AV → AV → AV → AV → AV → AV → List AObj → Prop) (K : AOut → List AObj → Prop) (lv : List AV) (h0 : List AObj) (n0 : Nat) (c0 : AV) (c1 : AV) (c2 : AV) (c3 : AV) (c4 : AV) (c11 : AV) : Prop :=
 ∃ I : Nat → List AV → List AObj → Prop, (∃ n, I n lv h0) ∧ ∀ n h, ∀ t12, I n [t12] h →
 runD (lenD jG h c0) h fun t46 h =>
 runD (binD aA .lss t12 t46) h fun t47 h =>
 aZ t47
 (runD (aH jG h c0 t12) h fun t52 h =>
 runD (fitD aL (aD h t52)) h fun t53 h =>
 bB false c (.fn (.func 12) [] []) [t53] h (fun t54 h =>
 runD (unD .not t54) h fun t55 h =>
 aZ t55
 (K (.ret c11) h)
 (runD (binD aA .add t12 (.int .i64 1)) h fun t49 h =>
 (∃ m, m < n ∧ I m (AV.norms n0 h [t49]) (cG n0 h)) ∧ AV.norms n0 h [c0, c1, c2, c3, c4, c11] = [c0, c1, c2, c3, c4, c11]))
 (fun v h => K (.pan v) h))
 (J5 c0 c1 c2 c3 c4 c11 h)
def cE.L3 (c : Ctx) (J11 : AV → AV → AV → AV → AV → AV → AV → AV → AV → AV → List AObj → Prop) (K : AOut → List AObj → Prop) (lv : List AV) (h0 : List AObj) (n0 : Nat) (c0 : AV) (c1 : AV) (c2 : AV) (c3 : AV) (c4 : AV) (c11 : AV) (c13 : AV) (c14 : AV) (c15 : AV) (c17 : AV) : Prop :=
 ∃ I : Nat → List AV → List AObj → Prop, (∃ n, I n lv h0) ∧ ∀ n h, ∀ t18, I n [t18] h →
 runD (aC aG c17 8) h fun t121 h =>
 runD (fitD bV (aD h t121)) h fun t122 h =>
 runD (lenD bV h t122) h fun t123 h =>
 runD (binD aA .lss t18 t123) h fun t124 h =>
 aZ t124
 (runD (aC aG c17 8) h fun t127 h =>
 runD (fitD bV (aD h t127)) h fun t128 h =>
 runD (aH bV h t128 t18) h fun t130 h =>
 runD (aC iL t130 0) h fun t131 h =>
 runD (fitD bS (aD h t131)) h fun t132 h =>
 bB false c.noS (.fn (.func 21) [] []) [t132, c1, c2] h (fun t135 h =>
 runD (unD .not t135) h fun t136 h =>
 aM (fun (J12 : AV → AV → List AObj → Prop) =>
 aX t136 false
 (runD (binD aA .gtr t18 (.int .i64 0)) h fun t139 h =>
 aM (fun (J13 : AV → AV → List AObj → Prop) =>
 aX t139 true
 (runD (aC aG c17 8) h fun t141 h =>
 runD (fitD bV (aD h t141)) h fun t142 h =>
 runD (aH bV h t142 t18) h fun t144 h =>
 runD (aC iL t144 0) h fun t145 h =>
 runD (fitD bS (aD h t145)) h fun t146 h =>
 runD (aC aG c17 8) h fun t147 h =>
 runD (fitD bV (aD h t147)) h fun t148 h =>
 runD (binD aA .sub t18 (.int .i64 1)) h fun t150 h =>
 runD (aH bV h t148 t150) h fun t151 h =>
 runD (aC iL t151 0) h fun t152 h =>
 runD (fitD bS (aD h t152)) h fun t153 h =>
 runD (binD bS .leq t146 t153) h fun t154 h =>
 J13 (.bool true) t154 h)
 (J13 (.bool false) .und h))
 (fun t140 t154 h => runD (bP t140 t154 (.bool false)) h fun t155 h =>
 J12 (.bool false) t155 h))
 (J12 (.bool true) .und h))
 (fun t137 t155 h => runD (bP t137 (.bool true) t155) h fun t156 h =>
 aM (fun (J14 : AV → AV → List AObj → Prop) =>
 aX t156 false
 (runD (aC aG c17 5) h fun t158 h =>
 runD (fitD aA (aD h t158)) h fun t159 h =>
 runD (binD aA .neq t159 (.int .i64 0)) h fun t160 h =>
 aM (fun (J15 : AV → AV → List AObj → Prop) =>
 aX t160 true
 (runD (aC aG c17 3) h fun t162 h =>
 runD (fitD aA (aD h t162)) h fun t163 h =>
 runD (binD aA .geq t163 (.int .i64 6)) h fun t164 h =>
 J15 (.bool true) t164 h)
 (J15 (.bool false) .und h))
 (fun t161 t164 h => runD (bP t161 t164 (.bool false)) h fun t165 h =>
 aM (fun (J16 : AV → AV → List AObj → Prop) =>
 aX t165 true
 (runD (aC aG c17 8) h fun t167 h =>
 runD (fitD bV (aD h t167)) h fun t168 h =>
 runD (aH bV h t168 t18) h fun t170 h =>
 runD (aC iL t170 0) h fun t171 h =>
 runD (fitD bS (aD h t171)) h fun t172 h =>
 runD (aC aG c17 7) h fun t173 h =>
 runD (fitD bS (aD h t173)) h fun t174 h =>
 runD (binD bS .geq t172 t174) h fun t175 h =>
 J16 (.bool true) t175 h)
 (J16 (.bool false) .und h))
 (fun t166 t175 h => runD (bP t166 t175 (.bool false)) h fun t176 h =>
 J14 (.bool false) t176 h)))
 (J14 (.bool true) .und h))
 (fun t157 t176 h => runD (bP t157 (.bool true) t176) h fun t177 h =>
 aZ t177
 (K (.ret (.bool false)) h)
 (runD (binD aA .add t18 (.int .i64 1)) h fun t126 h =>
 (∃ m, m < n ∧ I m (AV.norms n0 h [t126]) (cG n0 h)) ∧ AV.norms n0 h [c0, c1, c2, c3, c4, c11, c13, c14, c15, c17] = [c0, c1, c2, c3, c4, c11, c13, c14, c15, c17]))))
 (fun _ _ => False))
 (J11 c0 c1 c2 c3 c4 c11 c13 c14 c15 c17 h)
def cE.L2 (c : Ctx) (J6 : AV → List AObj → Prop) (K : AOut → List AObj → Prop) (lv : List AV) (h0 : List AObj) (n0 : Nat) (c0 : AV) (c1 : AV) (c2 : AV) (c3 : AV) (c4 : AV) (c11 : AV) (c13 : AV) (c14 : AV) : Prop :=
 ∃ I : Nat → List AV → List AObj → Prop, (∃ n, I n lv h0) ∧ ∀ n h, ∀ t15, I n [t15] h →
 runD (lenD hH h c4) h fun t70 h =>
 runD (binD aA .lss t15 t70) h fun t71 h =>
 aM (fun (J7 : AV → AV → List AObj → Prop) =>
 aX t71 true
 (runD (binD dD .eql c14 (.int .i64 0)) h fun t74 h =>
 J7 (.bool true) t74 h)
 (J7 (.bool false) .und h))
 (fun t72 t74 h => runD (bP t72 t74 (.bool false)) h fun t75 h =>
 aZ t75
 (aM (fun (J8 : AV → AV → AV → AV → AV → AV → AV → AV → AV → List AObj → Prop) =>
 runD (aH hH h c4 t15) h fun t82 h =>
 runD (fitD kU (aD h t82)) h fun t83 h =>
 runD (iI h kU aA t83) h fun t84 h =>
 runD (lenD jG h c0) h fun t86 h =>
 runD (binD aA .rem t84 t86) h fun t87 h =>
 runD (aH jG h c0 t87) h fun t88 h =>
 runD (fitD aL (aD h t88)) h fun t89 h =>
 runD (fitD aG (aD h c13)) h fun t90 h =>
 bB false c.noS (.fn (.func 19) [] []) [t89, t90] h (fun t91 h =>
 runD (bM t91 0) h fun t92 h =>
 runD (bM t91 1) h fun t93 h =>
 cK aL h fun t16 h =>
 cK aG h fun t17 h =>
 runH (aQ aL h t16 t92) h fun _ h =>
 runH (aQ aG h t17 t93) h fun _ h =>
 runD (aC aG t17 8) h fun t94 h =>
 runD (fitD bV (aD h t94)) h fun t95 h =>
 runD (lenD bV h t95) h fun t96 h =>
 runD (aC aG c13 8) h fun t97 h =>
 runD (fitD bV (aD h t97)) h fun t98 h =>
 runD (lenD bV h t98) h fun t99 h =>
 runD (binD aA .lss t96 t99) h fun t100 h =>
 aM (fun (J9 : AV → AV → List AObj → Prop) =>
 aX t100 false
 (runD (aC aG t17 8) h fun t102 h =>
 runD (fitD bV (aD h t102)) h fun t103 h =>
 runD (lenD bV h t103) h fun t104 h =>
 runD (binD aA .gtr t104 c3) h fun t106 h =>
 J9 (.bool false) t106 h)
 (J9 (.bool true) .und h))
 (fun t101 t106 h => runD (bP t101 (.bool true) t106) h fun t107 h =>
 aM (fun (J10 : AV → AV → List AObj → Prop) =>
 aX t107 false
 (runD (aC aG t17 8) h fun t109 h =>
 runD (fitD bV (aD h t109)) h fun t110 h =>
 runD (aC aG c13 8) h fun t111 h =>
 runD (fitD bV (aD h t111)) h fun t112 h =>
 runD (lenD bV h t112) h fun t113 h =>
 runD (dO bV h t110 none (some t113) none) h fun t114 h =>
 runD (aC aG c13 8) h fun t115 h =>
 runD (fitD bV (aD h t115)) h fun t116 h =>
 bB false c.noS (.fn (.func 20) [] []) [t114, t116] h (fun t117 h =>
 runD (unD .not t117) h fun t118 h =>
 J10 (.bool false) t118 h)
 (fun _ _ => False))
 (J10 (.bool true) .und h))
 (fun t108 t118 h => runD (bP t108 (.bool true) t118) h fun t119 h =>
 aZ t119
 (K (.ret (.bool false)) h)
 (aM (fun (J11 : AV → AV → AV → AV → AV → AV → AV → AV → AV → AV → List AObj → Prop) =>
 dE [false] [(.int .i64 0)] h fun lv h => cE.L3 c J11 K (AV.norms h.length h lv) (cG h.length h) h.length (AV.norm h.length h c0) (AV.norm h.length h c1) (AV.norm h.length h c2) (AV.norm h.length h c3) (AV.norm h.length h c4) (AV.norm h.length h c11) (AV.norm h.length h c13) (AV.norm h.length h c14) (AV.norm h.length h t15) (AV.norm h.length h t17))
 (fun t0 t1 t2 t3 t4 t11 t13 t14 t15 t17 h => runD (fitD aG (aD h t17)) h fun t178 h =>
 runH (aQ aG h t13 t178) h fun _ h =>
 J8 t0 t1 t2 t3 t4 t11 t13 t14 t15 h)))))
 (fun _ _ => False))
 (fun t0 t1 t2 t3 t4 t11 t13 t14 t15 h => runD (binD aA .add t15 (.int .i64 1)) h fun t77 h =>
 (∃ m, m < n ∧ I m (AV.norms n0 h [t77]) (cG n0 h)) ∧ AV.norms n0 h [t0, t1, t2, t3, t4, t11, t13, t14] = [c0, c1, c2, c3, c4, c11, c13, c14]))
 (J6 c11 h))
def cE.H (c : Ctx) (t0 : AV) (t1 : AV) (t2 : AV) (t3 : AV) (t4 : AV) (h : List AObj) (K : AOut → List AObj → Prop) : Prop :=
 bB false c (.fn (.func 17) [] []) [] h (fun t19 h =>
 runD (lenD jG h t0) h fun t21 h =>
 runD (binD aA .eql t21 (.int .i64 0)) h fun t22 h =>
 aM (fun (J1 : AV → AV → List AObj → Prop) =>
 aX t22 false
 (runD (lenD jG h t0) h fun t25 h =>
 runD (binD aA .gtr t25 (.int .i64 20)) h fun t26 h =>
 J1 (.bool false) t26 h)
 (J1 (.bool true) .und h))
 (fun t23 t26 h => runD (bP t23 (.bool true) t26) h fun t27 h =>
 aM (fun (J2 : AV → AV → List AObj → Prop) =>
 aX t27 false
 (runD (lenD bS h t1) h fun t30 h =>
 runD (binD aA .gtr t30 (.int .i64 100)) h fun t31 h =>
 J2 (.bool false) t31 h)
 (J2 (.bool true) .und h))
 (fun t28 t31 h => runD (bP t28 (.bool true) t31) h fun t32 h =>
 aM (fun (J3 : AV → AV → List AObj → Prop) =>
 aX t32 false
 (runD (lenD bS h t2) h fun t35 h =>
 runD (binD aA .gtr t35 (.int .i64 100)) h fun t36 h =>
 J3 (.bool false) t36 h)
 (J3 (.bool true) .und h))
 (fun t33 t36 h => runD (bP t33 (.bool true) t36) h fun t37 h =>
 aM (fun (J4 : AV → AV → List AObj → Prop) =>
 aX t37 false
 (runD (lenD hH h t4) h fun t40 h =>
 runD (binD aA .gtr t40 (.int .i64 300)) h fun t41 h =>
 J4 (.bool false) t41 h)
 (J4 (.bool true) .und h))
 (fun t38 t41 h => runD (bP t38 (.bool true) t41) h fun t42 h =>
 aZ t42
 (K (.ret t19) h)
 (aM (fun (J5 : AV → AV → AV → AV → AV → AV → List AObj → Prop) =>
 dE [false] [(.int .i64 0)] h fun lv h => cE.L1 c J5 K (AV.norms h.length h lv) (cG h.length h) h.length (AV.norm h.length h t0) (AV.norm h.length h t1) (AV.norm h.length h t2) (AV.norm h.length h t3) (AV.norm h.length h t4) (AV.norm h.length h t19))
 (fun t0 t1 t2 t3 t4 t11 h => runD (aH jG h t0 (.int .i64 0)) h fun t59 h =>
 runD (aC aL t59 0) h fun t60 h =>
 runD (fitD aP (aD h t60)) h fun t61 h =>
 bB false c (.fn (.func 18) [] []) [t61, t1, t2, t3] h (fun t65 h =>
 runD (bM t65 0) h fun t66 h =>
 runD (bM t65 1) h fun t67 h =>
 cK aG h fun t13 h =>
 runH (aQ aG h t13 t66) h fun _ h =>
 aM (fun (J6 : AV → List AObj → Prop) =>
 dE [false] [(.int .i64 0)] h fun lv h => cE.L2 c J6 K (AV.norms h.length h lv) (cG h.length h) h.length (AV.norm h.length h t0) (AV.norm h.length h t1) (AV.norm h.length h t2) (AV.norm h.length h t3) (AV.norm h.length h t4) (AV.norm h.length h t11) (AV.norm h.length h t13) (AV.norm h.length h t67))
 (fun t11 h => K (.ret t11) h))
 (fun v h => K (.pan v) h))))))))
 (fun v h => K (.pan v) h)
theorem cE.eq (F : List (FuncId × aF)) (S : List (FuncId × Con)) (t0 t1 t2 t3 t4 : AV) (h : List AObj) (K : AOut → List AObj → Prop) : funW (ctx F S cE.loops) Tryz.f4 [t0, t1, t2, t3, t4] h K = cE.H (ctx F S cE.loops) t0 t1 t2 t3 t4 h K := by kernel_rfl
end Lam
namespace Lam
open Go Go.Proofs
theorem aIP (m : Mm) (s : Sc) : (kH m s).2 = aEM m.vol s := by
  unfold kH aEM
  split
  · rfl
  split
  · rfl
  split
  · rfl
  split
  · rfl
  split
  · rfl
  split
  · rfl
  split
  · rfl
  · rfl
def aFW (m : Mm) : Prop := m.vol.length ≤ 1000 ∧ m.per.length ≤ 1000 ∧ m.pend.length ≤ 100
theorem aLk {m : Mm} (h : (decide (m.vol.length ≤ 1000) && decide (m.per.length ≤ 1000) && decide (m.pend.length ≤ 100)) = true) : aFW m := by
  simp only [Bool.and_eq_true, decide_eq_true_eq] at h
  exact ⟨h.1.1, h.1.2, h.2⟩
abbrev oZ : Ctx := ctx [(17, bZ.C), (12, cD.C), (18, dV.C), (19, eS.C), (20, cA.C), (21, cB.C)] [] cE.loops
set_option maxHeartbeats 1000000 in
theorem aFX (l : List Mm) (lo : bF) (hi : bF) (limit : Int) (picks : List Int) (w_l : ∀ x ∈ l, wfM x) (n_l : l.length ≤ maxLen) (w_limit : (Lit.int .i64 limit).wf = true) (w_picks : wfL (.ints .u8 picks)) (n_picks : picks.length ≤ maxLen) : cE.H oZ (.sl false (.vals .mem (l.map encM))) (.str lo) (.str hi) (.int .i64 limit) (.sl false (.ints .u8 picks)) [] Told := by
  unfold cE.H
  simp (maxSteps := 4000000) only [go_sem, reduceEqDiff, Nat.reduceLT, reduceAdd, reduceSub, reduceLeDiff, reduceReplicate, reduceToNat, bZ.C, cD.C, dV.C, eS.C, cA.C, cB.C]
  refine ⟨fun _ => rfl, fun hg => ?_⟩
  simp only [Bool.or_eq_false_iff, decide_eq_false_iff_not, List.length_map] at hg
  obtain ⟨⟨⟨⟨g0, g1⟩, g2⟩, g3⟩, g4⟩ := hg
  have hl0 : 0 < l.length := by omega
  have hl20 : l.length ≤ 20 := by omega
  rw [aB]
  unfold cE.L1
  refine lD (fun k : Nat => .int .i64 (k : Int)) (fun _ => []) (fun k => l.length - k) (fun k => k ≤ l.length ∧ ∀ m ∈ l.take k, aFW m) 0 rfl rfl ⟨Nat.zero_le _, by simp⟩ ?_
  rintro I back k ⟨hk, hm⟩
  simp only [cD.C, List.length_map, go_sem, reduceEqDiff, Nat.reduceLT, reduceAdd, reduceSub, reduceLeDiff, reduceReplicate, reduceToNat]
  refine ⟨fun hlt => ⟨⟨by omega, by omega⟩, fun _ => rfl, fun hs => ?_⟩, fun hge => ?_⟩
  · refine back (k + 1) (by omega) (by rw [eX (by omega)]) rfl ⟨by omega, fun m hm' => ?_⟩
    rw [iC l k m00 (by omega)] at hm'
    rcases List.mem_append.1 hm' with h | h
    · exact hm m h
    · rw [List.mem_singleton.1 h]; exact aLk hs
  have hall : ∀ m ∈ l, aFW m := by
    rw [List.take_of_length_le (by omega)] at hm; exact hm
  clear back hm
  have hw : ∀ i, i < l.length → kY (l.getD i m00).vol (l.getD i m00).per (l.getD i m00).pend ∧ (l.getD i m00).pend.length + 1 ≤ 1000000 ∧ jO (l.getD i m00).vol := fun i hi => by
    have hmem := kX l i m00 hi
    obtain ⟨h1, h2, h3⟩ := hall _ hmem
    exact ⟨⟨by unfold roomy; omega, by unfold roomy; omega, by unfold roomy; omega⟩, by omega, ⟨by omega, aMe (w_l _ hmem).1⟩⟩
  have hr0 : roomy (l.getD 0 m00).vol.length := (hw 0 hl0).1.1
  obtain ⟨s, e, hbg, hs⟩ : ∃ s e, jV (l.getD 0 m00).vol lo hi limit = .tup [s.V, .int .i64 e] ∧ (e = 0 → uZ lo hi limit s ∧ FewC s ∧ 1 ≤ s.phase ∧ s.phase ≤ 8) := by
    unfold jV
    split
    · exact ⟨scZ, 20, rfl, fun h => by cases h⟩
    split
    · exact ⟨scZ, 1, rfl, fun h => by cases h⟩
    · exact ⟨_, 0, rfl, fun _ => ⟨aGP _ _ _ (by omega), aMk _ _ _ (by omega), by show (1 : Int) ≤ 1; omega, by show (1 : Int) ≤ 8; omega⟩⟩
  simp only [dV.C, hbg, Sc.V, Sk.V, aB, aB, gq, reduceEq, reduceLT, reduceLE, implies_true, reduceCtorEq, if_true, if_false, go_sem, reduceEqDiff, Nat.reduceLT, reduceAdd, reduceSub, reduceLeDiff, reduceReplicate, reduceToNat]
  refine ⟨by omega, hr0, ?_⟩
  unfold cE.L2
  refine lD (fun x : Nat × Sc => .int .i64 (x.1 : Int)) (fun x => [.box x.2.V]) (fun x => picks.length - x.1) (fun x => x.1 ≤ picks.length ∧ (e = 0 → uZ lo hi limit x.2 ∧ FewC x.2 ∧ 1 ≤ x.2.phase ∧ x.2.phase ≤ 8)) (0, s) rfl rfl ⟨Nat.zero_le _, hs⟩ ?_
  rintro I back ⟨k, s⟩ ⟨hk, hs⟩
  simp only at hk hs back ⊢
  by_cases hend : k < picks.length ∧ e = 0
  rotate_left
  · by_cases h1 : k < picks.length
    · have he : ¬ e = 0 := fun h => hend ⟨h1, h⟩
      have d0 : decide ((k : Int) < (picks.length : Int)) = true := decide_eq_true (by omega)
      have d1 : decide (e = 0) = false := decide_eq_false he
      simp only [Sc.V, Sk.V, d0, d1, he, aB, gq, reduceEq, reduceLT, reduceLE, implies_true, reduceCtorEq, if_true, if_false, go_sem, reduceEqDiff, Nat.reduceLT, reduceAdd, reduceSub, reduceLeDiff, reduceReplicate, reduceToNat]
      first | exact rfl | exact ⟨fun h => absurd h he, fun _ => rfl⟩ | exact fun _ => rfl
    · have d0 : decide ((k : Int) < (picks.length : Int)) = false := decide_eq_false (by omega)
      simp only [Sc.V, Sk.V, d0, aB, gq, reduceEq, reduceLT, reduceLE, implies_true, reduceCtorEq, if_true, if_false, go_sem, reduceEqDiff, Nat.reduceLT, reduceAdd, reduceSub, reduceLeDiff, reduceReplicate, reduceToNat]
      exact rfl
  obtain ⟨hkl, rfl⟩ := hend
  obtain ⟨hR, hF, hp1, hp8⟩ := hs rfl
  have d1 : decide ((k : Int) < (picks.length : Int)) = true := decide_eq_true (by omega)
  obtain ⟨i, hil, hidx⟩ : ∃ i : Nat, i < l.length ∧ (IntKind.i64.wrap (picks.getD k 0)).tmod (l.length : Int) = (i : Int) := by
    have hu := aRr (w_picks _ (kX picks k 0 hkl))
    rw [w64 (by omega) (by omega), Int.tmod_eq_emod_of_nonneg hu.1]
    have h1 := Int.emod_nonneg (picks.getD k 0) (b := (l.length : Int)) (by omega)
    have h2 := Int.emod_lt_of_pos (picks.getD k 0) (b := (l.length : Int)) (by omega)
    exact ⟨(picks.getD k 0 % (l.length : Int)).toNat, by omega, by omega⟩
  have hmi := hw i hil
  obtain ⟨vol, per, pend, hme⟩ : ∃ vol per pend, l.getD i m00 = ⟨vol, per, pend⟩ := ⟨_, _, _, rfl⟩
  rw [hme] at hmi
  obtain ⟨m', x, hx⟩ : ∃ m' x, kH ⟨vol, per, pend⟩ s = (m', x) := ⟨_, _, rfl⟩
  have hst := aIO hR ⟨hp1, hp8⟩ ⟨vol, per, pend⟩
  have hfx : FewC x := by
    have := aKn (w := vol) hF
    rw [← aIP ⟨vol, per, pend⟩ s, hx] at this; exact this
  rw [hx] at hst
  obtain ⟨hRx, ⟨hx1, hx8⟩, t, hout⟩ := hst
  simp only at hRx hx1 hx8 hout
  have hpend : pend.length + 1 ≤ 1000000 := hmi.2.1
  have hsr : s.seek.refs.length ≤ 200 := Nat.le_trans hF.1.1 (by decide)
  have hso : s.out.length ≤ 1000 := Nat.le_trans hF.2.2 (by decide)
  have hlen : s.out.length ≤ x.out.length := by rw [hout, List.length_append]; omega
  have hlim : (x.out.length : Int) ≤ limit := hRx.few
  have d2 : decide ((x.out.length : Int) < (s.out.length : Int)) = false := decide_eq_false (by omega)
  have d3 : decide (limit < (x.out.length : Int)) = false := decide_eq_false (by omega)
  have htk : x.out.take s.out.length = s.out := by rw [hout, List.take_left]
  have hro : roomy s.out.length := by unfold roomy; omega
  have hbx := fun n lv h => back (n := n) (lv := lv) (h := h) (k + 1, x)
  obtain ⟨slo, shi, slim, sph, sbl, sto, ⟨sb, st, sa, sr, so⟩, sfr, sout⟩ := s
  simp only at hsr hso hlen d2 htk hro
  simp only [eS.C, cA.C, Sc.V, Sk.V, d1, d2, d3, htk, hidx, Int.toNat_natCast, hme, hx, List.length_map, aB, gq, reduceEq, reduceLT, reduceLE, implies_true, reduceCtorEq, if_true, if_false, go_sem, reduceEqDiff, Nat.reduceLT, reduceAdd, reduceSub, reduceLeDiff, reduceReplicate, reduceToNat]
  refine ⟨⟨by omega, by omega⟩, by omega, ⟨by omega, by omega⟩, ⟨hmi.1, by omega, hmi.2.2, hsr, hso⟩, ⟨by omega, by omega⟩, hro, ?_⟩
  unfold cE.L3
  refine lD (fun j : Nat => .int .i64 (j : Int)) (fun _ => [.box (Sc.V ⟨slo, shi, slim, sph, sbl, sto, ⟨sb, st, sa, sr, so⟩, sfr, sout⟩), .box m'.V, .box x.V]) (fun j => x.out.length - j) (fun j => j ≤ x.out.length) 0 rfl rfl (Nat.zero_le _) ?_
  rintro I3 back3 j hj
  by_cases hjl : j < x.out.length
  rotate_left
  · have d4 : decide ((j : Int) < (x.out.length : Int)) = false := decide_eq_false (by omega)
    simp only [Sc.V, Sk.V, Mm.V, memV, d4, aB, gq, reduceEq, reduceLT, reduceLE, implies_true, reduceCtorEq, if_true, if_false, go_sem, reduceEqDiff, Nat.reduceLT, reduceAdd, reduceSub, reduceLeDiff, reduceReplicate, reduceToNat]
    exact hbx _ _ _ (by simp only; omega) (by simp only [eX (show k < 4611686018427387904 by omega)]) rfl ⟨by simp only; omega, fun _ => ⟨hRx, hfx, hx1, hx8⟩⟩
  have d4 : decide ((j : Int) < (x.out.length : Int)) = true := decide_eq_true (by omega)
  have hmem := kX x.out j ⟨[], []⟩ hjl
  have hin := hRx.inr _ hmem
  unfold inR at hin
  have hah : (x.phase ≤ 5 ∨ x.to_ ≠ 0) → ltB (x.out.getD j ⟨[], []⟩).key x.from_ = true := fun h => hRx.ahead h _ hmem
  have hb3 := fun n lv h => back3 (n := n) (lv := lv) (h := h) (j + 1)
  have hx100 : x.out.length ≤ 100 := hfx.2.2
  have hbd : 0 ≤ (j : Int) ∧ (j : Int) < (x.out.length : Int) := ⟨by omega, by omega⟩
  have hpw : 0 < j → IntKind.i64.wrap ((j : Int) - 1) = ((j - 1 : Nat) : Int) ∧ ltB (x.out.getD (j - 1) ⟨[], []⟩).key (x.out.getD j ⟨[], []⟩).key = true := fun h0 => by
    refine ⟨by rw [w64 (by omega) (by omega)]; omega, ?_⟩
    have := List.pairwise_iff_getElem.1 hRx.rise (j - 1) j (by omega) hjl (by omega)
    rw [List.getD_eq_getElem?_getD, List.getD_eq_getElem?_getD, List.getElem?_eq_getElem hjl, List.getElem?_eq_getElem (show j - 1 < x.out.length by omega)]
    exact this
  by_cases h0 : 0 < j
  · obtain ⟨p1, p2⟩ := hpw h0
    have d5 : decide ((0 : Int) < (j : Int)) = true := decide_eq_true (by omega)
    have hbd' : 0 ≤ ((j - 1 : Nat) : Int) ∧ ((j - 1 : Nat) : Int) < (x.out.length : Int) := ⟨by omega, by omega⟩
    by_cases ht : x.to_ = 0
    · have d6 : decide (x.to_ = 0) = true := decide_eq_true ht
      simp only [cB.C, Sc.V, Sk.V, Mm.V, memV, d4, d5, d6, p1, p2, hin, Int.toNat_natCast, aB, gq, reduceEq, reduceLT, reduceLE, implies_true, reduceCtorEq, if_true, if_false, go_sem, reduceEqDiff, Nat.reduceLT, reduceAdd, reduceSub, reduceLeDiff, reduceReplicate, reduceToNat]
      exact ⟨hbd, hbd, hbd', hb3 _ _ _ (by omega) (by rw [eX (by omega)]) rfl (by omega)⟩
    · have d6 : decide (x.to_ = 0) = false := decide_eq_false ht
      have hlt := hah (.inr ht)
      cases d7 : decide (6 ≤ x.phase) with
      | false =>
        simp only [cB.C, Sc.V, Sk.V, Mm.V, memV, d4, d5, d6, d7, p1, p2, hin, Int.toNat_natCast, aB, gq, reduceEq, reduceLT, reduceLE, implies_true, reduceCtorEq, if_true, if_false, go_sem, reduceEqDiff, Nat.reduceLT, reduceAdd, reduceSub, reduceLeDiff, reduceReplicate, reduceToNat]
        exact ⟨hbd, hbd, hbd', hb3 _ _ _ (by omega) (by rw [eX (by omega)]) rfl (by omega)⟩
      | true =>
        simp only [cB.C, Sc.V, Sk.V, Mm.V, memV, d4, d5, d6, d7, hlt, p1, p2, hin, Int.toNat_natCast, aB, gq, reduceEq, reduceLT, reduceLE, implies_true, reduceCtorEq, if_true, if_false, go_sem, reduceEqDiff, Nat.reduceLT, reduceAdd, reduceSub, reduceLeDiff, reduceReplicate, reduceToNat]
        exact ⟨hbd, hbd, hbd', hbd, hb3 _ _ _ (by omega) (by rw [eX (by omega)]) rfl (by omega)⟩
  · have d5 : decide ((0 : Int) < (j : Int)) = false := decide_eq_false (by omega)
    by_cases ht : x.to_ = 0
    · have d6 : decide (x.to_ = 0) = true := decide_eq_true ht
      simp only [cB.C, Sc.V, Sk.V, Mm.V, memV, d4, d5, d6, hin, Int.toNat_natCast, aB, gq, reduceEq, reduceLT, reduceLE, implies_true, reduceCtorEq, if_true, if_false, go_sem, reduceEqDiff, Nat.reduceLT, reduceAdd, reduceSub, reduceLeDiff, reduceReplicate, reduceToNat]
      exact ⟨hbd, hb3 _ _ _ (by omega) (by rw [eX (by omega)]) rfl (by omega)⟩
    · have d6 : decide (x.to_ = 0) = false := decide_eq_false ht
      have hlt := hah (.inr ht)
      cases d7 : decide (6 ≤ x.phase) with
      | false =>
        simp only [cB.C, Sc.V, Sk.V, Mm.V, memV, d4, d5, d6, d7, hin, Int.toNat_natCast, aB, gq, reduceEq, reduceLT, reduceLE, implies_true, reduceCtorEq, if_true, if_false, go_sem, reduceEqDiff, Nat.reduceLT, reduceAdd, reduceSub, reduceLeDiff, reduceReplicate, reduceToNat]
        exact ⟨hbd, hb3 _ _ _ (by omega) (by rw [eX (by omega)]) rfl (by omega)⟩
      | true =>
        simp only [cB.C, Sc.V, Sk.V, Mm.V, memV, d4, d5, d6, d7, hlt, hin, Int.toNat_natCast, aB, gq, reduceEq, reduceLT, reduceLE, implies_true, reduceCtorEq, if_true, if_false, go_sem, reduceEqDiff, Nat.reduceLT, reduceAdd, reduceSub, reduceLeDiff, reduceReplicate, reduceToNat]
        exact ⟨hbd, hbd, hb3 _ _ _ (by omega) (by rw [eX (by omega)]) rfl (by omega)⟩
theorem ScanRises_ok : Ok Tryz.prog oZ := bU (by simpa using ⟨bZ.spec, cD.spec, dV.spec, eS.spec, cA.spec, cB.spec⟩) (by simp) _
theorem ScanRises_law (l : Lst) (lo : bF) (hi : bF) (limit : Int) (picks : Lst) (k_l : l.kind = .val .mem) (w_l : wfL l) (n_l : l.len ≤ maxLen) (w_limit : (Lit.int .i64 limit).wf = true) (k_picks : picks.kind = (.int .u8)) (w_picks : wfL picks) (n_picks : picks.len ≤ maxLen) : funW oZ Tryz.f4 [(.sl false l), (.str lo), (.str hi), (.int .i64 limit), (.sl false picks)] [] Told := by
  obtain ⟨l, rfl⟩ := aIb k_l
  obtain ⟨l, rfl, w2_l⟩ := aMl w_l
  clear w_l
  have w_l := w2_l
  have n_l : l.length ≤ maxLen := by simpa only [Lst.len, List.length_map] using n_l
  obtain ⟨picks, rfl⟩ := xK k_picks
  rw [oZ, cE.eq]
  exact aFX l lo hi limit picks w_l n_l w_limit w_picks n_picks
end Lam
