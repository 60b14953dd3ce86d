/- What functions of the program come to, each proved from its code. -/
import Derived.Test.YtmbmfnmjjelmkabGreatLm5
set_option linter.unusedVariables false
set_option linter.unusedSimpArgs false
set_option linter.unnecessarySimpa false
set_option linter.unusedSectionVars false
open Nat (reduceEqDiff reduceAdd reduceSub reduceLeDiff)
open Int (reduceToNat reduceEq reduceLE reduceLT)
open List (reduceReplicate)
set_option maxRecDepth 20000
namespace Lam
open Go Go.Proofs
def cmpI (a b : aY) : Int := if ltB a b = true then -1 else if ltB b a = true then 1 else 0
theorem jI {a b : aY} : (cmpI a b < 0) ↔ ltB a b = true := by
 unfold cmpI
 split
 · rename_i h; simp [h]
 · rename_i h
   split
   · simp [h]
   · simp [h]
def dI.C : aE
 | [.str _] => some (false, pD True (.bool false))
 | _ => none
theorem dI.spec : bI Tryz.prog 121 dI.C := by
 refine bI.of (bR (F := []) (S := []) (by simp) (by simp) dI.loops) dI.at dI.nm dI.bd ?_
 intro vs b S v news e hS
 unfold dI.C at e
 split at e
 rotate_left
 · cases e
 cases e
 rw [dI.eq]
 unfold dI.H
 simp (maxSteps := 4000000) only [go_sem, reduceEqDiff, Nat.reduceLT, reduceAdd, reduceSub, reduceLeDiff, reduceReplicate, reduceToNat]
 exact aG rfl rfl
def cW.C : aE
 | [.str a, .str b] => some (false, pD True (.int .i64 (cmpI a b)))
 | _ => none
theorem cW.spec : bI Tryz.prog 110 cW.C := by
 refine bI.of (bR (F := [(121, dI.C)]) (S := []) (by simpa using dI.spec) (by simp) cW.loops) cW.at cW.nm cW.bd ?_
 intro vs b S v news e hS
 unfold cW.C at e
 split at e
 rotate_left
 · cases e
 cases e
 rw [cW.eq]
 unfold cW.H
 simp (maxSteps := 4000000) only [go_sem, reduceEqDiff, Nat.reduceLT, reduceAdd, reduceSub, reduceLeDiff, reduceReplicate, reduceToNat, dI.C]
 rename_i a b
 unfold cmpI
 refine ⟨fun h => ?_, fun h => ⟨fun h2 => ?_, fun h2 => ?_⟩⟩
 · rw [h]; exact aG rfl rfl
 · rw [h, h2]; exact aG rfl rfl
 · rw [h, h2]; exact aG rfl rfl
def bY.C : aE
 | [.agg [.int .i64 a, .str b, .str c, .int .i64 d], .agg [.int .i64 e, .str f, .str g, .int .i64 i]] => some (false, pD True (.int .i64 (cmpI b f)))
 | _ => none
theorem bY.spec : bI Tryz.prog 109 bY.C := by
 refine bI.of (bR (F := [(110, cW.C)]) (S := []) (by simpa using cW.spec) (by simp) bY.loops) bY.at bY.nm bY.bd ?_
 intro vs b S v news e hS
 unfold bY.C at e
 split at e
 rotate_left
 · cases e
 cases e
 rw [bY.eq]
 unfold bY.H
 simp (maxSteps := 4000000) only [go_sem, reduceEqDiff, Nat.reduceLT, reduceAdd, reduceSub, reduceLeDiff, reduceReplicate, reduceToNat, cW.C]
 exact aG rfl rfl
structure SkT where
 block : Int
 turn : Int
 at_ : Int
 refs : List Int
 over : Bool
def SkT.V (s : SkT) : AV := .agg [.int .i64 s.block, .int .i64 s.turn, .int .i64 s.at_, .sl false (.ints .i64 s.refs), .bool s.over]
theorem SkT.norm (s : SkT) (n : Nat) (h : List AObj) : AV.norm n h s.V = s.V := by simp only [SkT.V, go_sem, reduceEqDiff, Nat.reduceLT, reduceAdd, reduceSub, reduceLeDiff, reduceReplicate, reduceToNat]
def hpS (A : SkT) (m : aY → Bool) (v : Nat) (l : List RecT) (T : List AObj) : List AObj := .box A.V :: .map (.sb m) :: .row .own v (.recs l) :: T
def OkT (T : List AObj) : Prop := ∀ k h, T.map (rJ k h) = T
theorem OkT.nil : OkT [] := fun _ _ => rfl
theorem OkT.snoc {T : List AObj} (h : OkT T) (k : IntKind) (n : Int) : OkT (T ++ [.box (.int k n)]) := fun i g => by
 rw [List.map_append, h i g]; rfl
theorem qW (T : List AObj) (y : AObj) : (T ++ [y])[T.length]? = some y := by simp
theorem zI : ∀ (T : List AObj) (y z : AObj), (T ++ [y]).set T.length z = T ++ [z]
 | [], _, _ => rfl
 | a :: T, y, z => congrArg (a :: ·) (zI T y z)
abbrev hitF : AV := .fn (.func 109) [] []
theorem iU : (⟨0, [], [], 0⟩ : RecT) = d0 := rfl
theorem jR (l : List RecT) (i : Nat) : (⟨(l.getD i d0).kind, kyL l i, (l.getD i d0).val, (l.getD i d0).child⟩ : RecT) = l.getD i d0 := rfl
theorem iR (l : List RecT) (i : Nat) : (l.getD i d0).key = kyL l i := rfl
theorem iN (l : List RecT) (i j : Nat) : (l.set i (l.getD j d0)).set j (l.getD i d0) = gS l i j := rfl
def bS.K : Con := fun args h K => match args with
 | [a0, a1, a2, a3, a4] => bS.H (ctx [(109, bY.C)] [] bS.loops) a0 a1 a2 a3 a4 h K
 | _ => False
theorem bS.spec : dH Tryz.prog 151 bS.K := by
 refine dH.of (bR (F := [(109, bY.C)]) (S := []) (by simpa using bY.spec) (by simp) bS.loops) bS.at bS.nm bS.bd ?_
 intro args h K hC
 unfold bS.K at hC
 split at hC
 · rw [bS.eq]; exact hC
 · exact hC.elim
theorem aCr (A : SkT) (m : aY → Bool) (v : Nat) (l : List RecT) (T : List AObj) (hT : OkT T) (s : Nat) (n a b : Nat) (hs : s < 100000) (hn : n = l.length) (ha : a < n) (hb : b < n) (hr : roomy n) (K : AOut → List AObj → Prop)
   (hK : ∀ (a' b' : Nat) (s' : Nat), a' < n → b' < n → (s' = s ∨ s' = s + 1) → (a' = a ∨ a' = b) → (b' = a ∨ b' = b) → K (.ret (.tup [.int .i64 a', .int .i64 b'])) (hpS A m v l (T ++ [.box (.int .i64 (s' : Int))]))) :
   bS.K [.sref false 2 v 0 n, .int .i64 a, .int .i64 b, .ptr (T.length + 1 + 1 + 1) [], hitF] (hpS A m v l (T ++ [.box (.int .i64 (s : Int))])) K := by
 unfold bS.K bS.H hpS
 simp only [qW, zI, List.map_cons, List.map_nil, bY.C, iU, iR, jI, aA, gq, reduceEq, reduceLT, reduceLE, implies_true, reduceCtorEq, if_true, if_false, go_sem, reduceEqDiff, Nat.reduceLT, reduceAdd, reduceSub, reduceLeDiff, reduceReplicate, reduceToNat]
 refine ⟨⟨by omega, by omega⟩, by omega, ⟨by omega, by omega⟩, by omega, fun h => ?_, fun h => ?_⟩
 · rw [eH (by omega)]
   exact hK b a (s + 1) hb ha (.inr rfl) (.inr rfl) (.inl rfl)
 · exact hK a b s ha hb (.inl rfl) (.inl rfl) (.inr rfl)
def bM.K : Con := fun args h K => match args with
 | [a0, a1, a2, a3, a4, a5] => bM.H (ctx [(109, bY.C)] [(151, bS.K)] bM.loops) a0 a1 a2 a3 a4 a5 h K
 | _ => False
theorem bM.spec : dH Tryz.prog 146 bM.K := by
 refine dH.of (bR (F := [(109, bY.C)]) (S := [(151, bS.K)]) (by simpa using bY.spec) (by simpa using bS.spec) bM.loops) bM.at bM.nm bM.bd ?_
 intro args h K hC
 unfold bM.K at hC
 split at hC
 · rw [bM.eq]; exact hC
 · exact hC.elim
theorem aCs (A : SkT) (m : aY → Bool) (v : Nat) (l : List RecT) (T : List AObj) (hT : OkT T) (s : Nat) (n a b d : Nat) (hs : s < 90000) (hn : n = l.length) (ha : a < n) (hb : b < n) (hd : d < n) (hr : roomy n) (K : AOut → List AObj → Prop)
   (hK : ∀ (a' : Nat) (s' : Nat), (a' = a ∨ a' = b ∨ a' = d) → s' ≤ s + 3 → K (.ret (.int .i64 a')) (hpS A m v l (T ++ [.box (.int .i64 (s' : Int))]))) :
   bM.K [.sref false 2 v 0 n, .int .i64 a, .int .i64 b, .int .i64 d, .ptr (T.length + 1 + 1 + 1) [], hitF] (hpS A m v l (T ++ [.box (.int .i64 (s : Int))])) K := by
 unfold bM.K bM.H
 simp only [hpS, List.map_cons, List.map_nil, aA, gq, reduceEq, reduceLT, reduceLE, implies_true, reduceCtorEq, if_true, if_false, go_sem, reduceEqDiff, Nat.reduceLT, reduceAdd, reduceSub, reduceLeDiff, reduceReplicate, reduceToNat]
 refine aCr A m v l T hT s n a b (by omega) hn ha hb hr _ fun a1 b1 s1 h1 h2 h3 h4 h5 => ?_
 simp only [hpS, List.map_cons, List.map_nil, aA, gq, reduceEq, reduceLT, reduceLE, implies_true, reduceCtorEq, if_true, if_false, go_sem, reduceEqDiff, Nat.reduceLT, reduceAdd, reduceSub, reduceLeDiff, reduceReplicate, reduceToNat]
 refine aCr A m v l T hT s1 n b1 d (by omega) hn h2 hd hr _ fun b2 d2 s2 g1 g2 g3 g4 g5 => ?_
 simp only [hpS, List.map_cons, List.map_nil, aA, gq, reduceEq, reduceLT, reduceLE, implies_true, reduceCtorEq, if_true, if_false, go_sem, reduceEqDiff, Nat.reduceLT, reduceAdd, reduceSub, reduceLeDiff, reduceReplicate, reduceToNat]
 refine aCr A m v l T hT s2 n a1 b2 (by omega) hn h1 g1 hr _ fun a3 b3 s3 k1 k2 k3 k4 k5 => ?_
 simp only [hpS, List.map_cons, List.map_nil, aA, gq, reduceEq, reduceLT, reduceLE, implies_true, reduceCtorEq, if_true, if_false, go_sem, reduceEqDiff, Nat.reduceLT, reduceAdd, reduceSub, reduceLeDiff, reduceReplicate, reduceToNat]
 exact hK b3 s3 (by omega) (by omega)
def bC.K : Con := fun args h K => match args with
 | [a0, a1, a2, a3] => bC.H (ctx [] [(146, bM.K)] bC.loops) a0 a1 a2 a3 h K
 | _ => False
theorem bC.spec : dH Tryz.prog 145 bC.K := by
 refine dH.of (bR (F := []) (S := [(146, bM.K)]) (by simp) (by simpa using bM.spec) bC.loops) bC.at bC.nm bC.bd ?_
 intro args h K hC
 unfold bC.K at hC
 split at hC
 · rw [bC.eq]; exact hC
 · exact hC.elim
theorem zJ (A : SkT) (m : aY → Bool) (v : Nat) (l : List RecT) (T : List AObj) (hT : OkT T) (s : Nat) (n a : Nat) (hs : s < 80000) (hn : n = l.length) (ha : 0 < a) (ha2 : a + 1 < n) (hr : roomy n) (K : AOut → List AObj → Prop)
   (hK : ∀ (a' : Nat) (s' : Nat), a ≤ a' + 1 → a' ≤ a + 1 → s' ≤ s + 3 → K (.ret (.int .i64 a')) (hpS A m v l (T ++ [.box (.int .i64 (s' : Int))]))) :
   bC.K [.sref false 2 v 0 n, .int .i64 a, .ptr (T.length + 1 + 1 + 1) [], hitF] (hpS A m v l (T ++ [.box (.int .i64 (s : Int))])) K := by
 have hr' := hr
 unfold roomy at hr'
 have e1 : IntKind.i64.wrap ((a : Int) - 1) = ((a - 1 : Nat) : Int) := by rw [w64 (by omega) (by omega)]; omega
 unfold bC.K bC.H
 simp only [hpS, List.map_cons, List.map_nil, e1, eH (show a < 4611686018427387904 by omega), aA, gq, reduceEq, reduceLT, reduceLE, implies_true, reduceCtorEq, if_true, if_false, go_sem, reduceEqDiff, Nat.reduceLT, reduceAdd, reduceSub, reduceLeDiff, reduceReplicate, reduceToNat]
 refine aCs A m v l T hT s n _ _ _ (by omega) hn (by omega) (by omega) (by omega) hr _ fun a1 s1 h1 h2 => ?_
 simp only [hpS, List.map_cons, List.map_nil, aA, gq, reduceEq, reduceLT, reduceLE, implies_true, reduceCtorEq, if_true, if_false, go_sem, reduceEqDiff, Nat.reduceLT, reduceAdd, reduceSub, reduceLeDiff, reduceReplicate, reduceToNat]
 exact hK a1 s1 (by omega) (by omega) h2
def bL.K : Con := fun args h K => match args with
 | [a0, a1, a2, a3] => bL.H (ctx [] [(145, bC.K), (146, bM.K)] bL.loops) a0 a1 a2 a3 h K
 | _ => False
theorem bL.spec : dH Tryz.prog 129 bL.K := by
 refine dH.of (bR (F := []) (S := [(145, bC.K), (146, bM.K)]) (by simp) (by simpa using ⟨bC.spec, bM.spec⟩) bL.loops) bL.at bL.nm bL.bd ?_
 intro args h K hC
 unfold bL.K at hC
 split at hC
 · rw [bL.eq]; exact hC
 · exact hC.elim
theorem aMe (A : SkT) (m : aY → Bool) (v : Nat) (l : List RecT) (T : List AObj) (hT : OkT T) (n a b : Nat) (hn : n = l.length) (hab : a < b) (hbn : b ≤ n) (hr : roomy n) (K : AOut → List AObj → Prop)
   (hK : ∀ (p : Nat) (e : Nat) (s : Int), a ≤ p → p < b → e ≤ 2 → K (.ret (.tup [.int .i64 p, .int .i64 e])) (hpS A m v l (T ++ [.box (.int .i64 s)]))) :
   bL.K [.sref false 2 v 0 n, .int .i64 a, .int .i64 b, hitF] (hpS A m v l T) K := by
 unfold bL.K bL.H
 have hr' := hr
 unfold roomy at hr'
 have e0 : IntKind.i64.wrap ((b : Int) - a) = ((b - a : Nat) : Int) := by rw [w64 (by omega) (by omega)]; omega
 have e1 : ((b - a : Nat) : Int).tdiv 4 = (((b - a) / 4 : Nat) : Int) := by rw [Int.tdiv_eq_ediv_of_nonneg (by omega)]; omega
 obtain ⟨q, hq⟩ : ∃ q, (b - a) / 4 = q := ⟨_, rfl⟩
 have e2 : IntKind.i64.wrap (q : Int) = q := w64 (by omega) (by omega)
 have e3 : ∀ k : Nat, k ≤ 3 → IntKind.i64.wrap ((a : Int) + IntKind.i64.wrap ((q : Int) * k)) = ((a + q * k : Nat) : Int) := fun k hk => by
   have : q * k ≤ q * 3 := Nat.mul_le_mul_left q hk
   rw [w64 (n := (q : Int) * k) (by rw [← Int.natCast_mul]; omega) (by rw [← Int.natCast_mul]; omega), ← Int.natCast_mul, w64 (by omega) (by omega)]; omega
 have e31 := e3 1 (by decide)
 have e32 := e3 2 (by decide)
 have e33 := e3 3 (by decide)
 simp only [Int.natCast_one, Int.cast_ofNat_Int] at e31 e32 e33
 simp only [hpS, List.map_cons, List.map_nil, List.cons_append, e0, e1, hq, e2, e31, e32, e33, aA, gq, reduceEq, reduceLT, reduceLE, implies_true, reduceCtorEq, if_true, if_false, go_sem, reduceEqDiff, Nat.reduceLT, reduceAdd, reduceSub, reduceLeDiff, reduceReplicate, reduceToNat]
 have hfin : ∀ (p : Nat) (s : Int), a ≤ p → p < b → ((s = 0 → K (.ret (.tup [.int .i64 p, .int .i64 1])) (hpS A m v l (T ++ [.box (.int .i64 s)]))) ∧ (¬ s = 0 → (s = 12 → K (.ret (.tup [.int .i64 p, .int .i64 2])) (hpS A m v l (T ++ [.box (.int .i64 s)]))) ∧ (¬ s = 12 → K (.ret (.tup [.int .i64 p, .int .i64 0])) (hpS A m v l (T ++ [.box (.int .i64 s)]))))) := fun p s h1 h2 => ⟨fun _ => hK p 1 s h1 h2 (by decide), fun _ => ⟨fun _ => hK p 2 s h1 h2 (by decide), fun _ => hK p 0 s h1 h2 (by decide)⟩⟩
 refine ⟨fun h8 => ⟨fun h50 => ?_, fun _ => ?_⟩, fun h8 => ?_⟩
 · refine zJ A m v l T hT 0 n _ (by decide) hn (by omega) (by omega) hr _ fun p1 s1 h1 h2 h3 => ?_
   simp only [hpS, aA, gq, reduceEq, reduceLT, reduceLE, implies_true, reduceCtorEq, if_true, if_false, go_sem, reduceEqDiff, Nat.reduceLT, reduceAdd, reduceSub, reduceLeDiff, reduceReplicate, reduceToNat]
   refine zJ A m v l T hT s1 n _ (by omega) hn (by omega) (by omega) hr _ fun p2 s2 g1 g2 g3 => ?_
   simp only [hpS, aA, gq, reduceEq, reduceLT, reduceLE, implies_true, reduceCtorEq, if_true, if_false, go_sem, reduceEqDiff, Nat.reduceLT, reduceAdd, reduceSub, reduceLeDiff, reduceReplicate, reduceToNat]
   refine zJ A m v l T hT s2 n _ (by omega) hn (by omega) (by omega) hr _ fun p3 s3 k1 k2 k3 => ?_
   simp only [hpS, aA, gq, reduceEq, reduceLT, reduceLE, implies_true, reduceCtorEq, if_true, if_false, go_sem, reduceEqDiff, Nat.reduceLT, reduceAdd, reduceSub, reduceLeDiff, reduceReplicate, reduceToNat]
   refine aCs A m v l T hT s3 n _ _ _ (by omega) hn (by omega) (by omega) (by omega) hr _ fun p s hp hs => ?_
   simp only [hpS, qW, aA, gq, reduceEq, reduceLT, reduceLE, implies_true, reduceCtorEq, if_true, if_false, go_sem, reduceEqDiff, Nat.reduceLT, reduceAdd, reduceSub, reduceLeDiff, reduceReplicate, reduceToNat]
   exact hfin p s (by omega) (by omega)
 · refine aCs A m v l T hT 0 n _ _ _ (by decide) hn (by omega) (by omega) (by omega) hr _ fun p s hp hs => ?_
   simp only [hpS, qW, aA, gq, reduceEq, reduceLT, reduceLE, implies_true, reduceCtorEq, if_true, if_false, go_sem, reduceEqDiff, Nat.reduceLT, reduceAdd, reduceSub, reduceLeDiff, reduceReplicate, reduceToNat]
   exact hfin p s (by omega) (by omega)
 · simp only [hpS, qW, aA, gq, reduceEq, reduceLT, reduceLE, implies_true, reduceCtorEq, if_true, if_false, go_sem, reduceEqDiff, Nat.reduceLT, reduceAdd, reduceSub, reduceLeDiff, reduceReplicate, reduceToNat]
   exact hK (a + q * 2) 1 0 (by omega) (by omega) (by decide)
def aR.K : Con := fun args h K => match args with
 | [a0, a1, a2, a3] => aR.H (ctx [(109, bY.C)] [] aR.loops) a0 a1 a2 a3 h K
 | _ => False
theorem aR.spec : dH Tryz.prog 126 aR.K := by
 refine dH.of (bR (F := [(109, bY.C)]) (S := []) (by simpa using bY.spec) (by simp) aR.loops) aR.at aR.nm aR.bd ?_
 intro args h K hC
 unfold aR.K at hC
 split at hC
 · rw [aR.eq]; exact hC
 · exact hC.elim
theorem aSn (A : SkT) (m : aY → Bool) (v : Nat) (l : List RecT) (T : List AObj) (hTn : OkT T) (n a b : Nat) (hn : n = l.length) (hab : a ≤ b) (hbn : b ≤ n) (hr : roomy n) (K : AOut → List AObj → Prop)
   (hK : ∀ l', SegP a b l l' → SegS a b l' → K (.ret (.tup [])) (hpS A m v l' T)) :
   aR.K [.sref false 2 v 0 n, .int .i64 a, .int .i64 b, hitF] (hpS A m v l T) K := by
 have hr' := hr
 unfold roomy at hr'
 have h2 : 2 < T.length + 1 + 1 + 1 := by omega
 unfold aR.K aR.H
 simp only [hpS, hTn _ _, SkT.norm, h2, aA, gq, reduceEq, reduceLT, reduceLE, implies_true, reduceCtorEq, if_true, if_false, go_sem, reduceEqDiff, Nat.reduceLT, reduceAdd, reduceSub, reduceLeDiff, reduceReplicate, reduceToNat] at hK ⊢
 rw [eH (by omega)]
 unfold aR.L1
 refine kV (σ := List RecT × Nat) (fun s => .int .i64 s.2) (fun s => .box A.V :: .map (.sb m) :: .row .own v (.recs s.1) :: T) (fun s => n + 1 - s.2) (fun s => a + 1 ≤ s.2 ∧ (s.2 ≤ b ∨ s.2 = a + 1) ∧ SegP a b l s.1 ∧ SegS a s.2 s.1) (l, a + 1) rfl rfl ⟨by simp, by simp, SegP.refl, SegS.one (by simp)⟩ ?_
 rintro I back ⟨l1, i⟩ ⟨hi1, hi2, hp, hs⟩
 simp only at hi1 hi2 hp hs ⊢
 have hl1 := hp.len
 simp only [hTn _ _, SkT.norm, h2, aA, aA, gq, reduceEq, reduceLT, reduceLE, implies_true, reduceCtorEq, if_true, if_false, go_sem, reduceEqDiff, Nat.reduceLT, reduceAdd, reduceSub, reduceLeDiff, reduceReplicate, reduceToNat]
 refine ⟨fun hlt => ?_, fun hge => hK l1 hp fun p q h1 h2 h3 => hs p q h1 h2 (by omega)⟩
 unfold aR.L2
 refine kV (σ := List RecT × Nat) (fun s => .int .i64 s.2) (fun s => .box A.V :: .map (.sb m) :: .row .own v (.recs s.1) :: T) (fun s => s.2) (fun s => a ≤ s.2 ∧ s.2 ≤ i ∧ SegP a b l s.1 ∧ InsS a s.2 (i + 1) s.1) (l1, i) rfl rfl ⟨by simp only; omega, by simp, hp, InsS.begin hs⟩ ?_
 rintro I2 back2 ⟨l2, j⟩ ⟨hj1, hj2, hp2, hs2⟩
 simp only at hj1 hj2 hp2 hs2 ⊢
 have hl2 := hp2.len
 have hnx : SegS a (i + 1) l2 → ∃ m1, m1 < n + 1 - i ∧ I m1 [.int .i64 (IntKind.i64.wrap ((i : Int) + 1))] (.box A.V :: .map (.sb m) :: .row .own v (.recs l2) :: T) := fun h => back (l2, i + 1) (by simp only; omega) (by simp only; rw [eH (by omega)]) rfl ⟨by simp only; omega, .inl (by simp only; omega), hp2, h⟩
 by_cases hja : a < j
 · have e1 : IntKind.i64.wrap ((j : Int) - 1) = ((j - 1 : Nat) : Int) := by rw [w64 (by omega) (by omega)]; omega
   have d1 : decide ((a : Int) < (j : Int)) = true := decide_eq_true (by omega)
   simp only [hTn _ _, SkT.norm, h2, aA, d1, e1, Int.toNat_natCast, bY.C, iU, iR, jI, jR, iN, List.length_set, aA, gq, reduceEq, reduceLT, reduceLE, implies_true, reduceCtorEq, if_true, if_false, go_sem, reduceEqDiff, Nat.reduceLT, reduceAdd, reduceSub, reduceLeDiff, reduceReplicate, reduceToNat]
   refine ⟨⟨by omega, by omega⟩, by omega, ⟨by omega, by omega⟩, by omega, fun h => ⟨⟨by omega, by omega⟩, by omega, ⟨by omega, by omega⟩, by omega, ⟨by omega, by omega⟩, by omega, ⟨by omega, by omega⟩, by omega, back2 (gS l2 j (j - 1), j - 1) (by simp only; omega) rfl rfl ⟨by simp only; omega, by simp only; omega, hp2.trans (SegP.swap (by omega) (by omega) (by omega) (by omega) (by omega)), hs2.step hja (by omega) (by omega) h⟩⟩, fun h => hnx (hs2.done hj1 (by omega) (.inr (by unfold leB; simpa using h)))⟩
 · obtain rfl : j = a := by omega
   have d1 : decide ((j : Int) < (j : Int)) = false := decide_eq_false (by omega)
   simp only [hTn _ _, SkT.norm, h2, aA, d1, aA, gq, reduceEq, reduceLT, reduceLE, implies_true, reduceCtorEq, if_true, if_false, go_sem, reduceEqDiff, Nat.reduceLT, reduceAdd, reduceSub, reduceLeDiff, reduceReplicate, reduceToNat]
   exact hnx (hs2.done (Nat.le_refl _) (by omega) (.inl rfl))
def aF.K : Con := fun args h K => match args with
 | [a0, a1, a2, a3] => aF.H (ctx [(109, bY.C)] [] aF.loops) a0 a1 a2 a3 h K
 | _ => False
theorem aF.spec : dH Tryz.prog 131 aF.K := by
 refine dH.of (bR (F := [(109, bY.C)]) (S := []) (by simpa using bY.spec) (by simp) aF.loops) aF.at aF.nm aF.bd ?_
 intro args h K hC
 unfold aF.K at hC
 split at hC
 · rw [aF.eq]; exact hC
 · exact hC.elim
def PreS (a b : Nat) (l : List RecT) : Prop := a = 0 ∨ ∀ k, a ≤ k → k < b → leB (kyL l (a - 1)) (kyL l k)
theorem PreS.keep {a b : Nat} {l l' : List RecT} (h : PreS a b l) (s : SegP a b l l') : PreS a b l' := by
 rcases Nat.eq_zero_or_pos a with h0 | h0
 · exact .inl h0
 · rcases h with h | h
   · exact .inl h
   · refine .inr fun k h1 h2 => ?_
     rw [s.same (k := a - 1) (by omega)]
     exact s.le (x := kyL l (a - 1)) h k h1 h2
theorem aKY (c : Ctx) (hd : c.drawn = false) (hf : c.envF 109 = bY.C) (A : SkT) (m : aY → Bool) (v : Nat) (l : List RecT) (T : List AObj) (n a b i jc : Nat) (hTn : OkT T) (hn : n = l.length) (ha : a + 1 < i) (hi : i < n) (hp : PreS a i l) (hr : roomy n) (h0 : InsS a (i - 1) i l)
   (J : AV → AV → AV → AV → AV → AV → List AObj → Prop) (K : AOut → List AObj → Prop)
   (hJ : ∀ l', SegP a i l l' → SegS a i l' → J (.sref false 2 v 0 n) (.int .i64 a) (.int .i64 b) hitF (.int .i64 i) (.int .i64 jc) (.box A.V :: .map (.sb m) :: .row .own v (.recs l') :: T)) :
   aF.L3 c J K [.int .i64 ((i - 1 : Nat) : Int)] (.box A.V :: .map (.sb m) :: .row .own v (.recs l) :: T) (T.length + 1 + 1 + 1) (.sref false 2 v 0 n) (.int .i64 a) (.int .i64 b) hitF (.int .i64 i) (.int .i64 jc) := by
 have hr' := hr
 unfold roomy at hr'
 have h2 : 2 < T.length + 1 + 1 + 1 := by omega
 unfold aF.L3
 refine kV (σ := List RecT × Nat) (fun s => .int .i64 s.2) (fun s => .box A.V :: .map (.sb m) :: .row .own v (.recs s.1) :: T) (fun s => s.2) (fun s => a ≤ s.2 ∧ s.2 < i ∧ SegP a i l s.1 ∧ InsS a s.2 i s.1) (l, i - 1) rfl rfl ⟨by simp only; omega, by simp only; omega, SegP.refl, h0⟩ ?_
 rintro I back ⟨l2, j⟩ ⟨hj1, hj2, hp2, hs2⟩
 simp only at hj1 hj2 hp2 hs2 ⊢
 have hl2 := hp2.len
 by_cases hj0 : 1 ≤ j
 · have e1 : IntKind.i64.wrap ((j : Int) - 1) = ((j - 1 : Nat) : Int) := by rw [w64 (by omega) (by omega)]; omega
   have d1 : decide ((1 : Int) ≤ (j : Int)) = true := decide_eq_true (by omega)
   cases hlt : ltB (kyL l2 j) (kyL l2 (j - 1)) with
   | false =>
     simp only [hTn _ _, SkT.norm, h2, aA, d1, e1, hd, hf, hlt, Int.toNat_natCast, bY.C, iU, iR, jI, aA, gq, reduceEq, reduceLT, reduceLE, implies_true, reduceCtorEq, if_true, if_false, go_sem, reduceEqDiff, Nat.reduceLT, reduceAdd, reduceSub, reduceLeDiff, reduceReplicate, reduceToNat]
     refine ⟨⟨by omega, by omega⟩, by omega, ⟨by omega, by omega⟩, by omega, hJ l2 hp2 (hs2.done hj1 hj2 ?_)⟩
     rcases Nat.eq_or_lt_of_le hj1 with h | h
     · exact .inl h.symm
     · exact .inr hlt
   | true =>
     have hja : a < j := by
       rcases Nat.eq_or_lt_of_le hj1 with h | h
       · subst h
         rcases hp.keep hp2 with h | h
         · omega
         · have := h a (Nat.le_refl _) hj2
           unfold leB at this
           rw [hlt] at this; cases this
       · exact h
     simp only [hTn _ _, SkT.norm, h2, aA, d1, e1, hd, hf, hlt, Int.toNat_natCast, bY.C, iU, iR, jI, jR, iN, List.length_set, aA, gq, reduceEq, reduceLT, reduceLE, implies_true, reduceCtorEq, if_true, if_false, go_sem, reduceEqDiff, Nat.reduceLT, reduceAdd, reduceSub, reduceLeDiff, reduceReplicate, reduceToNat]
     refine ⟨⟨by omega, by omega⟩, by omega, ⟨by omega, by omega⟩, by omega, ⟨by omega, by omega⟩, by omega, ⟨by omega, by omega⟩, by omega, ⟨by omega, by omega⟩, by omega, ⟨by omega, by omega⟩, by omega, back (gS l2 j (j - 1), j - 1) (by simp only; omega) rfl rfl ⟨by simp only; omega, by simp only; omega, hp2.trans (SegP.swap (by omega) (by omega) (by omega) (by omega) (by omega)), hs2.step hja hj2 (by omega) hlt⟩⟩
 · have d1 : decide ((1 : Int) ≤ (j : Int)) = false := decide_eq_false (by omega)
   simp only [hTn _ _, SkT.norm, h2, aA, d1, aA, gq, reduceEq, reduceLT, reduceLE, implies_true, reduceCtorEq, if_true, if_false, go_sem, reduceEqDiff, Nat.reduceLT, reduceAdd, reduceSub, reduceLeDiff, reduceReplicate, reduceToNat]
   exact hJ l2 hp2 (hs2.done hj1 hj2 (.inl (by omega)))
theorem aJE (c : Ctx) (hd : c.drawn = false) (hf : c.envF 109 = bY.C) (A : SkT) (m : aY → Bool) (v : Nat) (l : List RecT) (T : List AObj) (n a b i jc : Nat) (hTn : OkT T) (hn : n = l.length) (hi : i + 1 < b) (hb : b ≤ n) (hr : roomy n)
   (J : AV → AV → AV → AV → AV → AV → List AObj → Prop) (K : AOut → List AObj → Prop)
   (hJ : ∀ l', SegP i b l l' → J (.sref false 2 v 0 n) (.int .i64 a) (.int .i64 b) hitF (.int .i64 i) (.int .i64 jc) (.box A.V :: .map (.sb m) :: .row .own v (.recs l') :: T)) :
   aF.L4 c J K [.int .i64 ((i + 1 : Nat) : Int)] (.box A.V :: .map (.sb m) :: .row .own v (.recs l) :: T) (T.length + 1 + 1 + 1) (.sref false 2 v 0 n) (.int .i64 a) (.int .i64 b) hitF (.int .i64 i) (.int .i64 jc) := by
 have hr' := hr
 unfold roomy at hr'
 have h2 : 2 < T.length + 1 + 1 + 1 := by omega
 unfold aF.L4
 refine kV (σ := List RecT × Nat) (fun s => .int .i64 s.2) (fun s => .box A.V :: .map (.sb m) :: .row .own v (.recs s.1) :: T) (fun s => b - s.2) (fun s => i + 1 ≤ s.2 ∧ s.2 ≤ b ∧ SegP i b l s.1) (l, i + 1) rfl rfl ⟨Nat.le_refl _, by simp only; omega, SegP.refl⟩ ?_
 rintro I back ⟨l2, j⟩ ⟨hj1, hj2, hp2⟩
 simp only at hj1 hj2 hp2 ⊢
 have hl2 := hp2.len
 by_cases hj0 : j < b
 · have e1 : IntKind.i64.wrap ((j : Int) - 1) = ((j - 1 : Nat) : Int) := by rw [w64 (by omega) (by omega)]; omega
   have d1 : decide ((j : Int) < (b : Int)) = true := decide_eq_true (by omega)
   cases hlt : ltB (kyL l2 j) (kyL l2 (j - 1)) with
   | false =>
     simp only [hTn _ _, SkT.norm, h2, aA, d1, e1, hd, hf, hlt, Int.toNat_natCast, bY.C, iU, iR, jI, aA, gq, reduceEq, reduceLT, reduceLE, implies_true, reduceCtorEq, if_true, if_false, go_sem, reduceEqDiff, Nat.reduceLT, reduceAdd, reduceSub, reduceLeDiff, reduceReplicate, reduceToNat]
     exact ⟨⟨by omega, by omega⟩, by omega, ⟨by omega, by omega⟩, by omega, hJ l2 hp2⟩
   | true =>
     simp only [hTn _ _, SkT.norm, h2, aA, d1, e1, hd, hf, hlt, Int.toNat_natCast, bY.C, iU, iR, jI, jR, iN, List.length_set, aA, gq, reduceEq, reduceLT, reduceLE, implies_true, reduceCtorEq, if_true, if_false, go_sem, reduceEqDiff, Nat.reduceLT, reduceAdd, reduceSub, reduceLeDiff, reduceReplicate, reduceToNat]
     refine ⟨⟨by omega, by omega⟩, by omega, ⟨by omega, by omega⟩, by omega, ⟨by omega, by omega⟩, by omega, ⟨by omega, by omega⟩, by omega, ⟨by omega, by omega⟩, by omega, ⟨by omega, by omega⟩, by omega, back (gS l2 j (j - 1), j + 1) (by simp only; omega) (by rw [eH (by omega)]) rfl ⟨by simp only; omega, by simp only; omega, hp2.trans (SegP.swap (by omega) (by omega) (by omega) (by omega) (by omega))⟩⟩
 · have d1 : decide ((j : Int) < (b : Int)) = false := decide_eq_false (by omega)
   simp only [hTn _ _, SkT.norm, h2, aA, d1, aA, gq, reduceEq, reduceLT, reduceLE, implies_true, reduceCtorEq, if_true, if_false, go_sem, reduceEqDiff, Nat.reduceLT, reduceAdd, reduceSub, reduceLeDiff, reduceReplicate, reduceToNat]
   exact hJ l2 hp2
theorem aNZ (A : SkT) (m : aY → Bool) (v : Nat) (l : List RecT) (T : List AObj) (hTn : OkT T) (n a b : Nat) (hn : n = l.length) (hab : a < b) (hbn : b ≤ n) (hpre : PreS a b l) (hr : roomy n) (K : AOut → List AObj → Prop)
   (hK1 : ∀ l', SegP a b l l' → SegS a b l' → K (.ret (.bool true)) (hpS A m v l' T)) (hK2 : ∀ l', SegP a b l l' → K (.ret (.bool false)) (hpS A m v l' T)) :
   aF.K [.sref false 2 v 0 n, .int .i64 a, .int .i64 b, hitF] (hpS A m v l T) K := by
 have hr' := hr
 unfold roomy at hr'
 have h2 : 2 < T.length + 1 + 1 + 1 := by omega
 unfold aF.K aF.H
 simp only [hpS, hTn _ _, SkT.norm, h2, aA, gq, reduceEq, reduceLT, reduceLE, implies_true, reduceCtorEq, if_true, if_false, go_sem, reduceEqDiff, Nat.reduceLT, reduceAdd, reduceSub, reduceLeDiff, reduceReplicate, reduceToNat] at hK1 hK2 ⊢
 rw [eH (by omega)]
 unfold aF.L1
 refine oL (σ := List RecT × Nat × Nat) (fun s => .int .i64 s.2.1) (fun s => .int .i64 s.2.2) (fun s => .box A.V :: .map (.sb m) :: .row .own v (.recs s.1) :: T) (fun s => 5 - s.2.2) (fun s => s.2.2 ≤ 5 ∧ a + 1 ≤ s.2.1 ∧ s.2.1 ≤ b ∧ SegP a b l s.1 ∧ SegS a s.2.1 s.1) (l, a + 1, 0) rfl rfl ⟨Nat.zero_le _, Nat.le_refl _, by simp only; omega, SegP.refl, SegS.one (Nat.le_refl _)⟩ ?_
 rintro I back ⟨l1, i0, jc⟩ ⟨hjc, hi1, hi2, hp, hs⟩
 simp only at hjc hi1 hi2 hp hs ⊢
 have hl1 := hp.len
 by_cases hj5 : jc < 5
 rotate_left
 · have d1 : decide ((jc : Int) < 5) = false := decide_eq_false (by omega)
   simp only [hTn _ _, SkT.norm, h2, aA, d1, aA, gq, reduceEq, reduceLT, reduceLE, implies_true, reduceCtorEq, if_true, if_false, go_sem, reduceEqDiff, Nat.reduceLT, reduceAdd, reduceSub, reduceLeDiff, reduceReplicate, reduceToNat]
   exact hK2 l1 hp
 have d0 : decide ((jc : Int) < 5) = true := decide_eq_true (by omega)
 simp only [hTn _ _, SkT.norm, h2, aA, d0, aA, gq, reduceEq, reduceLT, reduceLE, implies_true, reduceCtorEq, if_true, if_false, go_sem, reduceEqDiff, Nat.reduceLT, reduceAdd, reduceSub, reduceLeDiff, reduceReplicate, reduceToNat]
 unfold aF.L2
 refine kV (σ := Nat) (fun i => .int .i64 i) (fun s => .box A.V :: .map (.sb m) :: .row .own v (.recs l1) :: T) (fun i => b - i) (fun i => a + 1 ≤ i ∧ i ≤ b ∧ SegS a i l1) i0 rfl rfl ⟨hi1, hi2, hs⟩ ?_
 rintro I2 back2 i ⟨hi1, hi2, hs⟩
 have e1 : IntKind.i64.wrap ((i : Int) - 1) = ((i - 1 : Nat) : Int) := by rw [w64 (by omega) (by omega)]; omega
 have e2 : IntKind.i64.wrap ((b : Int) - a) = ((b - a : Nat) : Int) := by rw [w64 (by omega) (by omega)]; omega
 have e3 : IntKind.i64.wrap ((i : Int) - a) = ((i - a : Nat) : Int) := by rw [w64 (by omega) (by omega)]; omega
 have e4 : IntKind.i64.wrap ((b : Int) - i) = ((b - i : Nat) : Int) := by rw [w64 (by omega) (by omega)]; omega
 by_cases hib : i < b
 · have d1 : decide ((i : Int) < (b : Int)) = true := decide_eq_true (by omega)
   have d2 : decide ((i : Int) = (b : Int)) = false := decide_eq_false (by omega)
   cases hlt : ltB (kyL l1 i) (kyL l1 (i - 1)) with
   | false =>
     simp only [hTn _ _, SkT.norm, h2, aA, d1, e1, e2, hlt, Int.toNat_natCast, bY.C, iU, iR, jI, jR, iN, List.length_set, aA, gq, reduceEq, reduceLT, reduceLE, implies_true, reduceCtorEq, if_true, if_false, go_sem, reduceEqDiff, Nat.reduceLT, reduceAdd, reduceSub, reduceLeDiff, reduceReplicate, reduceToNat]
     refine ⟨⟨by omega, by omega⟩, by omega, ⟨by omega, by omega⟩, by omega, ?_⟩
     refine back2 (i + 1) (by omega) (by rw [eH (by omega)]) rfl ⟨by omega, by omega, ?_⟩
     intro p q h1 h2 h3
     by_cases hq : q = i
     · subst hq
       by_cases hp : p = q - 1
       · subst hp; exact hlt
       · exact lV (hs p (q - 1) h1 (by omega) (by omega)) hlt
     · exact hs p q h1 h2 (by omega)
   | true =>
     have hsw : SegP a b l (gS l1 i (i - 1)) := hp.trans (SegP.swap (by omega) (by omega) (by omega) (by omega) (by omega))
     have hins : InsS a (i - 1) i (gS l1 i (i - 1)) := fun p q h1 h2 h3 h4 => by
       rw [jO (by omega) (by omega), jO (by omega) (by omega), if_neg (by omega), if_neg (by omega), if_neg (by omega), if_neg (by omega)]
       exact hs p q h1 h2 (by omega)
     have hsl : (gS l1 i (i - 1)).length = n := by rw [nN]; omega
     simp only [hTn _ _, SkT.norm, h2, aA, d1, d2, e1, e2, e3, e4, hlt, Int.toNat_natCast, bY.C, iU, iR, jI, jR, iN, List.length_set, eH (show i < 4611686018427387904 by omega), aA, gq, reduceEq, reduceLT, reduceLE, implies_true, reduceCtorEq, if_true, if_false, go_sem, reduceEqDiff, Nat.reduceLT, reduceAdd, reduceSub, reduceLeDiff, reduceReplicate, reduceToNat]
     generalize gS l1 i (i - 1) = l2 at *
     have hend : ∀ l3, SegP a b l l3 → SegS a i l3 → ∃ m_1, m_1 < 5 - jc ∧ I m_1 [.int .i64 i, .int .i64 ((jc + 1 : Nat) : Int)] (.box A.V :: .map (.sb m) :: .row .own v (.recs l3) :: T) := fun l3 p3 s3 => back (l3, i, jc + 1) (by simp only; omega) rfl rfl ⟨by simp only; omega, hi1, hi2, p3, s3⟩
     have hright : ∀ (c : Ctx), c.drawn = false → c.envF 109 = bY.C → ∀ l3, SegP a b l l3 → SegS a i l3 → ∀ (J : AV → AV → AV → AV → AV → AV → List AObj → Prop) (K : AOut → List AObj → Prop), i + 1 < b → (∀ l4, SegP a b l l4 → SegS a i l4 → J (.sref false 2 v 0 n) (.int .i64 a) (.int .i64 b) hitF (.int .i64 i) (.int .i64 jc) (.box A.V :: .map (.sb m) :: .row .own v (.recs l4) :: T)) → aF.L4 c J K [.int .i64 ((i + 1 : Nat) : Int)] (.box A.V :: .map (.sb m) :: .row .own v (.recs l3) :: T) (T.length + 1 + 1 + 1) (.sref false 2 v 0 n) (.int .i64 a) (.int .i64 b) hitF (.int .i64 i) (.int .i64 jc) := fun c hd hf l3 p3 s3 J K h1 hJ =>
       aJE c hd hf A m v l3 T n a b i jc hTn (by rw [p3.len]; exact hn) h1 hbn hr J K fun l4 p4 => hJ l4 (p3.trans (p4.mono (by omega) (Nat.le_refl _))) (s3.keep p4 (.inl (Nat.le_refl _)))
     refine ⟨⟨by omega, by omega⟩, by omega, ⟨by omega, by omega⟩, by omega, fun h50 => hK2 l1 hp, fun h50 => ⟨⟨by omega, by omega⟩, by omega, ⟨by omega, by omega⟩, by omega, ⟨by omega, by omega⟩, by omega, ⟨by omega, by omega⟩, by omega, fun hge => ?_, fun hge => ?_⟩⟩
     · have hpr : PreS a i l2 := (hpre.keep hsw).imp id fun h k k1 k2 => h k k1 (by omega)
       refine aKY _ rfl rfl A m v l2 T n a b i jc hTn hsl.symm (by omega) (by omega) hpr hr hins _ _ fun l3 p3 s3 => ?_
       have p3' : SegP a b l l3 := hsw.trans (p3.mono (Nat.le_refl _) (by omega))
       simp only [hTn _ _, SkT.norm, h2, e4, eH (show i < 4611686018427387904 by omega), eH (show jc < 4611686018427387904 by omega), aA, gq, reduceEq, reduceLT, reduceLE, implies_true, reduceCtorEq, if_true, if_false, go_sem, reduceEqDiff, Nat.reduceLT, reduceAdd, reduceSub, reduceLeDiff, reduceReplicate, reduceToNat]
       refine ⟨fun hge2 => hright _ rfl rfl l3 p3' s3 _ _ (by omega) fun l4 p4 s4 => ?_, fun _ => hend l3 p3' s3⟩
       simp only [hTn _ _, SkT.norm, h2, eH (show jc < 4611686018427387904 by omega), aA, gq, reduceEq, reduceLT, reduceLE, implies_true, reduceCtorEq, if_true, if_false, go_sem, reduceEqDiff, Nat.reduceLT, reduceAdd, reduceSub, reduceLeDiff, reduceReplicate, reduceToNat]
       exact hend l4 p4 s4
     · refine ⟨fun hge2 => hright _ rfl rfl l2 hsw (SegS.one (by omega)) _ _ (by omega) fun l4 p4 s4 => ?_, fun _ => by rw [eH (by omega)]; exact hend l2 hsw (SegS.one (by omega))⟩
       simp only [hTn _ _, SkT.norm, h2, eH (show jc < 4611686018427387904 by omega), aA, gq, reduceEq, reduceLT, reduceLE, implies_true, reduceCtorEq, if_true, if_false, go_sem, reduceEqDiff, Nat.reduceLT, reduceAdd, reduceSub, reduceLeDiff, reduceReplicate, reduceToNat]
       exact hend l4 p4 s4
 · obtain rfl : i = b := by omega
   have d1 : decide ((i : Int) < (i : Int)) = false := decide_eq_false (by omega)
   simp only [hTn _ _, SkT.norm, h2, aA, d1, decide_true, aA, gq, reduceEq, reduceLT, reduceLE, implies_true, reduceCtorEq, if_true, if_false, go_sem, reduceEqDiff, Nat.reduceLT, reduceAdd, reduceSub, reduceLeDiff, reduceReplicate, reduceToNat]
   exact hK1 l1 hp hs
def aL.K : Con := fun args h K => match args with
 | [a0, a1, a2, a3, a4] => aL.H (ctx [(109, bY.C)] [] aL.loops) a0 a1 a2 a3 a4 h K
 | _ => False
theorem aL.spec : dH Tryz.prog 133 aL.K := by
 refine dH.of (bR (F := [(109, bY.C)]) (S := []) (by simpa using bY.spec) (by simp) aL.loops) aL.at aL.nm aL.bd ?_
 intro args h K hC
 unfold aL.K at hC
 split at hC
 · rw [aL.eq]; exact hC
 · exact hC.elim
def wT (a b i j : Nat) (l : List RecT) : Prop := a + 1 ≤ i ∧ i ≤ j + 1 ∧ j < b ∧ a ≤ j ∧ (∀ k, a < k → k < i → leB (kyL l k) (kyL l a)) ∧ ∀ k, j < k → k < b → leB (kyL l a) (kyL l k)
theorem wT.swap {a b i j : Nat} {l : List RecT} (h : wT a b i j l) (hij : i < j) (hb : b ≤ l.length) (h1 : leB (kyL l a) (kyL l i)) (h2 : leB (kyL l j) (kyL l a)) : wT a b (i + 1) (j - 1) (gS l i j) := by
 obtain ⟨q1, q2, q3, q4, q5, q6⟩ := h
 have hil : i < l.length := by omega
 have hjl : j < l.length := by omega
 have ea : kyL (gS l i j) a = kyL l a := by rw [jO hil hjl, if_neg (by omega), if_neg (by omega)]
 refine ⟨by omega, by omega, by omega, by omega, fun k k1 k2 => ?_, fun k k1 k2 => ?_⟩
 · rw [ea, jO hil hjl, if_neg (by omega)]
   by_cases e : k = i
   · rw [if_pos e]; exact h2
   · rw [if_neg e]; exact q5 k k1 (by omega)
 · rw [ea, jO hil hjl]
   by_cases e : k = j
   · rw [if_pos e]; exact h1
   · rw [if_neg e, if_neg (by omega)]; exact q6 k (by omega) k2
theorem wT.fin {a b i j : Nat} {l : List RecT} (h : wT a b i j l) (hij : j < i) (hb : b ≤ l.length) : qB a j b (gS l a j) := by
 obtain ⟨q1, q2, q3, q4, q5, q6⟩ := h
 have hal : a < l.length := by omega
 have hjl : j < l.length := by omega
 have ej : kyL (gS l a j) j = kyL l a := by rw [jO hal hjl, if_pos rfl]
 refine ⟨fun k k1 k2 => ?_, fun k k1 k2 => ?_⟩
 · rw [ej, jO hal hjl, if_neg (by omega)]
   by_cases e : k = a
   · rw [if_pos e]; exact q5 j (by omega) (by omega)
   · rw [if_neg e]; exact q5 k (by omega) (by omega)
 · rw [ej, jO hal hjl, if_neg (by omega), if_neg (by omega)]; exact q6 k k1 k2
theorem aDG {l : List RecT} {i j : Nat} (hi : i < l.length) (hj : j < l.length) : gS l i j = gS l j i := by
 refine List.ext_getElem? fun k => ?_
 have h : ∀ k, (gS l i j).getD k d0 = (gS l j i).getD k d0 := fun k => by
   rw [tP hi hj, tP hj hi]
   by_cases e1 : k = j
   · by_cases e2 : k = i
     · rw [if_pos e1, if_pos e2, ← e1, ← e2]
     · rw [if_pos e1, if_neg e2, if_pos e1]
   · rw [if_neg e1, if_neg e1]
 rcases Nat.lt_or_ge k l.length with hk | hk
 · have := h k
   rw [List.getD_eq_getElem?_getD, List.getD_eq_getElem?_getD, List.getElem?_eq_getElem (by rw [nN]; exact hk), List.getElem?_eq_getElem (by rw [nN]; exact hk)] at this
   rw [List.getElem?_eq_getElem (by rw [nN]; exact hk), List.getElem?_eq_getElem (by rw [nN]; exact hk)]
   exact congrArg some this
 · rw [List.getElem?_eq_none (by rw [nN]; exact hk), List.getElem?_eq_none (by rw [nN]; exact hk)]
theorem aGP : aL.L4 = aL.L1 := rfl
theorem aGQ : aL.L5 = aL.L2 := rfl
theorem aAR (c : Ctx) (hd : c.drawn = false) (hf : c.envF 109 = bY.C) (A : SkT) (m : aY → Bool) (v : Nat) (l : List RecT) (T : List AObj) (n a j i0 : Nat) (hTn : OkT T) (hn : n = l.length) (ha : a < i0) (hj : j < n) (hij : i0 ≤ j + 1) (hr : roomy n)
   (J : AV → AV → AV → AV → AV → List AObj → Prop) (K : AOut → List AObj → Prop)
   (hJ : ∀ i : Nat, i0 ≤ i → i ≤ j + 1 → (∀ k, i0 ≤ k → k < i → leB (kyL l k) (kyL l a)) → (i ≤ j → leB (kyL l a) (kyL l i)) → J (.sref false 2 v 0 n) (.int .i64 a) hitF (.int .i64 i) (.int .i64 j) (.box A.V :: .map (.sb m) :: .row .own v (.recs l) :: T)) :
   aL.L1 c J K [.int .i64 i0] (.box A.V :: .map (.sb m) :: .row .own v (.recs l) :: T) (T.length + 1 + 1 + 1) (.sref false 2 v 0 n) (.int .i64 a) hitF (.int .i64 j) := by
 have hr' := hr
 unfold roomy at hr'
 have h2 : 2 < T.length + 1 + 1 + 1 := by omega
 unfold aL.L1
 refine kV (σ := Nat) (fun i => .int .i64 i) (fun s => .box A.V :: .map (.sb m) :: .row .own v (.recs l) :: T) (fun i => j + 1 - i) (fun i => i0 ≤ i ∧ i ≤ j + 1 ∧ ∀ k, i0 ≤ k → k < i → leB (kyL l k) (kyL l a)) i0 rfl rfl ⟨Nat.le_refl _, hij, fun k h1 h2 => by omega⟩ ?_
 rintro I back i ⟨hi1, hi2, hall⟩
 by_cases hle : i ≤ j
 · have d1 : decide ((i : Int) ≤ (j : Int)) = true := decide_eq_true (by omega)
   simp only [hTn _ _, SkT.norm, h2, aA, d1, hd, hf, Int.toNat_natCast, bY.C, iU, iR, jI, aA, gq, reduceEq, reduceLT, reduceLE, implies_true, reduceCtorEq, if_true, if_false, go_sem, reduceEqDiff, Nat.reduceLT, reduceAdd, reduceSub, reduceLeDiff, reduceReplicate, reduceToNat]
   refine ⟨⟨by omega, by omega⟩, by omega, ⟨by omega, by omega⟩, by omega, fun h => ?_, fun h => hJ i hi1 hi2 hall fun _ => by unfold leB; simpa using h⟩
   refine back (i + 1) (by omega) (by rw [eH (by omega)]) rfl ⟨by omega, by omega, fun k k1 k2 => ?_⟩
   by_cases e : k = i
   · subst e; exact rD h
   · exact hall k k1 (by omega)
 · have d1 : decide ((i : Int) ≤ (j : Int)) = false := decide_eq_false (by omega)
   simp only [hTn _ _, SkT.norm, h2, aA, d1, aA, gq, reduceEq, reduceLT, reduceLE, implies_true, reduceCtorEq, if_true, if_false, go_sem, reduceEqDiff, Nat.reduceLT, reduceAdd, reduceSub, reduceLeDiff, reduceReplicate, reduceToNat]
   exact hJ i hi1 hi2 hall fun h => absurd h hle
theorem yI (c : Ctx) (hd : c.drawn = false) (hf : c.envF 109 = bY.C) (A : SkT) (m : aY → Bool) (v : Nat) (l : List RecT) (T : List AObj) (n a i j0 : Nat) (hTn : OkT T) (hn : n = l.length) (ha : a < i) (hj : j0 < n) (hij : i ≤ j0 + 1) (hr : roomy n)
   (J : AV → AV → AV → AV → AV → List AObj → Prop) (K : AOut → List AObj → Prop)
   (hJ : ∀ j : Nat, j ≤ j0 → i ≤ j + 1 → (∀ k, j < k → k ≤ j0 → leB (kyL l a) (kyL l k)) → (i ≤ j → ltB (kyL l j) (kyL l a) = true) → J (.sref false 2 v 0 n) (.int .i64 a) hitF (.int .i64 i) (.int .i64 j) (.box A.V :: .map (.sb m) :: .row .own v (.recs l) :: T)) :
   aL.L2 c J K [.int .i64 j0] (.box A.V :: .map (.sb m) :: .row .own v (.recs l) :: T) (T.length + 1 + 1 + 1) (.sref false 2 v 0 n) (.int .i64 a) hitF (.int .i64 i) := by
 have hr' := hr
 unfold roomy at hr'
 have h2 : 2 < T.length + 1 + 1 + 1 := by omega
 unfold aL.L2
 refine kV (σ := Nat) (fun i => .int .i64 i) (fun s => .box A.V :: .map (.sb m) :: .row .own v (.recs l) :: T) (fun j => j) (fun j => j ≤ j0 ∧ i ≤ j + 1 ∧ ∀ k, j < k → k ≤ j0 → leB (kyL l a) (kyL l k)) j0 rfl rfl ⟨Nat.le_refl _, hij, fun k h1 h2 => by omega⟩ ?_
 rintro I back j ⟨hj1, hj2, hall⟩
 by_cases hle : i ≤ j
 · have d1 : decide ((i : Int) ≤ (j : Int)) = true := decide_eq_true (by omega)
   have e1 : IntKind.i64.wrap ((j : Int) - 1) = ((j - 1 : Nat) : Int) := by rw [w64 (by omega) (by omega)]; omega
   simp only [hTn _ _, SkT.norm, h2, aA, d1, e1, hd, hf, Int.toNat_natCast, bY.C, iU, iR, jI, aA, gq, reduceEq, reduceLT, reduceLE, implies_true, reduceCtorEq, if_true, if_false, go_sem, reduceEqDiff, Nat.reduceLT, reduceAdd, reduceSub, reduceLeDiff, reduceReplicate, reduceToNat]
   refine ⟨⟨by omega, by omega⟩, by omega, ⟨by omega, by omega⟩, by omega, ?_⟩
   cases hlt : ltB (kyL l j) (kyL l a) with
   | false =>
     simp only [aA, gq, reduceEq, reduceLT, reduceLE, implies_true, reduceCtorEq, if_true, if_false, go_sem, reduceEqDiff, Nat.reduceLT, reduceAdd, reduceSub, reduceLeDiff, reduceReplicate, reduceToNat]
     refine back (j - 1) (by omega) rfl rfl ⟨by omega, by omega, fun k k1 k2 => ?_⟩
     by_cases e : k = j
     · subst e; exact hlt
     · exact hall k (by omega) k2
   | true =>
     simp only [aA, gq, reduceEq, reduceLT, reduceLE, implies_true, reduceCtorEq, if_true, if_false, go_sem, reduceEqDiff, Nat.reduceLT, reduceAdd, reduceSub, reduceLeDiff, reduceReplicate, reduceToNat]
     exact hJ j hj1 hj2 hall fun _ => hlt
 · have d1 : decide ((i : Int) ≤ (j : Int)) = false := decide_eq_false (by omega)
   simp only [hTn _ _, SkT.norm, h2, aA, d1, aA, gq, reduceEq, reduceLT, reduceLE, implies_true, reduceCtorEq, if_true, if_false, go_sem, reduceEqDiff, Nat.reduceLT, reduceAdd, reduceSub, reduceLeDiff, reduceReplicate, reduceToNat]
   exact hJ j hj1 hj2 hall fun h => absurd h hle
theorem aHS (A : SkT) (m : aY → Bool) (v : Nat) (l : List RecT) (T : List AObj) (hTn : OkT T) (n a b p : Nat) (hn : n = l.length) (hab : a + 1 < b) (hbn : b ≤ n) (hp : a ≤ p) (hpb : p < b) (hr : roomy n) (K : AOut → List AObj → Prop)
   (hK : ∀ l' q al, SegP a b l l' → a ≤ q → q < b → qB a q b l' → K (.ret (.tup [.int .i64 q, .bool al])) (hpS A m v l' T)) :
   aL.K [.sref false 2 v 0 n, .int .i64 a, .int .i64 b, .int .i64 p, hitF] (hpS A m v l T) K := by
 have hr' := hr
 unfold roomy at hr'
 have h2 : 2 < T.length + 1 + 1 + 1 := by omega
 have e1 : IntKind.i64.wrap ((b : Int) - 1) = ((b - 1 : Nat) : Int) := by rw [w64 (by omega) (by omega)]; omega
 unfold aL.K aL.H
 simp only [hpS, hTn _ _, SkT.norm, h2, e1, eH (show a < 4611686018427387904 by omega), aA, Int.toNat_natCast, iU, iR, jR, iN, List.length_set, aA, gq, reduceEq, reduceLT, reduceLE, implies_true, reduceCtorEq, if_true, if_false, go_sem, reduceEqDiff, Nat.reduceLT, reduceAdd, reduceSub, reduceLeDiff, reduceReplicate, reduceToNat] at hK ⊢
 refine ⟨⟨by omega, by omega⟩, by omega, ⟨by omega, by omega⟩, by omega, ⟨by omega, by omega⟩, by omega, ⟨by omega, by omega⟩, by omega, ?_⟩
 have hp1 : SegP a b l (gS l a p) := SegP.swap (by omega) (by omega) (by omega) (by omega) (by omega)
 generalize gS l a p = l1 at *
 have hl1 := hp1.len
 refine aAR _ rfl rfl A m v l1 T n a (b - 1) (a + 1) hTn (by omega) (by omega) (by omega) (by omega) hr _ _ fun i hi1 hi2 hi3 hi4 => ?_
 simp only [hTn _ _, SkT.norm, h2, aA, gq, reduceEq, reduceLT, reduceLE, implies_true, reduceCtorEq, if_true, if_false, go_sem, reduceEqDiff, Nat.reduceLT, reduceAdd, reduceSub, reduceLeDiff, reduceReplicate, reduceToNat]
 refine yI _ rfl rfl A m v l1 T n a i (b - 1) hTn (by omega) (by omega) (by omega) (by omega) hr _ _ fun j hj1 hj2 hj3 hj4 => ?_
 have hS : wT a b i j l1 := ⟨hi1, hj2, by omega, by omega, fun k k1 k2 => hi3 k (by omega) k2, fun k k1 k2 => hj3 k k1 (by omega)⟩
 have e2 : j ≠ 0 → IntKind.i64.wrap ((j : Int) - 1) = ((j - 1 : Nat) : Int) := fun h => by rw [w64 (by omega) (by omega)]; omega
 simp only [hTn _ _, SkT.norm, h2, eH (show i < 4611686018427387904 by omega), aA, Int.toNat_natCast, iU, iR, jR, iN, List.length_set, aA, gq, reduceEq, reduceLT, reduceLE, implies_true, reduceCtorEq, if_true, if_false, go_sem, reduceEqDiff, Nat.reduceLT, reduceAdd, reduceSub, reduceLeDiff, reduceReplicate, reduceToNat]
 refine ⟨fun hgt => ⟨⟨by omega, by omega⟩, by omega, ⟨by omega, by omega⟩, by omega, ⟨by omega, by omega⟩, by omega, ⟨by omega, by omega⟩, by omega, ?_⟩, fun hle => ⟨⟨by omega, by omega⟩, by omega, ⟨by omega, by omega⟩, by omega, ⟨by omega, by omega⟩, by omega, ⟨by omega, by omega⟩, by omega, ?_⟩⟩
 · rw [aDG (by omega) (by omega)]
   exact hK _ j true (hp1.trans (SegP.swap (by omega) (by omega) (by omega) (by omega) (by omega))) (by omega) (by omega) (hS.fin (by omega) (by omega))
 have hij : i < j := by
   rcases Nat.lt_or_ge i j with h | h
   · exact h
   · exfalso
     obtain rfl : i = j := by omega
     have := hj4 (Nat.le_refl _)
     have h' := hi4 (by omega)
     unfold leB at h'
     rw [this] at h'; cases h'
 have hS2 := hS.swap hij (by omega) (hi4 (by omega)) (rD (hj4 (by omega)))
 have hp2 : SegP a b l (gS l1 i j) := hp1.trans (SegP.swap (by omega) (by omega) (by omega) (by omega) (by omega))
 generalize gS l1 i j = l2 at *
 rw [e2 (by omega)]
 unfold aL.L3
 refine oL (σ := List RecT × Nat × Nat) (fun s => .int .i64 s.2.1) (fun s => .int .i64 s.2.2) (fun s => .box A.V :: .map (.sb m) :: .row .own v (.recs s.1) :: T) (fun s => s.2.2) (fun s => SegP a b l s.1 ∧ wT a b s.2.1 s.2.2 s.1) (l2, i + 1, j - 1) rfl rfl ⟨hp2, hS2⟩ ?_
 rintro I back ⟨l3, i3, j3⟩ ⟨hp3, q1, q2, q3, q4, q5, q6⟩
 simp only at hp3 q1 q2 q3 q4 q5 q6 ⊢
 have hl3 := hp3.len
 simp only [hTn _ _, SkT.norm, h2, aA, aGP, aGQ, aA, gq, reduceEq, reduceLT, reduceLE, implies_true, reduceCtorEq, if_true, if_false, go_sem, reduceEqDiff, Nat.reduceLT, reduceAdd, reduceSub, reduceLeDiff, reduceReplicate, reduceToNat]
 refine aAR _ rfl rfl A m v l3 T n a j3 i3 hTn (by omega) (by omega) (by omega) (by omega) hr _ _ fun i4 g1 g2 g3 g4 => ?_
 simp only [hTn _ _, SkT.norm, h2, aA, gq, reduceEq, reduceLT, reduceLE, implies_true, reduceCtorEq, if_true, if_false, go_sem, reduceEqDiff, Nat.reduceLT, reduceAdd, reduceSub, reduceLeDiff, reduceReplicate, reduceToNat]
 refine yI _ rfl rfl A m v l3 T n a i4 j3 hTn (by omega) (by omega) (by omega) (by omega) hr _ _ fun j4 k1 k2 k3 k4 => ?_
 have hS4 : wT a b i4 j4 l3 := ⟨by omega, k2, by omega, by omega, fun k z1 z2 => by
   by_cases e : k < i3
   · exact q5 k z1 e
   · exact g3 k (by omega) z2, fun k z1 z2 => by
   by_cases e : j3 < k
   · exact q6 k e z2
   · exact k3 k z1 (by omega)⟩
 have e4 : j4 ≠ 0 → IntKind.i64.wrap ((j4 : Int) - 1) = ((j4 - 1 : Nat) : Int) := fun h => by rw [w64 (by omega) (by omega)]; omega
 simp only [hTn _ _, SkT.norm, h2, eH (show i4 < 4611686018427387904 by omega), aA, Int.toNat_natCast, iU, iR, jR, iN, List.length_set, aA, gq, reduceEq, reduceLT, reduceLE, implies_true, reduceCtorEq, if_true, if_false, go_sem, reduceEqDiff, Nat.reduceLT, reduceAdd, reduceSub, reduceLeDiff, reduceReplicate, reduceToNat]
 refine ⟨fun hgt => ⟨⟨by omega, by omega⟩, by omega, ⟨by omega, by omega⟩, by omega, ⟨by omega, by omega⟩, by omega, ⟨by omega, by omega⟩, by omega, ?_⟩, fun hle => ⟨⟨by omega, by omega⟩, by omega, ⟨by omega, by omega⟩, by omega, ⟨by omega, by omega⟩, by omega, ⟨by omega, by omega⟩, by omega, ?_⟩⟩
 · rw [aDG (by omega) (by omega)]
   exact hK _ j4 false (hp3.trans (SegP.swap (by omega) (by omega) (by omega) (by omega) (by omega))) (by omega) (by omega) (hS4.fin (by omega) (by omega))
 · have hij4 : i4 < j4 := by
     rcases Nat.lt_or_ge i4 j4 with h | h
     · exact h
     · exfalso
       obtain rfl : i4 = j4 := by omega
       have := k4 (Nat.le_refl _)
       have h' := g4 (by omega)
       unfold leB at h'
       rw [this] at h'; cases h'
   rw [e4 (by omega)]
   exact back (gS l3 i4 j4, i4 + 1, j4 - 1) (by simp only; omega) rfl rfl ⟨hp3.trans (SegP.swap (by omega) (by omega) (by omega) (by omega) (by omega)), hS4.swap hij4 (by omega) (g4 (by omega)) (rD (k4 (by omega)))⟩
end Lam
namespace Lam
open Go Go.Proofs
def aZ.K : Con := fun args h K => match args with
 | [a0, a1, a2, a3] => aZ.H (ctx [] [] aZ.loops) a0 a1 a2 a3 h K
 | _ => False
theorem aZ.spec : dH Tryz.prog 130 aZ.K := by
 refine dH.of (bR (F := []) (S := []) (by simp) (by simp) aZ.loops) aZ.at aZ.nm aZ.bd ?_
 intro args h K hC
 unfold aZ.K at hC
 split at hC
 · rw [aZ.eq]; exact hC
 · exact hC.elim
theorem aKZ (A : SkT) (m : aY → Bool) (v : Nat) (l : List RecT) (T : List AObj) (hTn : OkT T) (n a b : Nat) (hn : n = l.length) (hab : a < b) (hbn : b ≤ n) (hr : roomy n) (K : AOut → List AObj → Prop)
   (hK : ∀ l', SegP a b l l' → K (.ret (.tup [])) (hpS A m v l' T)) :
   aZ.K [.sref false 2 v 0 n, .int .i64 a, .int .i64 b, hitF] (hpS A m v l T) K := by
 have hr' := hr
 unfold roomy at hr'
 have h2 : 2 < T.length + 1 + 1 + 1 := by omega
 have e1 : IntKind.i64.wrap ((b : Int) - 1) = ((b - 1 : Nat) : Int) := by rw [w64 (by omega) (by omega)]; omega
 unfold aZ.K aZ.H
 simp only [hpS, hTn _ _, SkT.norm, h2, e1, aA, gq, reduceEq, reduceLT, reduceLE, implies_true, reduceCtorEq, if_true, if_false, go_sem, reduceEqDiff, Nat.reduceLT, reduceAdd, reduceSub, reduceLeDiff, reduceReplicate, reduceToNat] at hK ⊢
 unfold aZ.L1
 refine oL (σ := List RecT × Nat × Nat) (fun s => .int .i64 s.2.1) (fun s => .int .i64 s.2.2) (fun s => .box A.V :: .map (.sb m) :: .row .own v (.recs s.1) :: T) (fun s => s.2.2) (fun s => a ≤ s.2.1 ∧ s.2.2 < b ∧ s.2.1 ≤ n ∧ SegP a b l s.1) (l, a, b - 1) rfl rfl ⟨Nat.le_refl _, by simp only; omega, by simp only; omega, SegP.refl⟩ ?_
 rintro I back ⟨l1, i, j⟩ ⟨hi, hj, hin, hp⟩
 simp only at hi hj hin hp ⊢
 have hl1 := hp.len
 by_cases hij : i < j
 · have e2 : IntKind.i64.wrap ((j : Int) - 1) = ((j - 1 : Nat) : Int) := by rw [w64 (by omega) (by omega)]; omega
   have d1 : decide ((i : Int) < (j : Int)) = true := decide_eq_true (by omega)
   simp only [hTn _ _, SkT.norm, h2, aA, d1, e2, eH (show i < 4611686018427387904 by omega), Int.toNat_natCast, iU, jR, iN, List.length_set, aA, gq, reduceEq, reduceLT, reduceLE, implies_true, reduceCtorEq, if_true, if_false, go_sem, reduceEqDiff, Nat.reduceLT, reduceAdd, reduceSub, reduceLeDiff, reduceReplicate, reduceToNat]
   exact ⟨⟨by omega, by omega⟩, by omega, ⟨by omega, by omega⟩, by omega, ⟨by omega, by omega⟩, by omega, ⟨by omega, by omega⟩, by omega, back (gS l1 i j, i + 1, j - 1) (by simp only; omega) rfl rfl ⟨by simp only; omega, by simp only; omega, by simp only; omega, hp.trans (SegP.swap (by omega) (by omega) (by omega) (by omega) (by omega))⟩⟩
 · have d1 : decide ((i : Int) < (j : Int)) = false := decide_eq_false (by omega)
   simp only [hTn _ _, SkT.norm, h2, aA, d1, aA, gq, reduceEq, reduceLT, reduceLE, implies_true, reduceCtorEq, if_true, if_false, go_sem, reduceEqDiff, Nat.reduceLT, reduceAdd, reduceSub, reduceLeDiff, reduceReplicate, reduceToNat]
   exact hK l1 hp
def bG.K : Con := fun args h K => match args with
 | [a0, a1, a2, a3, a4] => bG.H (ctx [(109, bY.C)] [] bG.loops) a0 a1 a2 a3 a4 h K
 | _ => False
theorem bG.spec : dH Tryz.prog 142 bG.K := by
 refine dH.of (bR (F := [(109, bY.C)]) (S := []) (by simpa using bY.spec) (by simp) bG.loops) bG.at bG.nm bG.bd ?_
 intro args h K hC
 unfold bG.K at hC
 split at hC
 · rw [bG.eq]; exact hC
 · exact hC.elim
theorem aLa (A : SkT) (m : aY → Bool) (v : Nat) (l : List RecT) (T : List AObj) (hTn : OkT T) (n lo hi a : Nat) (hn : n = l.length) (hlo : lo ≤ n) (hah : a + hi ≤ n) (hr : roomy n) (hh : qN a (lo + 1) hi l) (K : AOut → List AObj → Prop)
   (hK : ∀ l', SegP a (a + hi) l l' → qN a lo hi l' → K (.ret (.tup [])) (hpS A m v l' T)) :
   bG.K [.sref false 2 v 0 n, .int .i64 lo, .int .i64 hi, .int .i64 a, hitF] (hpS A m v l T) K := by
 have hr' := hr
 unfold roomy at hr'
 have h2 : 2 < T.length + 1 + 1 + 1 := by omega
 unfold bG.K bG.H
 simp only [hpS, hTn _ _, SkT.norm, h2, aA, gq, reduceEq, reduceLT, reduceLE, implies_true, reduceCtorEq, if_true, if_false, go_sem, reduceEqDiff, Nat.reduceLT, reduceAdd, reduceSub, reduceLeDiff, reduceReplicate, reduceToNat] at hK ⊢
 unfold bG.L1
 refine kV (σ := List RecT × Nat) (fun s => .int .i64 s.2) (fun s => .box A.V :: .map (.sb m) :: .row .own v (.recs s.1) :: T) (fun s => n + 1 - s.2) (fun s => lo ≤ s.2 ∧ s.2 ≤ n ∧ SegP a (a + hi) l s.1 ∧ uT a lo s.2 hi s.1) (l, lo) rfl rfl ⟨Nat.le_refl _, hlo, SegP.refl, uT.begin hh⟩ ?_
 rintro I back ⟨l1, r⟩ ⟨hr1, hr2, hp, hs⟩
 simp only at hr1 hr2 hp hs ⊢
 have hl1 := hp.len
 have e1 : IntKind.i64.wrap (2 * (r : Int)) = ((2 * r : Nat) : Int) := by rw [w64 (by omega) (by omega)]; omega
 have e2 : ∀ k : Nat, k ≤ 4 * n + 4 → IntKind.i64.wrap ((a : Int) + (k : Int)) = ((a + k : Nat) : Int) := fun k hk => by rw [w64 (by omega) (by omega)]; omega
 simp only [hTn _ _, SkT.norm, h2, aA, e1, eH (show 2 * r < 4611686018427387904 by omega), eH (show 2 * r + 1 < 4611686018427387904 by omega), e2 (2 * r + 1) (by omega), e2 r (by omega), eH (show a + (2 * r + 1) < 4611686018427387904 by omega), aA, gq, reduceEq, reduceLT, reduceLE, implies_true, reduceCtorEq, if_true, if_false, go_sem, reduceEqDiff, Nat.reduceLT, reduceAdd, reduceSub, reduceLeDiff, reduceReplicate, reduceToNat]
 refine ⟨fun hge => hK l1 hp (hs.done fun c hc hch => by omega), fun hlt => ?_⟩
 have e3 : ∀ c : Nat, c ≤ 2 * r + 2 → IntKind.i64.wrap ((a : Int) + (c : Int)) = ((a + c : Nat) : Int) := fun c hc => e2 c (by omega)
 have hfin : ∀ c : Nat, (c = 2 * r + 1 ∨ c = 2 * r + 2) → c < hi → (∀ d, (d = 2 * r + 1 ∨ d = 2 * r + 2) → d < hi → leB (kyL l1 (a + d)) (kyL l1 (a + c))) → ltB (kyL l1 (a + r)) (kyL l1 (a + c)) = true →
     ∃ m_1, m_1 < n + 1 - r ∧ I m_1 [.int .i64 c] (.box A.V :: .map (.sb m) :: .row .own v (.recs (gS l1 (a + r) (a + c))) :: T) := fun c h1 h3 h4 h5 =>
   back (gS l1 (a + r) (a + c), c) (by simp only; omega) rfl rfl ⟨by simp only; omega, by simp only; omega, hp.trans (SegP.swap (by omega) (by omega) (by omega) (by omega) (by omega)), hs.step hr1 h1 h3 (by omega) (rD h5) h4⟩
 have hstop : ∀ c : Nat, (c = 2 * r + 1 ∨ c = 2 * r + 2) → c < hi → (∀ d, (d = 2 * r + 1 ∨ d = 2 * r + 2) → d < hi → leB (kyL l1 (a + d)) (kyL l1 (a + c))) → ltB (kyL l1 (a + r)) (kyL l1 (a + c)) = false → qN a lo hi l1 := fun c h1 h3 h4 h5 =>
   hs.done fun d q1 q2 => lV (h4 d q1 q2) h5
 by_cases h22 : 2 * r + 2 < hi
 rotate_left
 · have d1 : decide (((2 * r + 1 + 1 : Nat) : Int) < (hi : Int)) = false := decide_eq_false (by omega)
   have hle : ∀ d, (d = 2 * r + 1 ∨ d = 2 * r + 2) → d < hi → leB (kyL l1 (a + d)) (kyL l1 (a + (2 * r + 1))) := fun d q1 q2 => by
     obtain rfl : d = 2 * r + 1 := by omega
     exact zH _
   cases hlt2 : ltB (kyL l1 (a + r)) (kyL l1 (a + (2 * r + 1))) with
   | false =>
     simp only [hTn _ _, SkT.norm, h2, aA, d1, hlt2, e3 (2 * r + 1) (by omega), Int.toNat_natCast, bY.C, iU, iR, jI, jR, iN, List.length_set, aA, gq, reduceEq, reduceLT, reduceLE, implies_true, reduceCtorEq, if_true, if_false, go_sem, reduceEqDiff, Nat.reduceLT, reduceAdd, reduceSub, reduceLeDiff, reduceReplicate, reduceToNat]
     exact ⟨⟨by omega, by omega⟩, by omega, ⟨by omega, by omega⟩, by omega, hK l1 hp (hstop _ (.inl rfl) (by omega) hle hlt2)⟩
   | true =>
     simp only [hTn _ _, SkT.norm, h2, aA, d1, hlt2, e3 (2 * r + 1) (by omega), Int.toNat_natCast, bY.C, iU, iR, jI, jR, iN, List.length_set, aA, gq, reduceEq, reduceLT, reduceLE, implies_true, reduceCtorEq, if_true, if_false, go_sem, reduceEqDiff, Nat.reduceLT, reduceAdd, reduceSub, reduceLeDiff, reduceReplicate, reduceToNat]
     exact ⟨⟨by omega, by omega⟩, by omega, ⟨by omega, by omega⟩, by omega, ⟨by omega, by omega⟩, by omega, ⟨by omega, by omega⟩, by omega, ⟨by omega, by omega⟩, by omega, ⟨by omega, by omega⟩, by omega, hfin _ (.inl rfl) (by omega) hle hlt2⟩
 · have d1 : decide (((2 * r + 1 + 1 : Nat) : Int) < (hi : Int)) = true := decide_eq_true (by omega)
   cases hch : ltB (kyL l1 (a + (2 * r + 1))) (kyL l1 (a + (2 * r + 1) + 1)) with
   | false =>
     have hle : ∀ d, (d = 2 * r + 1 ∨ d = 2 * r + 2) → d < hi → leB (kyL l1 (a + d)) (kyL l1 (a + (2 * r + 1))) := fun d q1 q2 => by
       rcases q1 with rfl | rfl
       · exact zH _
       · exact hch
     cases hlt2 : ltB (kyL l1 (a + r)) (kyL l1 (a + (2 * r + 1))) with
     | false =>
       simp only [hTn _ _, SkT.norm, h2, aA, d1, hch, hlt2, e3 (2 * r + 1) (by omega), Int.toNat_natCast, bY.C, iU, iR, jI, jR, iN, List.length_set, aA, gq, reduceEq, reduceLT, reduceLE, implies_true, reduceCtorEq, if_true, if_false, go_sem, reduceEqDiff, Nat.reduceLT, reduceAdd, reduceSub, reduceLeDiff, reduceReplicate, reduceToNat]
       exact ⟨⟨by omega, by omega⟩, by omega, ⟨by omega, by omega⟩, by omega, ⟨by omega, by omega⟩, by omega, ⟨by omega, by omega⟩, by omega, hK l1 hp (hstop _ (.inl rfl) (by omega) hle hlt2)⟩
     | true =>
       simp only [hTn _ _, SkT.norm, h2, aA, d1, hch, hlt2, e3 (2 * r + 1) (by omega), Int.toNat_natCast, bY.C, iU, iR, jI, jR, iN, List.length_set, aA, gq, reduceEq, reduceLT, reduceLE, implies_true, reduceCtorEq, if_true, if_false, go_sem, reduceEqDiff, Nat.reduceLT, reduceAdd, reduceSub, reduceLeDiff, reduceReplicate, reduceToNat]
       exact ⟨⟨by omega, by omega⟩, by omega, ⟨by omega, by omega⟩, by omega, ⟨by omega, by omega⟩, by omega, ⟨by omega, by omega⟩, by omega, ⟨by omega, by omega⟩, by omega, ⟨by omega, by omega⟩, by omega, ⟨by omega, by omega⟩, by omega, ⟨by omega, by omega⟩, by omega, hfin _ (.inl rfl) (by omega) hle hlt2⟩
   | true =>
     have hle : ∀ d, (d = 2 * r + 1 ∨ d = 2 * r + 2) → d < hi → leB (kyL l1 (a + d)) (kyL l1 (a + (2 * r + 1 + 1))) := fun d q1 q2 => by
       rcases q1 with rfl | rfl
       · exact rD hch
       · exact zH _
     cases hlt2 : ltB (kyL l1 (a + r)) (kyL l1 (a + (2 * r + 1 + 1))) with
     | false =>
       simp only [hTn _ _, SkT.norm, h2, aA, d1, hch, hlt2, e3 (2 * r + 1 + 1) (by omega), Int.toNat_natCast, bY.C, iU, iR, jI, jR, iN, List.length_set, aA, gq, reduceEq, reduceLT, reduceLE, implies_true, reduceCtorEq, if_true, if_false, go_sem, reduceEqDiff, Nat.reduceLT, reduceAdd, reduceSub, reduceLeDiff, reduceReplicate, reduceToNat]
       exact ⟨⟨by omega, by omega⟩, by omega, ⟨by omega, by omega⟩, by omega, ⟨by omega, by omega⟩, by omega, ⟨by omega, by omega⟩, by omega, hK l1 hp (hstop _ (.inr rfl) (by omega) hle hlt2)⟩
     | true =>
       simp only [hTn _ _, SkT.norm, h2, aA, d1, hch, hlt2, e3 (2 * r + 1 + 1) (by omega), Int.toNat_natCast, bY.C, iU, iR, jI, jR, iN, List.length_set, aA, gq, reduceEq, reduceLT, reduceLE, implies_true, reduceCtorEq, if_true, if_false, go_sem, reduceEqDiff, Nat.reduceLT, reduceAdd, reduceSub, reduceLeDiff, reduceReplicate, reduceToNat]
       exact ⟨⟨by omega, by omega⟩, by omega, ⟨by omega, by omega⟩, by omega, ⟨by omega, by omega⟩, by omega, ⟨by omega, by omega⟩, by omega, ⟨by omega, by omega⟩, by omega, ⟨by omega, by omega⟩, by omega, ⟨by omega, by omega⟩, by omega, ⟨by omega, by omega⟩, by omega, hfin _ (.inr rfl) (by omega) hle hlt2⟩
def bD.K : Con := fun args h K => match args with
 | [a0, a1, a2, a3] => bD.H (ctx [] [(142, bG.K)] bD.loops) a0 a1 a2 a3 h K
 | _ => False
theorem bD.spec : dH Tryz.prog 127 bD.K := by
 refine dH.of (bR (F := []) (S := [(142, bG.K)]) (by simp) (by simpa using bG.spec) bD.loops) bD.at bD.nm bD.bd ?_
 intro args h K hC
 unfold bD.K at hC
 split at hC
 · rw [bD.eq]; exact hC
 · exact hC.elim
theorem aOa (A : SkT) (m : aY → Bool) (v : Nat) (l : List RecT) (T : List AObj) (hTn : OkT T) (n a b : Nat) (hn : n = l.length) (hab : a < b) (hbn : b ≤ n) (hr : roomy n) (K : AOut → List AObj → Prop)
   (hK : ∀ l', SegP a b l l' → SegS a b l' → K (.ret (.tup [])) (hpS A m v l' T)) :
   bD.K [.sref false 2 v 0 n, .int .i64 a, .int .i64 b, hitF] (hpS A m v l T) K := by
 have hr' := hr
 unfold roomy at hr'
 have h2 : 2 < T.length + 1 + 1 + 1 := by omega
 have e0 : IntKind.i64.wrap ((b : Int) - a) = ((b - a : Nat) : Int) := by rw [w64 (by omega) (by omega)]; omega
 have e1 : IntKind.i64.wrap (((b - a : Nat) : Int) - 1) = ((b - a - 1 : Nat) : Int) := by rw [w64 (by omega) (by omega)]; omega
 have e2 : IntKind.i64.wrap (((b - a - 1 : Nat) : Int).tdiv 2) = (((b - a - 1) / 2 + 1 : Nat) : Int) - 1 := by
   rw [Int.tdiv_eq_ediv_of_nonneg (by omega), w64 (by omega) (by omega)]; omega
 unfold bD.K bD.H
 simp only [hpS, hTn _ _, SkT.norm, h2, e0, e1, e2, aA, gq, reduceEq, reduceLT, reduceLE, implies_true, reduceCtorEq, if_true, if_false, go_sem, reduceEqDiff, Nat.reduceLT, reduceAdd, reduceSub, reduceLeDiff, reduceReplicate, reduceToNat] at hK ⊢
 unfold bD.L1
 refine kV (σ := List RecT × Nat) (fun s => .int .i64 ((s.2 : Int) - 1)) (fun s => .box A.V :: .map (.sb m) :: .row .own v (.recs s.1) :: T) (fun s => s.2) (fun s => s.2 ≤ n ∧ SegP a b l s.1 ∧ qN a s.2 (b - a) s.1) (l, (b - a - 1) / 2 + 1) rfl rfl ⟨by simp only; omega, SegP.refl, fun i c q1 q2 q3 => by simp only at q1; omega⟩ ?_
 rintro I back ⟨l1, k⟩ ⟨hk, hp, hh⟩
 simp only at hk hp hh ⊢
 have hl1 := hp.len
 have e3 : IntKind.i64.wrap ((k : Int) - 1 - 1) = ((k - 1 : Nat) : Int) - 1 ∨ k = 0 := by
   rcases Nat.eq_zero_or_pos k with h | h
   · exact .inr h
   · left; rw [w64 (by omega) (by omega)]; omega
 by_cases hk0 : k = 0
 rotate_left
 · have e3 := e3.resolve_right hk0
   have d1 : decide ((0 : Int) ≤ (k : Int) - 1) = true := decide_eq_true (by omega)
   have e4 : (k : Int) - 1 = ((k - 1 : Nat) : Int) := by omega
   rw [e4] at e3 d1 ⊢
   simp only [hTn _ _, SkT.norm, h2, aA, d1, aA, gq, reduceEq, reduceLT, reduceLE, implies_true, reduceCtorEq, if_true, if_false, go_sem, reduceEqDiff, Nat.reduceLT, reduceAdd, reduceSub, reduceLeDiff, reduceReplicate, reduceToNat]
   refine aLa A m v l1 T hTn n (k - 1) (b - a) a (by omega) (by omega) (by omega) hr (by rw [show k - 1 + 1 = k by omega]; exact hh) _ fun l2 p2 h2' => ?_
   simp only [hpS, hTn _ _, SkT.norm, h2, e3, aA, gq, reduceEq, reduceLT, reduceLE, implies_true, reduceCtorEq, if_true, if_false, go_sem, reduceEqDiff, Nat.reduceLT, reduceAdd, reduceSub, reduceLeDiff, reduceReplicate, reduceToNat]
   exact back (l2, k - 1) (by simp only; omega) rfl rfl ⟨by simp only; omega, hp.trans (p2.mono (Nat.le_refl _) (by omega)), h2'⟩
 subst hk0
 have e5 : IntKind.i64.wrap (((b - a : Nat) : Int) - 1) = ((b - a : Nat) : Int) - 1 := w64 (by omega) (by omega)
 simp only [hTn _ _, SkT.norm, h2, aA, e5, aA, gq, reduceEq, reduceLT, reduceLE, implies_true, reduceCtorEq, if_true, if_false, go_sem, reduceEqDiff, Nat.reduceLT, reduceAdd, reduceSub, reduceLeDiff, reduceReplicate, reduceToNat]
 refine ⟨fun h => absurd h (by omega), fun _ => ?_⟩
 unfold bD.L2
 refine kV (σ := List RecT × Nat) (fun s => .int .i64 ((s.2 : Int) - 1)) (fun s => .box A.V :: .map (.sb m) :: .row .own v (.recs s.1) :: T) (fun s => s.2) (fun s => s.2 ≤ b - a ∧ SegP a b l s.1 ∧ qO a s.2 b s.1) (l1, b - a) rfl rfl ⟨Nat.le_refl _, hp, qO.begin (by omega) hh⟩ ?_
 rintro I2 back2 ⟨l2, k⟩ ⟨hk, hp2, hd⟩
 simp only at hk hp2 hd ⊢
 have hl2 := hp2.len
 by_cases hk0 : k = 0
 · subst hk0
   simp only [hTn _ _, SkT.norm, h2, aA, aA, gq, reduceEq, reduceLT, reduceLE, implies_true, reduceCtorEq, if_true, if_false, go_sem, reduceEqDiff, Nat.reduceLT, reduceAdd, reduceSub, reduceLeDiff, reduceReplicate, reduceToNat]
   exact ⟨fun h => absurd h (by omega), fun _ => hK l2 hp2 hd.fin⟩
 · have d1 : decide ((0 : Int) ≤ (k : Int) - 1) = true := decide_eq_true (by omega)
   have e3 : IntKind.i64.wrap ((k : Int) - 1 - 1) = ((k - 1 : Nat) : Int) - 1 := by rw [w64 (by omega) (by omega)]; omega
   have e4 : (k : Int) - 1 = ((k - 1 : Nat) : Int) := by omega
   have e6 : IntKind.i64.wrap ((a : Int) + ((k - 1 : Nat) : Int)) = ((a + (k - 1) : Nat) : Int) := by rw [w64 (by omega) (by omega)]; omega
   rw [e4] at e3 d1 ⊢
   have hd' : qO a (k - 1 + 1) b l2 := by rw [show k - 1 + 1 = k by omega]; exact hd
   simp only [hTn _ _, SkT.norm, h2, aA, d1, e6, Int.toNat_natCast, iU, jR, iN, List.length_set, aA, gq, reduceEq, reduceLT, reduceLE, implies_true, reduceCtorEq, if_true, if_false, go_sem, reduceEqDiff, Nat.reduceLT, reduceAdd, reduceSub, reduceLeDiff, reduceReplicate, reduceToNat]
   refine ⟨⟨by omega, by omega⟩, by omega, ⟨by omega, by omega⟩, by omega, ⟨by omega, by omega⟩, by omega, ⟨by omega, by omega⟩, by omega, ?_⟩
   refine aLa A m v (gS l2 a (a + (k - 1))) T hTn n 0 (k - 1) a (by rw [nN]; omega) (Nat.zero_le _) (by omega) hr (hd'.heap (by omega) (by omega)) _ fun l3 p3 h3 => ?_
   simp only [hpS, hTn _ _, SkT.norm, h2, e3, aA, gq, reduceEq, reduceLT, reduceLE, implies_true, reduceCtorEq, if_true, if_false, go_sem, reduceEqDiff, Nat.reduceLT, reduceAdd, reduceSub, reduceLeDiff, reduceReplicate, reduceToNat]
   exact back2 (l3, k - 1) (by simp only; omega) rfl rfl ⟨by simp only; omega, hp2.trans ((SegP.swap (Nat.le_refl _) (by omega) (by omega) (by omega) (by omega)).trans (p3.mono (Nat.le_refl _) (by omega))), hd'.next (by omega) (by omega) p3 h3⟩
theorem aOb {a b : Int} (h0 : 0 ≤ b) (h1 : b < 18446744073709551616) : 0 ≤ andI .u64 a b ∧ andI .u64 a b ≤ b := by
 unfold andI
 have h := aKD ((BitVec.ofInt IntKind.u64.bits a &&& BitVec.ofInt IntKind.u64.bits b).toNat : Int)
 refine ⟨h.1, ?_⟩
 have e : (BitVec.ofInt IntKind.u64.bits b).toNat = b.toNat := by
   show (BitVec.ofInt 64 b).toNat = _
   rw [BitVec.toNat_ofInt]; omega
 have hle : (BitVec.ofInt IntKind.u64.bits a &&& BitVec.ofInt IntKind.u64.bits b).toNat ≤ b.toNat := by
   rw [BitVec.toNat_and, e]; exact Nat.and_le_right
 rw [aAy (by omega) (by omega)]
 omega
def cL.K : Con := fun args h K => match args with
 | [a0] => cL.H (ctx [] [] cL.loops) a0 h K
 | _ => False
theorem cL.spec : dH Tryz.prog 144 cL.K := by
 refine dH.of (bR (F := []) (S := []) (by simp) (by simp) cL.loops) cL.at cL.nm cL.bd ?_
 intro args h K hC
 unfold cL.K at hC
 split at hC
 · rw [cL.eq]; exact hC
 · exact hC.elim
theorem aOc (A : SkT) (m : aY → Bool) (v : Nat) (l : List RecT) (T : List AObj) (hTn : OkT T) (x : Int) (K : AOut → List AObj → Prop)
   (hK : ∀ y : Int, K (.ret (.int .u64 y)) (hpS A m v l (T ++ [.box (.int .u64 y)]))) :
   cL.K [.ptr (T.length + 1 + 1 + 1) []] (hpS A m v l (T ++ [.box (.int .u64 x)])) K := by
 unfold cL.K cL.H
 simp only [hpS, qW, zI, List.map_cons, List.map_nil, aA, gq, reduceEq, reduceLT, reduceLE, implies_true, reduceCtorEq, if_true, if_false, go_sem, reduceEqDiff, Nat.reduceLT, reduceAdd, reduceSub, reduceLeDiff, reduceReplicate, reduceToNat] at hK ⊢
 exact hK _
end Lam
namespace Lam
open Go Go.Proofs
def lenN (n : Nat) : Nat := if n = 0 then 0 else if n < 2 then 1 else if n < 4 then 2 else if n < 8 then 3 else if n < 16 then 4 else if n < 32 then 5 else if n < 64 then 6 else if n < 128 then 7 else 8
def aMI : aY := [0, 1, 2, 2, 3, 3, 3, 3, 4, 4, 4, 4, 4, 4, 4, 4, 5, 5, 5, 5, 5, 5, 5, 5, 5, 5, 5, 5, 5, 5, 5, 5, 6, 6, 6, 6, 6, 6, 6, 6, 6, 6, 6, 6, 6, 6, 6, 6, 6, 6, 6, 6, 6, 6, 6, 6, 6, 6, 6, 6, 6, 6, 6, 6, 7, 7, 7, 7, 7, 7, 7, 7, 7, 7, 7, 7, 7, 7, 7, 7, 7, 7, 7, 7, 7, 7, 7, 7, 7, 7, 7, 7, 7, 7, 7, 7, 7, 7, 7, 7, 7, 7, 7, 7, 7, 7, 7, 7, 7, 7, 7, 7, 7, 7, 7, 7, 7, 7, 7, 7, 7, 7, 7, 7, 7, 7, 7, 7, 8, 8, 8, 8, 8, 8, 8, 8, 8, 8, 8, 8, 8, 8, 8, 8, 8, 8, 8, 8, 8, 8, 8, 8, 8, 8, 8, 8, 8, 8, 8, 8, 8, 8, 8, 8, 8, 8, 8, 8, 8, 8, 8, 8, 8, 8, 8, 8, 8, 8, 8, 8, 8, 8, 8, 8, 8, 8, 8, 8, 8, 8, 8, 8, 8, 8, 8, 8, 8, 8, 8, 8, 8, 8, 8, 8, 8, 8, 8, 8, 8, 8, 8, 8, 8, 8, 8, 8, 8, 8, 8, 8, 8, 8, 8, 8, 8, 8, 8, 8, 8, 8, 8, 8, 8, 8, 8, 8, 8, 8, 8, 8, 8, 8, 8, 8, 8, 8, 8, 8, 8, 8, 8, 8, 8, 8, 8, 8]
theorem aMf : ∀ k, k < 256 → (aMI.getD k 0).toNat = lenN k := by decide +kernel
theorem aMg : ∀ k, k < 256 → 8 ≤ k → 1 ≤ 2 ^ lenN k ∧ 2 ^ lenN k ≤ 2 * k ∧ lenN k ≤ 8 := by decide +kernel
theorem aIu : ∀ k, k < 256 → lenN k ≤ 8 := by decide +kernel
def dP.C : aE
 | [.int .u64 n] => some (false, pD (0 ≤ n ∧ n < 256) (.int .i64 (lenN n.toNat)))
 | _ => none
theorem dP.spec : bI Tryz.prog 135 dP.C := by
 refine bI.of (bR (F := []) (S := []) (by simp) (by simp) dP.loops) dP.at dP.nm dP.bd ?_
 intro vs b S v news e hS
 unfold dP.C at e
 split at e
 rotate_left
 · cases e
 cases e
 rw [dP.eq]
 unfold dP.H
 simp (maxSteps := 4000000) only [go_sem, reduceEqDiff, Nat.reduceLT, reduceAdd, reduceSub, reduceLeDiff, reduceReplicate, reduceToNat]
 rename_i n
 have d1 : decide ((4294967296 : Int) ≤ n) = false := decide_eq_false (by omega)
 have d2 : decide ((65536 : Int) ≤ n) = false := decide_eq_false (by omega)
 have d3 : decide ((256 : Int) ≤ n) = false := decide_eq_false (by omega)
 have g1 : ¬ (4294967296 : Int) ≤ n := by omega
 have g2 : IntKind.u8.wrap n = n := by simp [IntKind.wrap, IntKind.bits, IntKind.signed]; omega
 simp only [g1, d1, d2, d3, g2, aA, aA, gq, reduceEq, reduceLT, reduceLE, implies_true, reduceCtorEq, if_true, if_false, go_sem, reduceEqDiff, Nat.reduceLT, reduceAdd, reduceSub, reduceLeDiff, reduceReplicate, reduceToNat]
 refine ⟨hS, ?_⟩
 show Post false (.int .i64 (lenN n.toNat)) [] (.ret (.int .i64 (IntKind.i64.wrap (0 + IntKind.i64.wrap ((aMI.getD n.toNat 0).toNat : Int))))) []
 have h8 := aIu n.toNat (by omega)
 rw [aMf n.toNat (by omega), w64 (n := (lenN n.toNat : Int)) (by omega) (by omega), Int.zero_add, w64 (by omega) (by omega)]
 exact aG rfl rfl
def dJ.C : aE
 | [.int .u64 n] => some (false, pD (0 ≤ n ∧ n < 256) (.int .i64 (lenN n.toNat)))
 | _ => none
theorem dJ.spec : bI Tryz.prog 120 dJ.C := by
 refine bI.of (bR (F := [(135, dP.C)]) (S := []) (by simpa using dP.spec) (by simp) dJ.loops) dJ.at dJ.nm dJ.bd ?_
 intro vs b S v news e hS
 unfold dJ.C at e
 split at e
 rotate_left
 · cases e
 cases e
 rw [dJ.eq]
 unfold dJ.H
 simp (maxSteps := 4000000) only [go_sem, reduceEqDiff, Nat.reduceLT, reduceAdd, reduceSub, reduceLeDiff, reduceReplicate, reduceToNat, dP.C]
 rename_i n
 exact ⟨hS, aG rfl rfl⟩
def cO.C : aE
 | [.int .i64 n] => some (false, pD (0 ≤ n ∧ n < 256) (.int .u64 (2 ^ lenN n.toNat : Nat)))
 | _ => none
theorem cO.spec : bI Tryz.prog 143 cO.C := by
 refine bI.of (bR (F := [(120, dJ.C)]) (S := []) (by simpa using dJ.spec) (by simp) cO.loops) cO.at cO.nm cO.bd ?_
 intro vs b S v news e hS
 unfold cO.C at e
 split at e
 rotate_left
 · cases e
 cases e
 rw [cO.eq]
 unfold cO.H
 simp (maxSteps := 4000000) only [go_sem, reduceEqDiff, Nat.reduceLT, reduceAdd, reduceSub, reduceLeDiff, reduceReplicate, reduceToNat, dJ.C]
 rename_i n
 have g2 : IntKind.u64.wrap n = n := aAy (by omega) (by omega)
 have h8 := aIu n.toNat (by omega)
 simp only [g2, dJ.C, aA, gq, reduceEq, reduceLT, reduceLE, implies_true, reduceCtorEq, if_true, if_false, go_sem, reduceEqDiff, Nat.reduceLT, reduceAdd, reduceSub, reduceLeDiff, reduceReplicate, reduceToNat]
 refine ⟨hS.2, by omega, ?_⟩
 have h2 : 2 ^ lenN n.toNat ≤ 2 ^ 8 := Nat.pow_le_pow_right (by decide) h8
 have e : (2 : Int) ^ lenN n.toNat = ((2 ^ lenN n.toNat : Nat) : Int) := by rw [Int.natCast_pow]; rfl
 rw [Nat.min_eq_left (by omega), Int.one_mul, e]
 generalize 2 ^ lenN n.toNat = P at *
 rw [aAy (n := (P : Int)) (by omega) (by omega)]
 exact aG rfl rfl
def aX.K : Con := fun args h K => match args with
 | [a0, a1, a2, a3] => aX.H (ctx [(143, cO.C)] [(144, cL.K)] aX.loops) a0 a1 a2 a3 h K
 | _ => False
theorem aX.spec : dH Tryz.prog 128 aX.K := by
 refine dH.of (bR (F := [(143, cO.C)]) (S := [(144, cL.K)]) (by simpa using cO.spec) (by simpa using cL.spec) aX.loops) aX.at aX.nm aX.bd ?_
 intro args h K hC
 unfold aX.K at hC
 split at hC
 · rw [aX.eq]; exact hC
 · exact hC.elim
theorem aNe (A : SkT) (m : aY → Bool) (v : Nat) (l : List RecT) (T : List AObj) (hTn : OkT T) (n a b : Nat) (hn : n = l.length) (hab : a + 8 ≤ b) (hbn : b ≤ n) (h255 : b < a + 256) (hr : roomy n) (K : AOut → List AObj → Prop)
   (hK : ∀ l' y, SegP a b l l' → K (.ret (.tup [])) (hpS A m v l' (T ++ [.box (.int .u64 y)]))) :
   aX.K [.sref false 2 v 0 n, .int .i64 a, .int .i64 b, hitF] (hpS A m v l T) K := by
 have hr' := hr
 unfold roomy at hr'
 have h2 : 2 < T.length + 1 + 1 + 1 := by omega
 obtain ⟨len, hlen⟩ : ∃ len, b - a = len := ⟨_, rfl⟩
 have hl8 : 8 ≤ len := by omega
 have hpw := aMg len (by omega) hl8
 obtain ⟨P, hP⟩ : ∃ P, 2 ^ lenN len = P := ⟨_, rfl⟩
 rw [hP] at hpw
 have e0 : IntKind.i64.wrap ((b : Int) - a) = (len : Int) := by rw [w64 (by omega) (by omega)]; omega
 have e1 : IntKind.i64.wrap ((len : Int).tdiv 4) = ((len / 4 : Nat) : Int) := by rw [Int.tdiv_eq_ediv_of_nonneg (by omega), w64 (by omega) (by omega)]; omega
 obtain ⟨q, hq⟩ : ∃ q, len / 4 = q := ⟨_, rfl⟩
 rw [hq] at e1
 have e2 : IntKind.i64.wrap ((q : Int) * 2) = ((q * 2 : Nat) : Int) := by rw [w64 (by omega) (by omega)]; omega
 have e3 : IntKind.i64.wrap ((a : Int) + ((q * 2 : Nat) : Int)) = ((a + q * 2 : Nat) : Int) := by rw [w64 (by omega) (by omega)]; omega
 have e4 : IntKind.i64.wrap (((a + q * 2 : Nat) : Int) - 1) = ((a + q * 2 - 1 : Nat) : Int) := by rw [w64 (by omega) (by omega)]; omega
 have e5 : IntKind.u64.wrap ((P : Int) - 1) = (P : Int) - 1 := aAy (by omega) (by omega)
 have d1 : decide ((8 : Int) ≤ (len : Int)) = true := decide_eq_true (by omega)
 unfold aX.K aX.H
 have hT1 : ∀ y k h, (T ++ [AObj.box (.int .u64 y)]).map (rJ k h) = T ++ [AObj.box (.int .u64 y)] := fun y => hTn.snoc .u64 y
 have hL1 : ∀ y : AObj, (T ++ [y]).length = T.length + 1 := fun y => by simp
 have hTk : ∀ y : AObj, (T ++ [y]).take (T.length + 1) = T ++ [y] := fun y => List.take_of_length_le (by simp)
 have h3 : T.length + 1 + 1 + 1 < T.length + 1 + 1 + 1 + 1 := by omega
 have h4 : 2 < T.length + 1 + 1 + 1 + 1 := by omega
 simp only [hpS, hTn _ _, hT1, hL1, qW, zI, SkT.norm, h2, h3, h4, e0, e1, e2, e3, e4, d1, aA, cO.C, Int.toNat_natCast, hP, aA, gq, reduceEq, reduceLT, reduceLE, implies_true, reduceCtorEq, if_true, if_false, go_sem, reduceEqDiff, Nat.reduceLT, reduceAdd, reduceSub, reduceLeDiff, reduceReplicate, reduceToNat] at hK ⊢
 refine ⟨⟨by omega, by omega⟩, ?_⟩
 unfold aX.L1
 refine kV (σ := List RecT × Nat × Int) (fun s => .int .i64 s.2.1) (fun s => .box A.V :: .map (.sb m) :: .row .own v (.recs s.1) :: (T ++ [.box (.int .u64 s.2.2)])) (fun s => a + q * 2 + 2 - s.2.1) (fun s => a + q * 2 - 1 ≤ s.2.1 ∧ s.2.1 ≤ a + q * 2 + 2 ∧ SegP a b l s.1) (l, a + q * 2 - 1, IntKind.u64.wrap len) rfl rfl ⟨Nat.le_refl _, by simp only; omega, SegP.refl⟩ ?_
 rintro I back ⟨l1, i, x⟩ ⟨hi1, hi2, hp⟩
 simp only at hi1 hi2 hp ⊢
 have hl1 := hp.len
 simp only [e1, e2, e3, eH (show a + q * 2 < 4611686018427387904 by omega), hT1, hL1, SkT.norm, h2, h3, h4, aA, aA, gq, reduceEq, reduceLT, reduceLE, implies_true, reduceCtorEq, if_true, if_false, go_sem, reduceEqDiff, Nat.reduceLT, reduceAdd, reduceSub, reduceLeDiff, reduceReplicate, reduceToNat]
 refine ⟨fun hle => ?_, fun hgt => hK l1 x hp⟩
 refine aOc A m v l1 T hTn x _ fun y => ?_
 obtain ⟨z0, z1⟩ := aOb (a := y) (b := (P : Int) - 1) (by omega) (by omega)
 have hlt : ∀ c : Nat, c < len → ∃ m_1, m_1 < a + q * 2 + 2 - i ∧ I m_1 [.int .i64 ((i + 1 : Nat) : Int)] (.box A.V :: .map (.sb m) :: .row .own v (.recs (gS l1 i (a + c))) :: (T ++ [.box (.int .u64 y)])) := fun c hc =>
   back (gS l1 i (a + c), i + 1, y) (by simp only; omega) rfl rfl ⟨by simp only; omega, by simp only; omega, hp.trans (SegP.swap (by omega) (by omega) (by omega) (by omega) (by omega))⟩
 obtain ⟨c, hc⟩ : ∃ c : Nat, andI .u64 y ((P : Int) - 1) = c := ⟨(andI .u64 y ((P : Int) - 1)).toNat, by omega⟩
 have e6 : IntKind.i64.wrap (c : Int) = c := w64 (by omega) (by omega)
 have e7 : ∀ c : Nat, c < len → IntKind.i64.wrap ((a : Int) + (c : Int)) = ((a + c : Nat) : Int) := fun c hc => by rw [w64 (by omega) (by omega)]; omega
 have e8 : len ≤ c → IntKind.i64.wrap ((c : Int) - (len : Int)) = ((c - len : Nat) : Int) := fun h => by rw [w64 (by omega) (by omega)]; omega
 rw [hc] at z0 z1
 simp only [hpS, hT1, hL1, qW, SkT.norm, h2, h3, h4, e5, hc, e6, aA, eH (show i < 4611686018427387904 by omega), aA, gq, reduceEq, reduceLT, reduceLE, implies_true, reduceCtorEq, if_true, if_false, go_sem, reduceEqDiff, Nat.reduceLT, reduceAdd, reduceSub, reduceLeDiff, reduceReplicate, reduceToNat]
 refine ⟨fun hge => ?_, fun hnge => ?_⟩
 · have hcl : c - len < len := by omega
   simp only [hpS, hT1, hL1, SkT.norm, h2, h3, h4, e8 (by omega), e7 _ hcl, aA, Int.toNat_natCast, iU, iR, jR, iN, List.length_set, hTk, eH (show i < 4611686018427387904 by omega), aA, gq, reduceEq, reduceLT, reduceLE, implies_true, reduceCtorEq, if_true, if_false, go_sem, reduceEqDiff, Nat.reduceLT, reduceAdd, reduceSub, reduceLeDiff, reduceReplicate, reduceToNat]
   exact ⟨⟨by omega, by omega⟩, by omega, ⟨by omega, by omega⟩, by omega, ⟨by omega, by omega⟩, by omega, ⟨by omega, by omega⟩, by omega, hlt _ hcl⟩
 · have hcl : c < len := by omega
   simp only [hpS, hT1, hL1, SkT.norm, h2, h3, h4, e7 _ hcl, aA, Int.toNat_natCast, iU, iR, jR, iN, List.length_set, hTk, eH (show i < 4611686018427387904 by omega), aA, gq, reduceEq, reduceLT, reduceLE, implies_true, reduceCtorEq, if_true, if_false, go_sem, reduceEqDiff, Nat.reduceLT, reduceAdd, reduceSub, reduceLeDiff, reduceReplicate, reduceToNat]
   exact ⟨⟨by omega, by omega⟩, by omega, ⟨by omega, by omega⟩, by omega, ⟨by omega, by omega⟩, by omega, ⟨by omega, by omega⟩, by omega, hlt _ hcl⟩
end Lam
namespace Lam
open Go Go.Proofs
theorem aCt {w : List Int} {b : Int} {n : Nd} (h : dF w b = some n) : qM w b = .tup [n.V, .int .i64 0] := by
 unfold dF at h
 unfold qM
 split at h
 · cases h
 · rename_i hb; rw [if_neg hb, h]
theorem aGR {w : List Int} {b : Int} (h : dF w b = none) : ∃ e, e ≠ 0 ∧ qM w b = .tup [jM.V, .int .i64 e] := by
 unfold dF at h
 unfold qM
 split at h
 · rename_i hb; rw [if_pos hb]; exact ⟨1, by decide, rfl⟩
 · rename_i hb; rw [if_neg hb, h]; exact ⟨90, by decide, rfl⟩
theorem aFc {w : List Int} {b : Int} {n : Rc} (h : recO w b = some n) : pG w b = .tup [n.V, .int .i64 0] := by
 unfold recO at h
 unfold pG
 split at h
 · cases h
 · rename_i hb; rw [if_neg hb, h]
theorem aLb {w : List Int} {b : Int} (h : recO w b = none) : ∃ e, e ≠ 0 ∧ pG w b = .tup [kE.V, .int .i64 e] := by
 unfold recO at h
 unfold pG
 split at h
 · rename_i hb; rw [if_pos hb]; exact ⟨1, by decide, rfl⟩
 · rename_i hb; rw [if_neg hb, h]; exact ⟨70, by decide, rfl⟩
structure Sk where
 block : Int
 turn : Int
 at_ : Int
 refs : List Int
 over : Bool
def Sk.V (s : Sk) : AV := .agg [.int .i64 s.block, .int .i64 s.turn, .int .i64 s.at_, .sl false (.ints .i64 s.refs), .bool s.over]
def mH (t : Int) : Bool := decide (andI .i64 t 1 = 1)
def eR.C : aE
 | [.agg [.int .i64 _, .int .i64 t, .int .i64 _, .sl _ (.ints .i64 _), .bool _]] => some (false, pD True (.bool (mH t)))
 | _ => none
theorem eR.spec : bI Tryz.prog 67 eR.C := by
 refine bI.of (bR (F := []) (S := []) (by simp) (by simp) eR.loops) eR.at eR.nm eR.bd ?_
 intro vs b S v news e hS
 unfold eR.C at e
 split at e
 rotate_left
 · cases e
 cases e
 rw [eR.eq]
 unfold eR.H
 simp (maxSteps := 4000000) only [go_sem, reduceEqDiff, Nat.reduceLT, reduceAdd, reduceSub, reduceLeDiff, reduceReplicate, reduceToNat]
 exact aG rfl rfl
def skZ : Sk := ⟨0, 0, 0, [], false⟩
def qG (w : List Int) (b : Int) : Option Sk := match dF w b with
 | some n => if 256 ≤ b then none else some ⟨b, n.turn, if mH n.turn = true then 12 else 0, [], false⟩
 | none => none
def yJ (w : List Int) (b : Int) : AV := match qG w b with
 | some s => .tup [s.V, .int .i64 0]
 | none => .tup [skZ.V, .int .i64 90]
def gH.C : aE
 | [.sl _ (.ints .i64 w), .int .i64 b] => some (false, pD (roomy w.length) (yJ w b))
 | _ => none
theorem gH.spec : bI Tryz.prog 40 gH.C := by
 refine bI.of (bR (F := [(46, cN.C), (67, eR.C)]) (S := []) (by simpa using ⟨cN.spec, eR.spec⟩) (by simp) gH.loops) gH.at gH.nm gH.bd ?_
 intro vs b S v news e hS
 unfold gH.C at e
 split at e
 rotate_left
 · cases e
 cases e
 rw [gH.eq]
 unfold gH.H
 simp (maxSteps := 4000000) only [go_sem, reduceEqDiff, Nat.reduceLT, reduceAdd, reduceSub, reduceLeDiff, reduceReplicate, reduceToNat, cN.C, eR.C]
 rename_i w b
 unfold yJ qG
 cases hn : dF w b with
 | none =>
   obtain ⟨e, he, hr⟩ := aGR hn
   simp only [hr, jM, he, decide_true, decide_false, aA, skZ, Sk.V, aA, gq, reduceEq, reduceLT, reduceLE, implies_true, reduceCtorEq, if_true, if_false, go_sem, reduceEqDiff, Nat.reduceLT, reduceAdd, reduceSub, reduceLeDiff, reduceReplicate, reduceToNat]
   exact ⟨hS, aG rfl rfl⟩
 | some n =>
   obtain ⟨n1, n2, n3, n4, n5⟩ := n
   by_cases hb : 256 ≤ b
   · simp only [aCt hn, hb, if_true, decide_true, aA, skZ, Sk.V, aA, gq, reduceEq, reduceLT, reduceLE, implies_true, reduceCtorEq, if_true, if_false, go_sem, reduceEqDiff, Nat.reduceLT, reduceAdd, reduceSub, reduceLeDiff, reduceReplicate, reduceToNat]
     exact ⟨hS, aG rfl rfl⟩
   · simp only [aCt hn, hb, if_false, decide_false, eR.C, aA, Sk.V, aA, gq, reduceEq, reduceLT, reduceLE, implies_true, reduceCtorEq, if_true, if_false, go_sem, reduceEqDiff, Nat.reduceLT, reduceAdd, reduceSub, reduceLeDiff, reduceReplicate, reduceToNat]
     cases hd : mH n2 with
     | true => simp only [if_true, aA, gq, reduceEq, reduceLT, reduceLE, implies_true, reduceCtorEq, if_true, if_false, go_sem, reduceEqDiff, Nat.reduceLT, reduceAdd, reduceSub, reduceLeDiff, reduceReplicate, reduceToNat]; exact ⟨hS, aG rfl rfl⟩
     | false => simp only [if_false, aA, gq, reduceEq, reduceLT, reduceLE, implies_true, reduceCtorEq, if_true, if_false, go_sem, reduceEqDiff, Nat.reduceLT, reduceAdd, reduceSub, reduceLeDiff, reduceReplicate, reduceToNat]; exact ⟨hS, aG rfl rfl⟩
def tT (w : List Int) (b t : Int) : Bool := match dF w b with
 | some n => decide (n.turn = t)
 | none => false
def gI.C : aE
 | [.sl _ (.ints .i64 w), .agg [.int .i64 b, .int .i64 t, .int .i64 _, .sl _ (.ints .i64 _), .bool _]] => some (false, pD (roomy w.length) (.bool (tT w b t)))
 | _ => none
theorem gI.spec : bI Tryz.prog 71 gI.C := by
 refine bI.of (bR (F := [(46, cN.C)]) (S := []) (by simpa using cN.spec) (by simp) gI.loops) gI.at gI.nm gI.bd ?_
 intro vs b S v news e hS
 unfold gI.C at e
 split at e
 rotate_left
 · cases e
 cases e
 rw [gI.eq]
 unfold gI.H
 simp (maxSteps := 4000000) only [go_sem, reduceEqDiff, Nat.reduceLT, reduceAdd, reduceSub, reduceLeDiff, reduceReplicate, reduceToNat, cN.C]
 rename_i _ w b t _ _ _ _
 unfold tT
 cases hn : dF w b with
 | none =>
   obtain ⟨e, he, hr⟩ := aGR hn
   simp only [hr, jM, he, decide_true, decide_false, aA, aA, gq, reduceEq, reduceLT, reduceLE, implies_true, reduceCtorEq, if_true, if_false, go_sem, reduceEqDiff, Nat.reduceLT, reduceAdd, reduceSub, reduceLeDiff, reduceReplicate, reduceToNat]
   exact ⟨hS, aG rfl rfl⟩
 | some n =>
   obtain ⟨n1, n2, n3, n4, n5⟩ := n
   simp only [aCt hn, decide_true, aA, aA, gq, reduceEq, reduceLT, reduceLE, implies_true, reduceCtorEq, if_true, if_false, go_sem, reduceEqDiff, Nat.reduceLT, reduceAdd, reduceSub, reduceLeDiff, reduceReplicate, reduceToNat]
   exact ⟨hS, aG rfl rfl⟩
def dG.K : Con := fun args h K => match args with
 | [a0] => dG.H (ctx [] [] dG.loops) a0 h K
 | _ => False
theorem dG.spec : dH Tryz.prog 69 dG.K := by
 refine dH.of (bR (F := []) (S := []) (by simp) (by simp) dG.loops) dG.at dG.nm dG.bd ?_
 intro args h K hC
 unfold dG.K at hC
 split at hC
 · rw [dG.eq]; exact hC
 · exact hC.elim
def cU.K : Con := fun args h K => match args with
 | [a0] => cU.H (ctx [] [] cU.loops) a0 h K
 | _ => False
theorem cU.spec : dH Tryz.prog 70 cU.K := by
 refine dH.of (bR (F := []) (S := []) (by simp) (by simp) cU.loops) cU.at cU.nm cU.bd ?_
 intro args h K hC
 unfold cU.K at hC
 split at hC
 · rw [cU.eq]; exact hC
 · exact hC.elim
def kI (w : Int) (s : Sk) : Bool := if mH s.turn = true then decide (s.at_ = 0) else decide (w < 1) || decide (s.at_ = 12)
def goOn (w : Int) (s : Sk) : Sk :=
 { s with
   refs := if (decide (0 < w) && (decide (s.refs.length = 0) || !decide (s.refs.getD (s.refs.length - 1) 0 = w))) = true then s.refs ++ [w] else s.refs
   over := kI w s
   at_ := if kI w s = true then s.at_ else if mH s.turn = true then IntKind.i64.wrap (s.at_ - 1) else IntKind.i64.wrap (s.at_ + 1) }
def mY (w : List Int) (s : Sk) : Int := if (decide (0 ≤ s.block) && decide (s.block < 256) && decide (s.block < ((w.length / 16 : Nat) : Int))) = true then pA (16 * s.block) s.at_ else -1
def kW (w : List Int) (s : Sk) : Sk := if (s.over || decide (mY w s < 0)) = true then s else goOn (w.getD (mY w s).toNat 0) s
def iA.C : aE
 | [.sl _ (.ints .i64 w), .agg [.int .i64 b, .int .i64 t, .int .i64 a, .sl _ (.ints .i64 l), .bool o]] => some (false, pD (w.length ≤ 65536 ∧ l.length ≤ 65536) (kW w ⟨b, t, a, l, o⟩).V)
 | _ => none
theorem iA.spec : bI Tryz.prog 41 iA.C := by
 refine bI.of (bR (F := [(68, gC.C), (34, bA.C), (67, eR.C)]) (S := [(69, dG.K), (70, cU.K)]) (by simpa using ⟨gC.spec, bA.spec, eR.spec⟩) (by simpa using ⟨dG.spec, cU.spec⟩) iA.loops) iA.at iA.nm iA.bd ?_
 intro vs b S v news e hS
 unfold iA.C at e
 split at e
 rotate_left
 · cases e
 cases e
 rw [iA.eq]
 unfold iA.H
 simp (maxSteps := 4000000) only [go_sem, reduceEqDiff, Nat.reduceLT, reduceAdd, reduceSub, reduceLeDiff, reduceReplicate, reduceToNat, gC.C, bA.C, eR.C]
 rename_i _ w b t a x l o
 obtain ⟨hw, hl⟩ := hS
 have e0 : IntKind.i64.wrap ((w.length : Int).tdiv 16) = ((w.length / 16 : Nat) : Int) := by
   rw [Int.tdiv_eq_ediv_of_nonneg (by omega)]; exact w64 (by omega) (by omega)
 have hst : ∀ s : Sk, (s.over || decide (mY w s < 0)) = true → kW w s = s := fun s h => by unfold kW; rw [if_pos h]
 have hgo : ∀ s : Sk, (s.over || decide (mY w s < 0)) = false → kW w s = goOn (w.getD (mY w s).toNat 0) s := fun s h => by unfold kW; rw [if_neg (by rw [h]; decide)]
 refine ⟨fun _ => by decide, ?_⟩
 cases hin : (decide (0 ≤ b) && decide (b < 256) && decide (b < ((w.length / 16 : Nat) : Int))) with
 | false =>
   have hs : mY w ⟨b, t, a, l, o⟩ = -1 := by unfold mY; rw [if_neg (by rw [hin]; decide)]
   rw [hst _ (by rw [hs]; cases o <;> rfl)]
   simp only [e0, hin, aA, Sk.V, aA, gq, reduceEq, reduceLT, reduceLE, implies_true, reduceCtorEq, if_true, if_false, go_sem, reduceEqDiff, Nat.reduceLT, reduceAdd, reduceSub, reduceLeDiff, reduceReplicate, reduceToNat]
   cases o with
   | true => simp only [aA, gq, reduceEq, reduceLT, reduceLE, implies_true, reduceCtorEq, if_true, if_false, go_sem, reduceEqDiff, Nat.reduceLT, reduceAdd, reduceSub, reduceLeDiff, reduceReplicate, reduceToNat]; exact aG rfl rfl
   | false => simp only [aA, gq, reduceEq, reduceLT, reduceLE, implies_true, reduceCtorEq, if_true, if_false, go_sem, reduceEqDiff, Nat.reduceLT, reduceAdd, reduceSub, reduceLeDiff, reduceReplicate, reduceToNat]; exact aG rfl rfl
 | true =>
   have hin' := hin
   simp only [Bool.and_eq_true, decide_eq_true_eq] at hin'
   obtain ⟨⟨h0, h1⟩, h2⟩ := hin'
   have e1 : IntKind.i64.wrap (16 * b) = 16 * b := w64 (by omega) (by omega)
   have hs : mY w ⟨b, t, a, l, o⟩ = pA (16 * b) a := by unfold mY; rw [if_pos hin]
   by_cases hp : pA (16 * b) a < 0
   · rw [hst _ (by rw [hs, decide_eq_true hp, Bool.or_true])]
     simp only [e0, e1, hin, hp, decide_true, aA, Sk.V, aA, gq, reduceEq, reduceLT, reduceLE, implies_true, reduceCtorEq, if_true, if_false, go_sem, reduceEqDiff, Nat.reduceLT, reduceAdd, reduceSub, reduceLeDiff, reduceReplicate, reduceToNat]
     cases o with
     | true => simp only [aA, gq, reduceEq, reduceLT, reduceLE, implies_true, reduceCtorEq, if_true, if_false, go_sem, reduceEqDiff, Nat.reduceLT, reduceAdd, reduceSub, reduceLeDiff, reduceReplicate, reduceToNat]; exact aG rfl rfl
     | false => simp only [aA, gq, reduceEq, reduceLT, reduceLE, implies_true, reduceCtorEq, if_true, if_false, go_sem, reduceEqDiff, Nat.reduceLT, reduceAdd, reduceSub, reduceLeDiff, reduceReplicate, reduceToNat]; exact aG rfl rfl
   · cases o with
     | true =>
       rw [hst _ rfl]
       simp only [e0, e1, hin, hp, decide_true, decide_false, aA, Sk.V, aA, gq, reduceEq, reduceLT, reduceLE, implies_true, reduceCtorEq, if_true, if_false, go_sem, reduceEqDiff, Nat.reduceLT, reduceAdd, reduceSub, reduceLeDiff, reduceReplicate, reduceToNat]
       exact aG rfl rfl
     | false =>
       rw [hgo _ (by rw [hs, decide_eq_false hp]; rfl), hs]
       have hnb : rO (16 * b) = true := (zE (by omega)).2 ⟨by omega, by omega, by omega⟩
       have ha : 0 ≤ a ∧ a < 13 ∧ pA (16 * b) a = 16 * b + 3 + a := by
         by_cases h : 0 ≤ a ∧ a < 13
         · exact ⟨h.1, h.2, aGB hnb (by omega) h.1 h.2⟩
         · exfalso
           apply hp
           unfold pA
           rw [if_neg (by simp only [Bool.and_eq_true, decide_eq_true_eq]; rintro ⟨⟨_, h1⟩, h2⟩; exact h ⟨h1, h2⟩)]
           decide
       obtain ⟨a0, a1, hpl⟩ := ha
       obtain ⟨P, hP⟩ : ∃ P : Nat, 16 * b + 3 + a = P := ⟨(16 * b + 3 + a).toNat, by omega⟩
       have hPl : P < w.length := by omega
       rw [hpl, hP, Int.toNat_natCast]
       rw [hP] at hpl
       have hpn : ¬ ((P : Nat) : Int) < 0 := by omega
       have hrl : roomy l.length := by unfold roomy; omega
       have e3 : l.length ≠ 0 → IntKind.i64.wrap ((l.length : Int) - 1) = ((l.length - 1 : Nat) : Int) := fun h => by rw [w64 (by omega) (by omega)]; omega
       simp only [e0, e1, hin, hpl, hpn, decide_true, decide_false, aA, Int.toNat_natCast, bA.C, aA, gq, reduceEq, reduceLT, reduceLE, implies_true, reduceCtorEq, if_true, if_false, go_sem, reduceEqDiff, Nat.reduceLT, reduceAdd, reduceSub, reduceLeDiff, reduceReplicate, reduceToNat]
       refine ⟨⟨by omega, by omega⟩, hrl, ?_⟩
       generalize w.getD P 0 = W
       have hra : roomy (l ++ [W]).length := by unfold roomy; simp; omega
       have hgo2 : ∀ (R : List Int), (goOn W ⟨b, t, a, l, false⟩).refs = R → ∀ (o : Bool) (a' : Int), kI W ⟨b, t, a, l, false⟩ = o → (a' = if o = true then a else if mH t = true then IntKind.i64.wrap (a - 1) else IntKind.i64.wrap (a + 1)) → goOn W ⟨b, t, a, l, false⟩ = ⟨b, t, a', R, o⟩ := by
         rintro _ rfl _ _ rfl rfl; rfl
       by_cases hW : 0 < W
       · have hW1 : decide (W < 1) = false := decide_eq_false (by omega)
         have happ : ∀ K : Nat → Prop, True := fun _ => trivial
         by_cases hl0 : l.length = 0
         · have hd0 : decide ((l.length : Int) = 0) = true := decide_eq_true (by omega)
           have hgr : (goOn W ⟨b, t, a, l, false⟩).refs = l ++ [W] := by unfold goOn; simp [hW, hl0]
           simp only [hW, hW1, hd0, decide_true, eR.C, dG.K, dG.H, cU.K, cU.H, aA, aA, gq, reduceEq, reduceLT, reduceLE, implies_true, reduceCtorEq, if_true, if_false, go_sem, reduceEqDiff, Nat.reduceLT, reduceAdd, reduceSub, reduceLeDiff, reduceReplicate, reduceToNat]
           refine ⟨hra, fun hd => ⟨fun h => ?_, fun h => ?_⟩, fun hd => ⟨fun h => ?_, fun h => ?_⟩⟩
           · rw [hgo2 _ hgr false _ (by simp [kI, hd, h]) (by simp [hd]; rfl), decide_eq_false h]
             refine aG ?_ rfl
             simp only [Sk.V, List.take_length, go_sem, reduceEqDiff, Nat.reduceLT, reduceAdd, reduceSub, reduceLeDiff, reduceReplicate, reduceToNat]
           · rw [hgo2 _ hgr true _ (by simp [kI, hd, h]) (by simp; rfl), decide_eq_true h]
             refine aG ?_ rfl
             simp only [Sk.V, List.take_length, go_sem, reduceEqDiff, Nat.reduceLT, reduceAdd, reduceSub, reduceLeDiff, reduceReplicate, reduceToNat]
           · rw [hgo2 _ hgr false _ (by simp [kI, hd, h]; omega) (by simp [hd]; rfl), decide_eq_false h]
             refine aG ?_ rfl
             simp only [Sk.V, List.take_length, go_sem, reduceEqDiff, Nat.reduceLT, reduceAdd, reduceSub, reduceLeDiff, reduceReplicate, reduceToNat]
           · rw [hgo2 _ hgr true _ (by simp [kI, hd, h]) (by simp; rfl), decide_eq_true h]
             refine aG ?_ rfl
             simp only [Sk.V, List.take_length, go_sem, reduceEqDiff, Nat.reduceLT, reduceAdd, reduceSub, reduceLeDiff, reduceReplicate, reduceToNat]
         · have hd0 : decide ((l.length : Int) = 0) = false := decide_eq_false (by omega)
           by_cases hla : l.getD (l.length - 1) 0 = W
           · have hgr : (goOn W ⟨b, t, a, l, false⟩).refs = l := by
               unfold goOn
               simp only [hla, decide_true, Bool.not_true, Bool.or_false, decide_eq_false hl0, Bool.and_false]
               rw [if_neg (by decide)]
             simp only [hW, hW1, hd0, e3 hl0, hla, Int.toNat_natCast, decide_true, eR.C, dG.K, dG.H, cU.K, cU.H, aA, aA, gq, reduceEq, reduceLT, reduceLE, implies_true, reduceCtorEq, if_true, if_false, go_sem, reduceEqDiff, Nat.reduceLT, reduceAdd, reduceSub, reduceLeDiff, reduceReplicate, reduceToNat]
             refine ⟨⟨by omega, by omega⟩, fun hd => ⟨fun h => ?_, fun h => ?_⟩, fun hd => ⟨fun h => ?_, fun h => ?_⟩⟩
             · rw [hgo2 _ hgr false _ (by simp [kI, hd, h]) (by simp [hd]; rfl), decide_eq_false h]
               refine aG ?_ rfl
               simp only [Sk.V, List.take_length, go_sem, reduceEqDiff, Nat.reduceLT, reduceAdd, reduceSub, reduceLeDiff, reduceReplicate, reduceToNat]
             · rw [hgo2 _ hgr true _ (by simp [kI, hd, h]) (by simp; rfl), decide_eq_true h]
               refine aG ?_ rfl
               simp only [Sk.V, List.take_length, go_sem, reduceEqDiff, Nat.reduceLT, reduceAdd, reduceSub, reduceLeDiff, reduceReplicate, reduceToNat]
             · rw [hgo2 _ hgr false _ (by simp [kI, hd, h]; omega) (by simp [hd]; rfl), decide_eq_false h]
               refine aG ?_ rfl
               simp only [Sk.V, List.take_length, go_sem, reduceEqDiff, Nat.reduceLT, reduceAdd, reduceSub, reduceLeDiff, reduceReplicate, reduceToNat]
             · rw [hgo2 _ hgr true _ (by simp [kI, hd, h]) (by simp; rfl), decide_eq_true h]
               refine aG ?_ rfl
               simp only [Sk.V, List.take_length, go_sem, reduceEqDiff, Nat.reduceLT, reduceAdd, reduceSub, reduceLeDiff, reduceReplicate, reduceToNat]
           · have hgr : (goOn W ⟨b, t, a, l, false⟩).refs = l ++ [W] := by
               unfold goOn
               simp only [decide_eq_false hla, Bool.not_false, Bool.or_true, Bool.and_true, decide_eq_true hW, if_true]
             simp only [hW, hW1, hd0, e3 hl0, hla, Int.toNat_natCast, decide_true, decide_false, eR.C, dG.K, dG.H, cU.K, cU.H, aA, aA, gq, reduceEq, reduceLT, reduceLE, implies_true, reduceCtorEq, if_true, if_false, go_sem, reduceEqDiff, Nat.reduceLT, reduceAdd, reduceSub, reduceLeDiff, reduceReplicate, reduceToNat]
             refine ⟨⟨by omega, by omega⟩, hra, fun hd => ⟨fun h => ?_, fun h => ?_⟩, fun hd => ⟨fun h => ?_, fun h => ?_⟩⟩
             · rw [hgo2 _ hgr false _ (by simp [kI, hd, h]) (by simp [hd]; rfl), decide_eq_false h]
               refine aG ?_ rfl
               simp only [Sk.V, List.take_length, go_sem, reduceEqDiff, Nat.reduceLT, reduceAdd, reduceSub, reduceLeDiff, reduceReplicate, reduceToNat]
             · rw [hgo2 _ hgr true _ (by simp [kI, hd, h]) (by simp; rfl), decide_eq_true h]
               refine aG ?_ rfl
               simp only [Sk.V, List.take_length, go_sem, reduceEqDiff, Nat.reduceLT, reduceAdd, reduceSub, reduceLeDiff, reduceReplicate, reduceToNat]
             · rw [hgo2 _ hgr false _ (by simp [kI, hd, h]; omega) (by simp [hd]; rfl), decide_eq_false h]
               refine aG ?_ rfl
               simp only [Sk.V, List.take_length, go_sem, reduceEqDiff, Nat.reduceLT, reduceAdd, reduceSub, reduceLeDiff, reduceReplicate, reduceToNat]
             · rw [hgo2 _ hgr true _ (by simp [kI, hd, h]) (by simp; rfl), decide_eq_true h]
               refine aG ?_ rfl
               simp only [Sk.V, List.take_length, go_sem, reduceEqDiff, Nat.reduceLT, reduceAdd, reduceSub, reduceLeDiff, reduceReplicate, reduceToNat]
       · have hW1 : decide (W < 1) = true := decide_eq_true (by omega)
         have hgr : (goOn W ⟨b, t, a, l, false⟩).refs = l := by
           unfold goOn
           simp only [decide_eq_false hW, Bool.false_and]
           rw [if_neg (by decide)]
         simp only [hW, hW1, decide_true, decide_false, eR.C, dG.K, dG.H, cU.K, cU.H, aA, aA, gq, reduceEq, reduceLT, reduceLE, implies_true, reduceCtorEq, if_true, if_false, go_sem, reduceEqDiff, Nat.reduceLT, reduceAdd, reduceSub, reduceLeDiff, reduceReplicate, reduceToNat]
         refine ⟨fun hd => ⟨fun h => ?_, fun h => ?_⟩, fun hd => ?_⟩
         · rw [hgo2 _ hgr false _ (by simp [kI, hd, h]) (by simp [hd]; rfl), decide_eq_false h]
           refine aG ?_ rfl
           simp only [Sk.V, List.take_length, go_sem, reduceEqDiff, Nat.reduceLT, reduceAdd, reduceSub, reduceLeDiff, reduceReplicate, reduceToNat]
         · rw [hgo2 _ hgr true _ (by simp [kI, hd, h]) (by simp; rfl), decide_eq_true h]
           refine aG ?_ rfl
           simp only [Sk.V, List.take_length, go_sem, reduceEqDiff, Nat.reduceLT, reduceAdd, reduceSub, reduceLeDiff, reduceReplicate, reduceToNat]
         · rw [hgo2 _ hgr true _ (by simp [kI, hd]; omega) (by simp; rfl)]
           refine aG ?_ rfl
           simp only [Sk.V, List.take_length, go_sem, reduceEqDiff, Nat.reduceLT, reduceAdd, reduceSub, reduceLeDiff, reduceReplicate, reduceToNat]
end Lam
namespace Lam
open Go Go.Proofs
def ExtT (T T1 : List AObj) : Prop := OkT T1 ∧ T1.take T.length = T
theorem ExtT.refl {T : List AObj} (h : OkT T) : ExtT T T := ⟨h, List.take_of_length_le (Nat.le_refl _)⟩
theorem ExtT.len {T T1 : List AObj} (h : ExtT T T1) : T.length ≤ T1.length := by
 have := congrArg List.length h.2
 rw [List.length_take] at this; omega
theorem ExtT.trans {T T1 T2 : List AObj} (h : ExtT T T1) (h' : ExtT T1 T2) : ExtT T T2 :=
 ⟨h'.1, by
   have e : T2.take T.length = (T2.take T1.length).take T.length := by rw [List.take_take, Nat.min_eq_left h.len]
   rw [e, h'.2, h.2]⟩
theorem ExtT.snoc {T T1 : List AObj} (h : ExtT T T1) (k : IntKind) (n : Int) : ExtT T (T1 ++ [.box (.int k n)]) :=
 ⟨h.1.snoc k n, by rw [List.take_append_of_le_length h.len]; exact h.2⟩
abbrev aIv (C : Con) : Ctx := ctx [(109, bY.C)] [(126, aR.K), (127, bD.K), (128, aX.K), (129, bL.K), (130, aZ.K), (131, aF.K), (133, aL.K), (119, C)] bT.loops
def pdqD : Nat → Con
 | 0 => fun _ _ _ => False
 | d + 1 => fun args h K => match args with
   | [a0, a1, a2, a3, a4] => bT.H (aIv (pdqD d)) a0 a1 a2 a3 a4 h K
   | _ => False
theorem pdqD.spec : ∀ d, dH Tryz.prog 119 (pdqD d)
 | 0 => by
   refine dH.of (c := ctx [] [] bT.loops) (bR (by simp) (by simp) bT.loops) bT.at bT.nm bT.bd ?_
   intro args h K hC
   exact hC.elim
 | d + 1 => by
   refine dH.of (c := aIv (pdqD d)) (bR (by simpa using bY.spec) (by simpa using ⟨aR.spec, bD.spec, aX.spec, bL.spec, aZ.spec, aF.spec, aL.spec, pdqD.spec d⟩) bT.loops) bT.at bT.nm bT.bd ?_
   intro args h K hC
   unfold pdqD at hC
   split at hC
   · rw [bT.eq]; exact hC
   · exact hC.elim
theorem aMJ (A : SkT) (m : aY → Bool) (v : Nat) (n : Nat) (hr : roomy n) (h255 : n < 256) : ∀ (d : Nat) (l : List RecT) (T : List AObj) (hTn : OkT T) (a b : Nat) (lim : Int) (hn : n = l.length) (hab : a ≤ b) (hbn : b ≤ n) (hd : b < a + d) (hpre : PreS a b l) (hnd : (l.map (·.key)).Nodup) (K : AOut → List AObj → Prop)
   (hK : ∀ l' T', ExtT T T' → SegP a b l l' → SegS a b l' → K (.ret (.tup [])) (hpS A m v l' T')),
   pdqD d [.sref false 2 v 0 n, .int .i64 a, .int .i64 b, .int .i64 lim, hitF] (hpS A m v l T) K
 | 0, l, T, hTn, a, b, lim, hn, hab, hbn, hd, hpre, hnd, K, hK => by omega
 | d + 1, l, T, hTn, a0, b0, lim0, hn, hab0, hbn0, hd, hpre0, hnd, K, hK => by
   have ih := aMJ A m v n hr h255 d
   have hr' := hr
   unfold roomy at hr'
   have h2 : 2 < T.length + 1 + 1 + 1 := by omega
   unfold pdqD bT.H
   simp only [hpS, hTn _ _, SkT.norm, h2, aA, aA, gq, reduceEq, reduceLT, reduceLE, implies_true, reduceCtorEq, if_true, if_false, go_sem, reduceEqDiff, Nat.reduceLT, reduceAdd, reduceSub, reduceLeDiff, reduceReplicate, reduceToNat]
   unfold bT.L1
   refine aSg (σ := List RecT × Nat × Nat × Int × Bool × Bool) (fun s => .int .i64 s.2.1) (fun s => .int .i64 s.2.2.1) (fun s => .int .i64 s.2.2.2.1) (fun s => .bool s.2.2.2.2.1) (fun s => .bool s.2.2.2.2.2) (fun s => .box A.V :: .map (.sb m) :: .row .own v (.recs s.1) :: T) (fun s => s.2.2.1 - s.2.1)
     (fun s => a0 ≤ s.2.1 ∧ s.2.1 ≤ s.2.2.1 ∧ s.2.2.1 ≤ b0 ∧ SegP a0 b0 l s.1 ∧ PreS s.2.1 s.2.2.1 s.1 ∧ ∀ l', SegP s.2.1 s.2.2.1 s.1 l' → SegS s.2.1 s.2.2.1 l' → SegS a0 b0 l') (l, a0, b0, lim0, true, true) rfl rfl ⟨Nat.le_refl _, hab0, Nat.le_refl _, SegP.refl, hpre0, fun l' _ h => h⟩ ?_
   rintro I back ⟨l1, a, b, lim, t10, t11⟩ ⟨g1, g2, g3, g4, g5, g6⟩
   simp only at g1 g2 g3 g4 g5 g6 ⊢
   have hl1 := g4.len
   obtain ⟨len, hlen⟩ : ∃ len, b - a = len := ⟨_, rfl⟩
   have e2 : IntKind.i64.wrap ((b : Int) - a) = (len : Int) := by rw [w64 (by omega) (by omega)]; omega
   have hlt : ∀ (l2 : List RecT) (p : Nat), SegP a b l1 l2 → a ≤ p → p < b → 0 < a → ltB (kyL l2 (a - 1)) (kyL l2 p) = true := fun l2 p h1 h3 h4 h5 => by
     rcases g5.keep h1 with h | h
     · omega
     · refine xE (h p h3 h4) fun e => ?_
       have hnd2 : (l2.map (·.key)).Nodup := ((g4.trans (h1.mono g1 g3)).1.map _).nodup_iff.2 hnd
       have hl2 := h1.len
       have h6 := List.pairwise_iff_getElem.1 hnd2 (a - 1) p (by simp; omega) (by simp; omega) (by omega)
       apply h6
       unfold kyL at e
       rw [List.getD_eq_getElem?_getD, List.getD_eq_getElem?_getD, List.getElem?_eq_getElem (by omega), List.getElem?_eq_getElem (by omega)] at e
       simpa using e
   have ea1 : 0 < a → IntKind.i64.wrap ((a : Int) - 1) = ((a - 1 : Nat) : Int) := fun h => by rw [w64 (by omega) (by omega)]; omega
   have eb1 : 0 < b → IntKind.i64.wrap ((b : Int) - 1) = ((b - 1 : Nat) : Int) := fun h => by rw [w64 (by omega) (by omega)]; omega
   have ep1 : ∀ p : Nat, a ≤ p → p < b → IntKind.i64.wrap (((b - 1 : Nat) : Int) - IntKind.i64.wrap ((p : Int) - (a : Int))) = ((b - 1 - (p - a) : Nat) : Int) := fun p h1 h3 => by
     rw [w64 (n := (p : Int) - a) (by omega) (by omega), w64 (n := ((b - 1 : Nat) : Int) - ((p : Int) - (a : Int))) (by omega) (by omega)]; omega
   refine nM fun kb hkb => ?_
   rw [aA]
   simp only [SkT.norm, e2, gq, reduceEq, reduceLT, reduceLE, implies_true, reduceCtorEq, if_true, if_false, go_sem, reduceEqDiff, Nat.reduceLT, reduceAdd, reduceSub, reduceLeDiff, reduceReplicate, reduceToNat]
   refine ⟨fun h12 => ?_, fun h12 => ⟨fun hz => ?_, fun hz => ?_⟩⟩
   · exact aSn A m v l1 T hTn n a b (by omega) g2 (by omega) hr _ fun l' p s => hK l' T (ExtT.refl hTn) (g4.trans (p.mono g1 g3)) (g6 l' p s)
   · exact aOa A m v l1 T hTn n a b (by omega) (by omega) (by omega) hr _ fun l' p s => hK l' T (ExtT.refl hTn) (g4.trans (p.mono g1 g3)) (g6 l' p s)
   have backb : ∀ (l6 : List RecT) (T6 : List AObj) (a' b' : Nat) (lim' : Int) (x y : Bool), ExtT T T6 → a ≤ a' → a' ≤ b' → b' ≤ b → b' - a' < b - a → SegP a b l1 l6 → PreS a' b' l6 → (∀ l7, SegP a' b' l6 l7 → SegS a' b' l7 → SegS a b l7) → kb (.int .i64 a') (.int .i64 b') (.int .i64 lim') (.bool x) (.bool y) (hpS A m v l6 T6) := by
     intro l6 T6 a' b' lim' x y x6 q1 q2 q3 q4 q5 q6 q7
     have hT6 := x6.1
     have hx6 := x6.2
     rw [hkb]
     simp only [hpS, hT6 _ _, hx6, hTn _ _, SkT.norm, h2, gq, reduceEq, reduceLT, reduceLE, implies_true, reduceCtorEq, if_true, if_false, go_sem, reduceEqDiff, Nat.reduceLT, reduceAdd, reduceSub, reduceLeDiff, reduceReplicate, reduceToNat]
     exact back (l6, a', b', lim', x, y) q4 rfl rfl ⟨by simp only; omega, q2, by simp only; omega, g4.trans (q5.mono g1 g3), q6, fun l7 p7 s7 => g6 l7 (q5.trans (p7.mono q1 q3)) (q7 l7 p7 s7)⟩
   clear hkb
   refine nM fun k3 hk3 => ?_
   have rest3 : ∀ (l2 : List RecT) (T2 : List AObj) (lim2 : Int), ExtT T T2 → SegP a b l1 l2 → k3 (.int .i64 lim2) (hpS A m v l2 T2) := by
     intro l2 T2 lim2 x2 p2
     have hT2 := x2.1
     rw [hk3]
     simp only [hpS, hT2 _ _, SkT.norm, gq, reduceEq, reduceLT, reduceLE, implies_true, reduceCtorEq, if_true, if_false, go_sem, reduceEqDiff, Nat.reduceLT, reduceAdd, reduceSub, reduceLeDiff, reduceReplicate, reduceToNat]
     refine aMe A m v l2 T2 hT2 n a b (by rw [p2.len]; omega) (by omega) (by omega) hr _ fun p e s hp1 hp2 he => ?_
     have x3 := x2.snoc .i64 s
     generalize T2 ++ [AObj.box (.int .i64 s)] = T3 at *
     have hT3 := x3.1
     simp only [hpS, hT3 _ _, SkT.norm, gq, reduceEq, reduceLT, reduceLE, implies_true, reduceCtorEq, if_true, if_false, go_sem, reduceEqDiff, Nat.reduceLT, reduceAdd, reduceSub, reduceLeDiff, reduceReplicate, reduceToNat]
     refine nM fun k4 hk4 => ?_
     have rest4 : ∀ (l3 : List RecT) (p : Nat) (e : Int), SegP a b l1 l3 → a ≤ p → p < b → k4 (.int .i64 p) (.int .i64 e) (hpS A m v l3 T3) := by
       intro l3 p e p3 hp1 hp2
       have hl3 := p3.len
       rw [hk4]
       cases t10 <;> cases t11 <;> simp only [hpS, hT3 _ _, SkT.norm, gq, reduceEq, reduceLT, reduceLE, implies_true, reduceCtorEq, if_true, if_false, go_sem, reduceEqDiff, Nat.reduceLT, reduceAdd, reduceSub, reduceLeDiff, reduceReplicate, reduceToNat]
       all_goals (rw [aA]; simp only [gq, reduceEq, reduceLT, reduceLE, implies_true, reduceCtorEq, if_true, if_false, go_sem, reduceEqDiff, Nat.reduceLT, reduceAdd, reduceSub, reduceLeDiff, reduceReplicate, reduceToNat])
       all_goals
         refine nM fun k7 hk7 => ?_
         have rest7 : ∀ l4, SegP a b l1 l4 → k7 (hpS A m v l4 T3) := by
           intro l4 p4
           have hl4 := p4.len
           rw [hk7]
           refine nM fun k8 hk8 => ?_
           have rest8 : ∀ x y, ((x = .bool true ∧ y = .bool false) ∨ (x = .bool false ∧ y = .und)) → k8 x y (hpS A m v l4 T3) := by
             rintro x y hxy
             rw [hk8]
             rcases hxy with ⟨rfl, rfl⟩ | ⟨rfl, rfl⟩ <;> simp only [hpS, hT3 _ _, SkT.norm, gq, reduceEq, reduceLT, reduceLE, implies_true, reduceCtorEq, if_true, if_false, go_sem, reduceEqDiff, Nat.reduceLT, reduceAdd, reduceSub, reduceLeDiff, reduceReplicate, reduceToNat]
             all_goals
               refine aHS A m v l4 T3 hT3 n a b p (by omega) (by omega) (by omega) hp1 hp2 hr _ fun l5 q al p5 hq1 hq2 hpt => ?_
               have hl5 := p5.len
               have P5 := p4.trans p5
               have f1 : IntKind.i64.wrap ((q : Int) - a) = ((q - a : Nat) : Int) := by rw [w64 (by omega) (by omega)]; omega
               have f2 : IntKind.i64.wrap ((b : Int) - q) = ((b - q : Nat) : Int) := by rw [w64 (by omega) (by omega)]; omega
               have hnd5 : (l5.map (·.key)).Nodup := ((g4.trans (P5.mono g1 g3)).1.map _).nodup_iff.2 hnd
               simp only [hpS, hT3 _ _, SkT.norm, f1, f2, eH (show q < 4611686018427387904 by omega), gq, reduceEq, reduceLT, reduceLE, implies_true, reduceCtorEq, if_true, if_false, go_sem, reduceEqDiff, Nat.reduceLT, reduceAdd, reduceSub, reduceLeDiff, reduceReplicate, reduceToNat]
               refine nM fun k9 hk9 => ?_
               have rest9 : ∀ (l6 : List RecT) (T6 : List AObj) (a' b' : Nat) (x : Bool), ExtT T T6 → a ≤ a' → a' ≤ b' → b' ≤ b → b' - a' < b - a → SegP a b l1 l6 → PreS a' b' l6 → (∀ l7, SegP a' b' l6 l7 → SegS a' b' l7 → SegS a b l7) → k9 (.int .i64 a') (.int .i64 b') (.bool x) (hpS A m v l6 T6) := fun l6 T6 a' b' x q0 q1 q2 q3 q4 q5 q6 q7 => by
                 rw [hk9]; exact backb l6 T6 a' b' lim2 x al q0 q1 q2 q3 q4 q5 q6 q7
               clear hk9
               rw [aA]
               refine ⟨fun hlt1 => ?_, fun hge => ?_⟩
               · refine ih l5 T3 hT3 a q lim2 (by omega) hq1 (by omega) (by omega) ((g5.keep P5).imp id fun h k k1 k2 => h k k1 (by omega)) hnd5 _ fun l6 T6 x6 p6 s6 => ?_
                 have hT6 := x6.1
                 have hl := hpt.left p6
                 simp only [hpS, hT6 _ _, SkT.norm, eH (show q < 4611686018427387904 by omega), gq, reduceEq, reduceLT, reduceLE, implies_true, reduceCtorEq, if_true, if_false, go_sem, reduceEqDiff, Nat.reduceLT, reduceAdd, reduceSub, reduceLeDiff, reduceReplicate, reduceToNat]
                 exact rest9 l6 T6 (q + 1) b _ (x3.trans x6) (by omega) (by omega) (Nat.le_refl _) (by omega) (P5.trans (p6.mono (Nat.le_refl _) (by omega))) (.inr fun k k1 k2 => hl.2 k (by omega) k2) fun l7 p7 s7 => (hl.right p7).sorted (s6.keep p7 (.inl (by omega))) s7
               · refine ih l5 T3 hT3 (q + 1) b lim2 (by omega) (by omega) (by omega) (by omega) (.inr fun k k1 k2 => hpt.2 k (by omega) k2) hnd5 _ fun l6 T6 x6 p6 s6 => ?_
                 have hT6 := x6.1
                 have hl := hpt.right p6
                 have P6 := P5.trans (p6.mono (by omega) (Nat.le_refl _))
                 simp only [hpS, hT6 _ _, SkT.norm, eH (show q < 4611686018427387904 by omega), gq, reduceEq, reduceLT, reduceLE, implies_true, reduceCtorEq, if_true, if_false, go_sem, reduceEqDiff, Nat.reduceLT, reduceAdd, reduceSub, reduceLeDiff, reduceReplicate, reduceToNat]
                 exact rest9 l6 T6 a q _ (x3.trans x6) (Nat.le_refl _) (by omega) (by omega) (by omega) P6 ((g5.keep P6).imp id fun h k k1 k2 => h k k1 (by omega)) fun l7 p7 s7 => (hl.left p7).sorted s7 (s6.keep p7 (.inr (by omega)))
           clear hk8
           rw [aA]
           by_cases ha0 : 0 < a
           · have hlt0 := hlt l4 p p4 hp1 hp2 ha0
             have da : decide ((0 : Int) < (a : Int)) = true := decide_eq_true (by omega)
             simp only [hpS, hT3 _ _, SkT.norm, da, hlt0, ea1 ha0, Int.toNat_natCast, bY.C, iU, iR, jI, gq, reduceEq, reduceLT, reduceLE, implies_true, reduceCtorEq, if_true, if_false, go_sem, reduceEqDiff, Nat.reduceLT, reduceAdd, reduceSub, reduceLeDiff, reduceReplicate, reduceToNat]
             refine ⟨⟨by omega, by omega⟩, by omega, ⟨by omega, by omega⟩, by omega, ?_⟩
             exact rest8 _ _ (.inl ⟨rfl, rfl⟩)
           · have da : decide ((0 : Int) < (a : Int)) = false := decide_eq_false (by omega)
             simp only [hpS, da, gq, reduceEq, reduceLT, reduceLE, implies_true, reduceCtorEq, if_true, if_false, go_sem, reduceEqDiff, Nat.reduceLT, reduceAdd, reduceSub, reduceLeDiff, reduceReplicate, reduceToNat]
             exact rest8 _ _ (.inr ⟨rfl, rfl⟩)
         clear hk7
         rw [aA]
         first
           | exact rest7 l3 p3
           | refine ⟨fun _ => aNZ A m v l3 T3 hT3 n a b (by omega) (by omega) (by omega) (g5.keep p3) hr _ (fun l4 p4 s4 => ?_) fun l4 p4 => ?_, fun _ => rest7 l3 p3⟩
             · simp only [hpS, gq, reduceEq, reduceLT, reduceLE, implies_true, reduceCtorEq, if_true, if_false, go_sem, reduceEqDiff, Nat.reduceLT, reduceAdd, reduceSub, reduceLeDiff, reduceReplicate, reduceToNat]
               exact hK l4 T3 x3 (g4.trans ((p3.trans p4).mono g1 g3)) (g6 l4 (p3.trans p4) s4)
             · simp only [hpS, gq, reduceEq, reduceLT, reduceLE, implies_true, reduceCtorEq, if_true, if_false, go_sem, reduceEqDiff, Nat.reduceLT, reduceAdd, reduceSub, reduceLeDiff, reduceReplicate, reduceToNat]
               exact rest7 l4 (p3.trans p4)
     rw [aA]
     simp only [eb1 (by omega), ep1 p hp1 hp2, gq, reduceEq, reduceLT, reduceLE, implies_true, reduceCtorEq, if_true, if_false, go_sem, reduceEqDiff, Nat.reduceLT, reduceAdd, reduceSub, reduceLeDiff, reduceReplicate, reduceToNat]
     refine ⟨fun he2 => aKZ A m v l2 T3 hT3 n a b (by rw [p2.len]; omega) (by omega) (by omega) hr _ fun l3 p3 => ?_, fun _ => rest4 l2 p e p2 hp1 hp2⟩
     simp only [hpS, hT3 _ _, SkT.norm, gq, reduceEq, reduceLT, reduceLE, implies_true, reduceCtorEq, if_true, if_false, go_sem, reduceEqDiff, Nat.reduceLT, reduceAdd, reduceSub, reduceLeDiff, reduceReplicate, reduceToNat]
     exact rest4 l3 (b - 1 - (p - a)) 1 (p2.trans p3) (by omega) (by omega)
   rw [aA]
   cases t10 with
   | false =>
     simp only [gq, reduceEq, reduceLT, reduceLE, implies_true, reduceCtorEq, if_true, if_false, go_sem, reduceEqDiff, Nat.reduceLT, reduceAdd, reduceSub, reduceLeDiff, reduceReplicate, reduceToNat]
     refine aNe A m v l1 T hTn n a b (by omega) (by omega) (by omega) (by omega) hr _ fun l2 y p2 => ?_
     have x2 := (ExtT.refl hTn).snoc .u64 y
     have hT2 := x2.1
     simp only [hpS, gq, reduceEq, reduceLT, reduceLE, implies_true, reduceCtorEq, if_true, if_false, go_sem, reduceEqDiff, Nat.reduceLT, reduceAdd, reduceSub, reduceLeDiff, reduceReplicate, reduceToNat]
     exact rest3 l2 _ _ x2 p2
   | true =>
     simp only [gq, reduceEq, reduceLT, reduceLE, implies_true, reduceCtorEq, if_true, if_false, go_sem, reduceEqDiff, Nat.reduceLT, reduceAdd, reduceSub, reduceLeDiff, reduceReplicate, reduceToNat]
     exact rest3 l1 T lim (ExtT.refl hTn) SegP.refl
def bF.K : Con := fun args h K => match args with
 | [a0, a1] => bF.H (ctx [(120, dJ.C)] [(119, pdqD 256)] bF.loops) a0 a1 h K
 | _ => False
theorem bF.spec : dH Tryz.prog 108 bF.K := by
 refine dH.of (c := ctx [(120, dJ.C)] [(119, pdqD 256)] bF.loops) (bR (by simpa using dJ.spec) (by simpa using pdqD.spec 256) bF.loops) bF.at bF.nm bF.bd ?_
 intro args h K hC
 unfold bF.K at hC
 split at hC
 · rw [bF.eq]; exact hC
 · exact hC.elim
theorem aOd (A : SkT) (m : aY → Bool) (v : Nat) (l : List RecT) (n : Nat) (hn : n = l.length) (h255 : n < 256) (hnd : (l.map (·.key)).Nodup) (K : AOut → List AObj → Prop)
   (hK : ∀ l' T, l'.Perm l → SegS 0 n l' → K (.ret (.tup [])) (hpS A m v l' T)) :
   bF.K [.sref false 2 v 0 n, hitF] (hpS A m v l []) K := by
 have hr : roomy n := by unfold roomy; omega
 have e1 : IntKind.u64.wrap (n : Int) = n := aAy (by omega) (by omega)
 unfold bF.K bF.H
 simp only [hpS, dJ.C, e1, Int.toNat_natCast, aA, gq, reduceEq, reduceLT, reduceLE, implies_true, reduceCtorEq, if_true, if_false, go_sem, reduceEqDiff, Nat.reduceLT, reduceAdd, reduceSub, reduceLeDiff, reduceReplicate, reduceToNat]
 exact ⟨⟨by omega, by omega⟩, aMJ A m v n hr h255 256 l [] OkT.nil 0 n _ hn (Nat.zero_le _) (Nat.le_refl _) (by omega) (.inl rfl) hnd _ fun l' T' _ s1 s2 => hK l' T' s1.1 s2⟩
end Lam
namespace Lam
open Go Go.Proofs
def rcT (x : Rc) : RecT := ⟨x.kind, x.key, x.val, x.child⟩
def hitS (w : List Int) (out : List RecT) (r : Int) : List RecT := match recO w r with
 | none => out
 | some x => if x.key ∈ out.map (·.key) then out else out ++ [rcT x]
def jA (w refs : List Int) : List RecT := refs.foldl (hitS w) []
theorem aMh (w : List Int) (out : List RecT) (r : Int) : (hitS w out r).length ≤ out.length + 1 := by
 unfold hitS
 split
 · omega
 · split
   · omega
   · simp
theorem aJF {w : List Int} {out : List RecT} {r : Int} (h : (out.map (·.key)).Nodup) : ((hitS w out r).map (·.key)).Nodup := by
 unfold hitS
 split
 · exact h
 · split
   · exact h
   · rename_i x _ hx
     rw [List.map_append, List.nodup_append]
     refine ⟨h, by simp, fun a ha b hb => ?_⟩
     simp only [List.map_cons, List.map_nil, List.mem_singleton] at hb
     subst hb
     rintro rfl
     exact hx ha
theorem aAS {w : List Int} : ∀ {refs : List Int} {out : List RecT}, (out.map (·.key)).Nodup → ((refs.foldl (hitS w) out).map (·.key)).Nodup ∧ (refs.foldl (hitS w) out).length ≤ out.length + refs.length
 | [], out, h => ⟨h, by simp⟩
 | r :: refs, out, h => by
   obtain ⟨h1, h2⟩ := aAS (refs := refs) (aJF (r := r) (w := w) h)
   have := aMh w out r
   exact ⟨h1, by simp only [List.foldl_cons, List.length_cons]; omega⟩
def insR (x : RecT) : List RecT → List RecT
 | [] => [x]
 | y :: l => if ltB x.key y.key = true then x :: y :: l else y :: insR x l
def uU (l : List RecT) : List RecT := l.foldr insR []
theorem aAT (x : RecT) : ∀ l : List RecT, (insR x l).Perm (x :: l)
 | [] => .refl _
 | y :: l => by
   unfold insR
   split
   · exact .refl _
   · exact ((aAT x l).cons y).trans (.swap x y l)
theorem sA : ∀ l : List RecT, (uU l).Perm l
 | [] => .refl _
 | x :: l => (aAT x _).trans ((sA l).cons x)
def ltR (x y : RecT) : Prop := ltB x.key y.key = true
theorem aDH {x : RecT} : ∀ {l : List RecT}, l.Pairwise ltR → (∀ y ∈ l, y.key ≠ x.key) → (insR x l).Pairwise ltR
 | [], _, _ => by simp [insR]
 | y :: l, h, hx => by
   rw [List.pairwise_cons] at h
   unfold insR
   split
   · rename_i hl
     rw [List.pairwise_cons]
     refine ⟨fun z hz => ?_, List.pairwise_cons.2 h⟩
     rcases List.mem_cons.1 hz with rfl | hz
     · exact hl
     · exact jG hl (h.1 z hz)
   · rename_i hl
     rw [List.pairwise_cons]
     refine ⟨fun z hz => ?_, aDH h.2 fun z hz => hx z (by simp [hz])⟩
     rcases List.mem_cons.1 ((aAT x l).mem_iff.1 hz) with rfl | hz
     · exact xE (by unfold leB; simpa using hl) (hx y (by simp))
     · exact h.1 z hz
theorem xF : ∀ {l : List RecT}, (l.map (·.key)).Nodup → (uU l).Pairwise ltR
 | [], _ => List.Pairwise.nil
 | x :: l, h => by
   rw [List.map_cons, List.nodup_cons] at h
   refine aDH (xF h.2) fun y hy he => h.1 ?_
   rw [← he]
   exact List.mem_map_of_mem (f := (·.key)) ((sA l).mem_iff.1 hy)
theorem aCu : ∀ {l l' : List RecT}, l.Pairwise ltR → l'.Pairwise ltR → l.Perm l' → l = l'
 | [], l', _, _, p => p.nil_eq
 | x :: l, [], _, _, p => by have := p.length_eq; simp at this
 | x :: l, y :: l', h, h', p => by
   rw [List.pairwise_cons] at h h'
   have e : x = y := by
     rcases List.mem_cons.1 (p.mem_iff.1 (List.mem_cons_self (a := x))) with e | hx
     · exact e
     · rcases List.mem_cons.1 (p.mem_iff.2 (List.mem_cons_self (a := y))) with e | hy
       · exact e.symm
       · have := jG (h.1 y hy) (h'.1 x hx)
         rw [qV] at this; cases this
   subst e
   rw [aCu h.2 h'.2 (List.Perm.cons_inv p)]
theorem aLc {l l' : List RecT} (hp : l'.Perm l) (hs : SegS 0 l.length l') (hn : (l.map (·.key)).Nodup) : l' = uU l := by
 refine aCu ?_ (xF hn) (hp.trans (sA l).symm)
 have hn' : (l'.map (·.key)).Nodup := (hp.map _).nodup_iff.2 hn
 rw [List.pairwise_iff_getElem]
 intro i j hi hj hij
 have h1 := hs i j (Nat.zero_le _) hij (by rw [← hp.length_eq]; exact hj)
 unfold kyL at h1
 rw [List.getD_eq_getElem?_getD, List.getD_eq_getElem?_getD, List.getElem?_eq_getElem hi, List.getElem?_eq_getElem hj] at h1
 refine xE h1 fun e => ?_
 have := List.pairwise_iff_getElem.1 hn' i j (by simpa using hi) (by simpa using hj) hij
 apply this
 simpa using e
def fT.C : aE
 | [.sl _ (.ints .i64 w), .agg [.int .i64 b, .int .i64 t, .int .i64 a, .sl _ (.ints .i64 l), .bool o]] => some (false, pD (roomy w.length ∧ l.length ≤ 200) (.sl false (.recs (uU (jA w l)))))
 | _ => none
theorem fT.spec : bI Tryz.prog 89 fT.C := by
 refine bI.of (bR (F := [(79, dO.C)]) (S := [(108, bF.K)]) (by simpa using dO.spec) (by simpa using bF.spec) fT.loops) fT.at fT.nm fT.bd ?_
 intro vs b S v news e hS
 unfold fT.C at e
 split at e
 rotate_left
 · cases e
 cases e
 rw [fT.eq]
 unfold fT.H
 simp (maxSteps := 4000000) only [go_sem, reduceEqDiff, Nat.reduceLT, reduceAdd, reduceSub, reduceLeDiff, reduceReplicate, reduceToNat, dO.C]
 rename_i _ w b t a x l o
 obtain ⟨hw, hl⟩ := hS
 rw [aA]
 unfold fT.L1
 refine oL (σ := Nat) (fun k => .sref false 2 (jA w (l.take k)).length 0 (jA w (l.take k)).length) (fun k => .int .i64 k) (fun k => [.box (Sk.V ⟨b, t, a, l, o⟩), .map (.sb fun s => decide (s ∈ (jA w (l.take k)).map (·.key))), .row .own (jA w (l.take k)).length (.recs (jA w (l.take k)))]) (fun k => l.length - k) (fun k => k ≤ l.length) 0 rfl (by simp [jA, Sk.V]) (Nat.zero_le _) ?_
 intro I back k hk
 have hnext : k < l.length → jA w (l.take (k + 1)) = hitS w (jA w (l.take k)) (l.getD k 0) := fun h => by
   unfold jA; rw [gQ l k 0 h, List.foldl_append]; rfl
 obtain ⟨hnd, hol⟩ := aAS (w := w) (refs := l.take k) (out := []) (by simp)
 have hnd : ((jA w (l.take k)).map (·.key)).Nodup := hnd
 have hol : (jA w (l.take k)).length ≤ k := by
   have : (jA w (l.take k)).length ≤ 0 + (l.take k).length := hol
   rw [List.length_take] at this; omega
 by_cases hlt : k < l.length
 · have hb : ∀ (n : Nat) (lv : List AV) (h : List AObj), _ := fun n lv h => @back n lv h (k + 1)
   rw [hnext hlt] at hb
   clear back hnext
   generalize jA w (l.take k) = out at *
   cases hx : recO w (l.getD k 0) with
   | none =>
     obtain ⟨e, he, hr⟩ := aLb hx
     have hs : hitS w out (l.getD k 0) = out := by unfold hitS; rw [hx]
     rw [hs] at hb
     simp only [dO.C, hr, kE, he, decide_false, aA, Sk.V, aA, gq, reduceEq, reduceLT, reduceLE, implies_true, reduceCtorEq, if_true, if_false, go_sem, reduceEqDiff, Nat.reduceLT, reduceAdd, reduceSub, reduceLeDiff, reduceReplicate, reduceToNat]
     exact ⟨fun _ => ⟨⟨by omega, by omega⟩, hw, hb _ _ _ (by omega) (by rw [eH (by omega)]) rfl (by omega)⟩, fun h => absurd h (by omega)⟩
   | some y =>
     obtain ⟨y1, y2, y3, y4⟩ := y
     by_cases hin : y2 ∈ out.map (·.key)
     · have hs : hitS w out (l.getD k 0) = out := by unfold hitS; rw [hx]; simp only [hin, if_true]
       rw [hs] at hb
       simp only [dO.C, aFc hx, hin, decide_true, aA, Sk.V, aA, gq, reduceEq, reduceLT, reduceLE, implies_true, reduceCtorEq, if_true, if_false, go_sem, reduceEqDiff, Nat.reduceLT, reduceAdd, reduceSub, reduceLeDiff, reduceReplicate, reduceToNat]
       exact ⟨fun _ => ⟨⟨by omega, by omega⟩, hw, hb _ _ _ (by omega) (by rw [eH (by omega)]) rfl (by omega)⟩, fun h => absurd h (by omega)⟩
     · have hs : hitS w out (l.getD k 0) = out ++ [⟨y1, y2, y3, y4⟩] := by unfold hitS; rw [hx]; simp only [hin, if_false]; rfl
       rw [hs] at hb
       have hmap : (fun j => if j = y2 then true else decide (j ∈ out.map (·.key))) = fun j => decide (j ∈ (out ++ [(⟨y1, y2, y3, y4⟩ : RecT)]).map (·.key)) := by
         funext j
         rw [List.map_append, show decide (j ∈ out.map (·.key) ++ [(⟨y1, y2, y3, y4⟩ : RecT)].map (·.key)) = decide (j ∈ out.map (·.key) ∨ j = y2) from decide_eq_decide.2 (by simp)]
         by_cases e : j = y2
         · simp [e]
         · simp [e]
       simp only [dO.C, aFc hx, hin, decide_false, aA, Sk.V, aA, gq, reduceEq, reduceLT, reduceLE, implies_true, reduceCtorEq, if_true, if_false, go_sem, reduceEqDiff, Nat.reduceLT, reduceAdd, reduceSub, reduceLeDiff, reduceReplicate, reduceToNat]
       have hl1 : (out ++ [(⟨y1, y2, y3, y4⟩ : RecT)]).length = out.length + 1 := by simp
       refine ⟨fun _ => ⟨⟨by omega, by omega⟩, hw, by rw [hl1]; unfold roomy; omega, hb _ _ _ (by omega) (by rw [eH (by omega), hl1]) (by rw [hmap, hl1]; rfl) (by omega)⟩, fun h => absurd h (by omega)⟩
 · obtain rfl : k = l.length := by omega
   rw [List.take_length] at hnd hol ⊢
   clear back hnext
   simp only [Sk.V, aA, gq, reduceEq, reduceLT, reduceLE, implies_true, reduceCtorEq, if_true, if_false, go_sem, reduceEqDiff, Nat.reduceLT, reduceAdd, reduceSub, reduceLeDiff, reduceReplicate, reduceToNat]
   refine ⟨fun h => absurd h (by omega), fun _ => ?_⟩
   refine aOd ⟨b, t, a, l, o⟩ _ _ (jA w l) _ rfl (by omega) hnd _ fun l' tl hp hs => ?_
   simp only [hpS, SkT.V, aA, gq, reduceEq, reduceLT, reduceLE, implies_true, reduceCtorEq, if_true, if_false, go_sem, reduceEqDiff, Nat.reduceLT, reduceAdd, reduceSub, reduceLeDiff, reduceReplicate, reduceToNat]
   have e := aLc hp hs hnd
   rw [← e]
   refine aG ?_ rfl
   simp only [List.take_of_length_le (Nat.le_of_eq hp.length_eq), go_sem, reduceEqDiff, Nat.reduceLT, reduceAdd, reduceSub, reduceLeDiff, reduceReplicate, reduceToNat]
end Lam
namespace Lam
open Go Go.Proofs
end Lam
namespace Lam
open Go Go.Proofs
structure Rd where
 key : aY
 phase : Int
 block : Int
 to_ : Int
 seek : Sk
 val : aY
 found : Bool
def Rd.V (r : Rd) : AV := .agg [.str r.key, .int .i64 r.phase, .int .i64 r.block, .int .i64 r.to_, r.seek.V, .str r.val, .bool r.found]
def doM (m : Mm) (x : Mic) : Mm := if yG m [x] = true then runS m [x] else m
theorem aNf (m : Mm) (x : Mic) : ∃ e, runV m [x] = .tup [(doM m x).V, .int .i64 e] := by
 unfold runV doM
 split
 · exact ⟨_, rfl⟩
 · exact ⟨_, rfl⟩
def nX (m : Mm) (block line : Int) : Mm := if 0 ≤ block ∧ block < 256 then doM m ⟨2, 2 * block + line, 0⟩ else m
def vY (w : List Int) (b : Int) : Option (Int × aY) := match dF w b with
 | none => none
 | some n => if n.next = 0 then none else match (dF w n.next).bind (lowO w) with
   | none => none
   | some l => some (n.next, l)
def aBp (w : List Int) : Int := if eA w = true then w.getD 3 0 else 1
theorem aLd (w : List Int) (b : Int) : ∃ (n1 n2 n3 n4 : Int) (n5 : List Int) (e : Int) (lo : aY) (e2 : Int), qM w b = .tup [.agg [.int .i64 n1, .int .i64 n2, .int .i64 n3, .int .i64 n4, .sl false (.ints .i64 n5)], .int .i64 e] ∧ lowV w n3 = .tup [.str lo, .int .i64 e2] ∧ vY w b = if n3 ≠ 0 ∧ e2 = 0 then some (n3, lo) else none := by
 have hlow : ∀ x : Int, ∃ lo e2, lowV w x = .tup [.str lo, .int .i64 e2] ∧ (dF w x).bind (lowO w) = if e2 = 0 then some lo else none := fun x => by
   unfold lowV
   cases h : (dF w x).bind (lowO w) with
   | none => exact ⟨_, _, rfl, (if_neg (by decide)).symm⟩
   | some l => exact ⟨_, _, rfl, (if_pos rfl).symm⟩
 unfold vY
 cases hn : dF w b with
 | none =>
   obtain ⟨e, _, hv⟩ := nW hn
   obtain ⟨lo, e2, hl, _⟩ := hlow 0
   exact ⟨0, 0, 0, 0, [], e, lo, e2, hv, hl, (if_neg (fun h => h.1 rfl)).symm⟩
 | some n =>
   obtain ⟨n1, n2, n3, n4, n5⟩ := n
   obtain ⟨lo, e2, hl, hb⟩ := hlow n3
   refine ⟨n1, n2, n3, n4, n5, 0, lo, e2, iO hn, hl, ?_⟩
   simp only
   by_cases h0 : n3 = 0
   · rw [if_pos h0, if_neg (fun h => h.1 h0)]
   · rw [if_neg h0, hb]
     by_cases h2 : e2 = 0
     · rw [if_pos h2, if_pos ⟨h0, h2⟩]
     · rw [if_neg h2, if_neg (fun h => h2 h.2)]
end Lam
namespace Lam
open Go Go.Proofs
def eE.loops : Nat → bX
 | 3 => ⟨[], [], [], [(3, none), (2, some [24, 26])], [], []⟩
 | _ => ⟨[], [], [], [], [], []⟩
def eE.H (c : Ctx) (t0 : AV) (t1 : AV) (t2 : AV) (t3 : AV) (h : List AObj) (K : AOut → List AObj → Prop) : Prop :=
 cP aI h fun t8 h =>
 runD (lenD bP h t1) h fun t15 h =>
 runD (lenD bP h t2) h fun t17 h =>
 runD (maxD t15 t17) h fun t18 h =>
 runD (binD aB .gtr t18 (.int .i64 21)) h fun t19 h =>
 aW t19
 (runD (gT aI []) h fun t20 h =>
 runH (aO aI h t8 t20) h fun _ h =>
 cT (fitD aI (aD h t8)) fun r0 => K (.ret (.tup [r0, (.int .i64 20)])) h)
 (runD (binD aB .lss t3 (.int .i64 1)) h fun t23 h =>
 aJ (fun (J1 : AV → AV → List AObj → Prop) =>
 aT t23 false
 (runD (binD aB .gtr t3 (.int .i64 100)) h fun t26 h =>
 J1 (.bool false) t26 h)
 (J1 (.bool true) .und h))
 (fun t24 t26 h => runD (bK t24 (.bool true) t26) h fun t27 h =>
 aW t27
 (runD (gT aI []) h fun t28 h =>
 runH (aO aI h t8 t28) h fun _ h =>
 cT (fitD aI (aD h t8)) fun r0 => K (.ret (.tup [r0, (.int .i64 1)])) h)
 (aQ false c (.fn (.func 38) [] []) [t0] h (fun t31 h =>
 runD (aV t31 0) h fun t32 h =>
 runD (aV t31 1) h fun t33 h =>
 runD (aV t31 2) h fun t34 h =>
 runD (binD cM .neq t34 (.int .i64 0)) h fun t36 h =>
 aJ (fun (J2 : AV → List AObj → Prop) =>
 aW t36
 (J2 (.int .i64 1) h)
 (J2 t33 h))
 (fun t11 h => runD (gT aI [(0, t1), (1, t2), (2, t3), (3, (.int .i64 1)), (4, t11), (7, t1)]) h fun t42 h =>
 runH (aO aI h t8 t42) h fun _ h =>
 cT (fitD aI (aD h t8)) fun r0 => K (.ret (.tup [r0, (.int .i64 0)])) h))
 (fun v h => K (.pan v) h))))
def eK.loops : Nat → bX
 | 24 => ⟨[], [], [], [(4, none), (3, some [76, 79])], [], []⟩
 | _ => ⟨[], [], [], [], [], []⟩
def eK.H (c : Ctx) (t0 : AV) (t1 : AV) (h : List AObj) (K : AOut → List AObj → Prop) : Prop :=
 boxW aN t0 h fun t2 h =>
 boxW aI t1 h fun t3 h =>
 cP aN h fun t4 h =>
 cP aI h fun t5 h =>
 runD (aC aI t3 3) h fun t9 h =>
 runD (fitD aB (aD h t9)) h fun t10 h =>
 aJ (fun (J1 : List AObj → Prop) =>
 aJ (fun (J2 : AV → List AObj → Prop) =>
 runD (binD aB .eql t10 (.int .i64 1)) h fun t12 h =>
 aW t12
 (runD (fitD aN (aD h t2)) h fun t24 h =>
 runD (aC aN t2 0) h fun t25 h =>
 runD (fitD aM (aD h t25)) h fun t26 h =>
 runD (fitD aI (aD h t3)) h fun t27 h =>
 aQ false c.noS (.fn (.func 39) [] []) [t26, t27] h (fun t28 h =>
 runH (aO aN h t4 t24) h fun _ h =>
 runH (aO aI h t5 t28) h fun _ h =>
 cT (fitD aN (aD h t4)) fun r0 => cT (fitD aI (aD h t5)) fun r1 => K (.ret (.tup [r0, r1])) h)
 (fun _ _ => False))
 (runD (binD aB .eql t10 (.int .i64 2)) h fun t14 h =>
 aW t14
 (runD (aC aN t2 0) h fun t30 h =>
 runD (fitD aM (aD h t30)) h fun t31 h =>
 runD (aC aI t3 4) h fun t32 h =>
 runD (fitD aB (aD h t32)) h fun t33 h =>
 aQ false c (.fn (.func 40) [] []) [t31, t33] h (fun t34 h =>
 runD (aV t34 0) h fun t35 h =>
 runD (aV t34 1) h fun t36 h =>
 cP cB h fun t7 h =>
 runH (aO cB h t7 t35) h fun _ h =>
 runD (aC aI t3 3) h fun t37 h =>
 runH (aO aB h t37 (.int .i64 8)) h fun _ h =>
 runD (binD cM .eql t36 (.int .i64 0)) h fun t39 h =>
 aJ (fun (J3 : List AObj → Prop) =>
 aW t39
 (runD (fitD cB (aD h t7)) h fun t40 h =>
 runD (aC aI t3 6) h fun t41 h =>
 runH (aO cB h t41 t40) h fun _ h =>
 runD (aC aI t3 3) h fun t42 h =>
 runH (aO aB h t42 (.int .i64 3)) h fun _ h =>
 J3 h)
 (J3 h))
 (fun h => J1 h))
 (fun v h => K (.pan v) h))
 (runD (binD aB .eql t10 (.int .i64 3)) h fun t16 h =>
 aW t16
 (runD (aC aN t2 0) h fun t43 h =>
 runD (fitD aM (aD h t43)) h fun t44 h =>
 runD (aC aI t3 6) h fun t45 h =>
 runD (fitD cB (aD h t45)) h fun t46 h =>
 aQ false c (.fn (.func 41) [] []) [t44, t46] h (fun t47 h =>
 runD (aC aI t3 6) h fun t48 h =>
 runH (aO cB h t48 t47) h fun _ h =>
 runD (aC aI t3 6) h fun t49 h =>
 runD (aC cB t49 4) h fun t50 h =>
 runD (fitD mW (aD h t50)) h fun t51 h =>
 aJ (fun (J4 : List AObj → Prop) =>
 aW t51
 (runD (aC aI t3 3) h fun t52 h =>
 runH (aO aB h t52 (.int .i64 4)) h fun _ h =>
 J4 h)
 (J4 h))
 (fun h => J1 h))
 (fun v h => K (.pan v) h))
 (runD (binD aB .eql t10 (.int .i64 4)) h fun t18 h =>
 aW t18
 (runD (fitD aN (aD h t2)) h fun t53 h =>
 runD (aC aN t2 0) h fun t54 h =>
 runD (fitD aM (aD h t54)) h fun t55 h =>
 runD (fitD aI (aD h t3)) h fun t56 h =>
 aQ false c.noS (.fn (.func 42) [] []) [t55, t56] h (fun t57 h =>
 runH (aO aN h t4 t53) h fun _ h =>
 runH (aO aI h t5 t57) h fun _ h =>
 cT (fitD aN (aD h t4)) fun r0 => cT (fitD aI (aD h t5)) fun r1 => K (.ret (.tup [r0, r1])) h)
 (fun _ _ => False))
 (runD (binD aB .eql t10 (.int .i64 7)) h fun t20 h =>
 aW t20
 (J2 (.int .i64 1) h)
 (runD (binD aB .eql t10 (.int .i64 5)) h fun t22 h =>
 aJ (fun (J5 : AV → List AObj → Prop) =>
 aW t22
 (J5 t22 h)
 (runD (binD aB .eql t10 (.int .i64 6)) h fun t23 h =>
 J5 t23 h))
 (fun t21 h => aW t21
 (J2 (.int .i64 0) h)
 (J1 h))))))))
 (fun t6 h => runD (fitD aN (aD h t2)) h fun t58 h =>
 runD (aC aI t3 4) h fun t59 h =>
 runD (fitD aB (aD h t59)) h fun t60 h =>
 aQ false c (.fn (.func 43) [] []) [t58, t60, t6] h (fun t62 h =>
 runH (aO aN h t2 t62) h fun _ h =>
 runD (aC aI t3 3) h fun t68 h =>
 runD (fitD aB (aD h t68)) h fun t69 h =>
 runD (binD aB .eql t69 (.int .i64 6)) h fun t70 h =>
 aJ (fun (J6 : List AObj → Prop) =>
 aW t70
 (runD (aC aI t3 3) h fun t71 h =>
 runH (aO aB h t71 (.int .i64 7)) h fun _ h =>
 J6 h)
 (runD (aC aI t3 3) h fun t73 h =>
 runD (fitD aB (aD h t73)) h fun t74 h =>
 runD (binD aB .eql t74 (.int .i64 7)) h fun t75 h =>
 aJ (fun (J7 : AV → AV → List AObj → Prop) =>
 aT t75 true
 (runD (aC aI t3 5) h fun t77 h =>
 runD (fitD aB (aD h t77)) h fun t78 h =>
 runD (binD aB .eql t78 (.int .i64 0)) h fun t79 h =>
 J7 (.bool true) t79 h)
 (J7 (.bool false) .und h))
 (fun t76 t79 h => runD (bK t76 t79 (.bool false)) h fun t80 h =>
 aJ (fun (J8 : List AObj → Prop) =>
 aW t80
 (runD (aC aI t3 3) h fun t81 h =>
 runH (aO aB h t81 (.int .i64 8)) h fun _ h =>
 J8 h)
 (runD (aC aI t3 5) h fun t63 h =>
 runD (fitD aB (aD h t63)) h fun t64 h =>
 runD (aC aI t3 4) h fun t65 h =>
 runH (aO aB h t65 t64) h fun _ h =>
 runD (aC aI t3 3) h fun t66 h =>
 runH (aO aB h t66 (.int .i64 2)) h fun _ h =>
 J8 h))
 (fun h => J6 h))))
 (fun h => J1 h))
 (fun v h => K (.pan v) h)))
 (fun h => runD (fitD aN (aD h t2)) h fun t82 h =>
 runD (fitD aI (aD h t3)) h fun t83 h =>
 runH (aO aN h t4 t82) h fun _ h =>
 runH (aO aI h t5 t83) h fun _ h =>
 sepB t4 [t3] = true ∧ cT (fitD aN (aD h t4)) fun r0 => cT (fitD aI (aD h t5)) fun r1 => K (.ret (.tup [r0, r1])) h)
def iB.loops : Nat → bX
 | 4 => ⟨[], [], [], [(3, none), (3, some [30, 33])], [], []⟩
 | 6 => ⟨[], [], [], [(3, none), (2, some [39, 41])], [], []⟩
 | _ => ⟨[], [], [], [], [], []⟩
def iB.H (c : Ctx) (t0 : AV) (t1 : AV) (h : List AObj) (K : AOut → List AObj → Prop) : Prop :=
 boxW aI t1 h fun t3 h =>
 cP aI h fun t4 h =>
 runD (aC aI t3 4) h fun t11 h =>
 runD (fitD aB (aD h t11)) h fun t12 h =>
 aQ false c (.fn (.func 46) [] []) [t0, t12] h (fun t13 h =>
 runD (aV t13 0) h fun t14 h =>
 runD (aV t13 1) h fun t15 h =>
 cP bB h fun t5 h =>
 runH (aO bB h t5 t14) h fun _ h =>
 runD (aC aI t3 4) h fun t18 h =>
 runD (fitD aB (aD h t18)) h fun t19 h =>
 runD (aC aI t3 7) h fun t20 h =>
 runD (fitD bP (aD h t20)) h fun t21 h =>
 aQ false c (.fn (.func 49) [] []) [t0, t19, t21, (.int .i64 0)] h (fun t22 h =>
 runD (aV t22 0) h fun t23 h =>
 runD (aV t22 1) h fun t24 h =>
 runD (binD cM .eql t15 (.int .i64 0)) h fun t29 h =>
 aJ (fun (J1 : AV → AV → List AObj → Prop) =>
 aT t29 true
 (runD (aC bB t5 0) h fun t31 h =>
 runD (fitD aB (aD h t31)) h fun t32 h =>
 runD (binD aB .eql t32 (.int .i64 0)) h fun t33 h =>
 J1 (.bool true) t33 h)
 (J1 (.bool false) .und h))
 (fun t30 t33 h => runD (bK t30 t33 (.bool false)) h fun t34 h =>
 aJ (fun (J2 : List AObj → Prop) =>
 aW t34
 (runD (aC aI t3 3) h fun t35 h =>
 runH (aO aB h t35 (.int .i64 2)) h fun _ h =>
 J2 h)
 (runD (binD cM .neq t15 (.int .i64 0)) h fun t38 h =>
 aJ (fun (J3 : AV → AV → List AObj → Prop) =>
 aT t38 false
 (runD (binD cM .neq t24 (.int .i64 0)) h fun t41 h =>
 J3 (.bool false) t41 h)
 (J3 (.bool true) .und h))
 (fun t39 t41 h => runD (bK t39 (.bool true) t41) h fun t42 h =>
 aJ (fun (J4 : List AObj → Prop) =>
 aW t42
 (runD (aC aI t3 4) h fun t43 h =>
 runH (aO aB h t43 (.int .i64 1)) h fun _ h =>
 runD (aC aI t3 3) h fun t44 h =>
 runH (aO aB h t44 (.int .i64 2)) h fun _ h =>
 J4 h)
 (runD (aC aI t3 4) h fun t26 h =>
 runH (aO aB h t26 t23) h fun _ h =>
 J4 h))
 (fun h => J2 h))))
 (fun h => runD (fitD aI (aD h t3)) h fun t45 h =>
 runH (aO aI h t4 t45) h fun _ h =>
 cT (fitD aI (aD h t4)) fun r0 => K (.ret r0) h)))
 (fun v h => K (.pan v) h))
 (fun v h => K (.pan v) h)
def gJ.loops : Nat → bX
 | 6 => ⟨[], [], [], [(4, none), (2, some [36, 38])], [], []⟩
 | 7 => ⟨[], [], [], [(2, none), (4, some [41, 45])], [], []⟩
 | 12 => ⟨[], [], [], [], [10], []⟩
 | 16 => ⟨[], [], [], [(2, none), (5, some [75, 80]), (2, none), (9, some [82, 91])], [], []⟩
 | _ => ⟨[], [], [], [], [], []⟩
def gJ.H (c : Ctx) (t0 : AV) (t1 : AV) (h : List AObj) (K : AOut → List AObj → Prop) : Prop :=
 boxW aI t1 h fun t3 h =>
 cP aI h fun t4 h =>
 runD (aC aI t3 6) h fun t13 h =>
 runD (fitD cB (aD h t13)) h fun t14 h =>
 aQ false c (.fn (.func 71) [] []) [t0, t14] h (fun t15 h =>
 runD (unD .not t15) h fun t16 h =>
 aW t16
 (runD (aC aI t3 3) h fun t17 h =>
 runH (aO aB h t17 (.int .i64 2)) h fun _ h =>
 runD (fitD aI (aD h t3)) h fun t18 h =>
 runH (aO aI h t4 t18) h fun _ h =>
 cT (fitD aI (aD h t4)) fun r0 => K (.ret r0) h)
 (runD (aC aI t3 4) h fun t21 h =>
 runD (fitD aB (aD h t21)) h fun t22 h =>
 aQ false c (.fn (.func 46) [] []) [t0, t22] h (fun t23 h =>
 runD (aV t23 0) h fun t24 h =>
 runD (aV t23 1) h fun t25 h =>
 cP bB h fun t5 h =>
 runH (aO bB h t5 t24) h fun _ h =>
 runD (aC bB t5 2) h fun t28 h =>
 runD (fitD aB (aD h t28)) h fun t29 h =>
 aQ false c (.fn (.func 47) [] []) [t0, t29] h (fun t30 h =>
 runD (aV t30 0) h fun t31 h =>
 runD (aV t30 1) h fun t32 h =>
 runD (aC bB t5 2) h fun t33 h =>
 runD (fitD aB (aD h t33)) h fun t34 h =>
 runD (binD aB .neq t34 (.int .i64 0)) h fun t35 h =>
 aJ (fun (J1 : AV → AV → List AObj → Prop) =>
 aT t35 true
 (runD (binD cM .eql t32 (.int .i64 0)) h fun t38 h =>
 J1 (.bool true) t38 h)
 (J1 (.bool false) .und h))
 (fun t36 t38 h => runD (bK t36 t38 (.bool false)) h fun t39 h =>
 aJ (fun (J2 : AV → AV → List AObj → Prop) =>
 aT t39 true
 (runD (aC aI t3 7) h fun t43 h =>
 runD (fitD bP (aD h t43)) h fun t44 h =>
 runD (binD bP .leq t31 t44) h fun t45 h =>
 J2 (.bool true) t45 h)
 (J2 (.bool false) .und h))
 (fun t41 t45 h => runD (bK t41 t45 (.bool false)) h fun t46 h =>
 aW t46
 (runD (aC bB t5 2) h fun t47 h =>
 runD (fitD aB (aD h t47)) h fun t48 h =>
 runD (aC aI t3 5) h fun t49 h =>
 runH (aO aB h t49 t48) h fun _ h =>
 runD (aC aI t3 3) h fun t50 h =>
 runH (aO aB h t50 (.int .i64 5)) h fun _ h =>
 runD (fitD aI (aD h t3)) h fun t51 h =>
 runH (aO aI h t4 t51) h fun _ h =>
 cT (fitD aI (aD h t4)) fun r0 => K (.ret r0) h)
 (runD (aC aI t3 8) h fun t52 h =>
 runD (fitD bW (aD h t52)) h fun t53 h =>
 aQ false c (.fn (.func 72) [] []) [t53] h (fun t54 h =>
 cP bW h fun t10 h =>
 runH (aO bW h t10 t54) h fun _ h =>
 runD (fitD aI (aD h t3)) h fun t56 h =>
 aQ false c (.fn (.func 73) [] []) [t0, t56, t31, t39] h (fun t59 h =>
 aJ (fun (J3 : AV → AV → AV → AV → AV → AV → List AObj → Prop) =>
 vI c.iterS t59 (boxH [t10] h)
 (fun id r args h K => lpIs h id .ready r ∧ yM args fun t60 =>
 cP iT h fun t11 h =>
 runH (aO iT h t11 t60) h fun _ h =>
 lpIs h id .ready r ∧
 runD (fitD bW (aD (List.set h id (.lp .busy none r)) t10)) (List.set h id (.lp .busy none r)) fun t61 h =>
 runD (lenD bW h t61) h fun t62 h =>
 runD (aC aI t3 2) h fun t63 h =>
 runD (fitD aB (aD h t63)) h fun t64 h =>
 runD (binD aB .geq t62 t64) h fun t65 h =>
 aW t65
 (lpIs h id .busy r ∧ K (.ret (.bool false)) (List.set h id (.lp .done (some (.exit 0)) r)))
 (runD (fitD bW (aD h t10)) h fun t66 h =>
 runD (fitD iT (aD h t11)) h fun t67 h =>
 runD (eN bW 1 [(0, t67)] h.length) h fun t68 h =>
 jC (fI bW h t66 t68 h.length) (fW bW h t66 t68) h fun t69 h =>
 runH (aO bW h t10 t69) h fun _ h =>
 lpIs h id .busy r ∧ K (.ret (.bool true)) (List.set h id (.lp .ready none r))))
 (fun id r ao h => endX id r ao h
 (fun h => J3 t3 t4 t5 t31 t39 t10 h)
 (fun h => cT (fitD aI (aD h t4)) fun r0 => K (.ret r0) h)
 (fun i h => aCD i 0 (J3 t3 t4 t5 t31 t39 t10 h) (False))
 (fun l h => False)
 (fun v h => K (.pan v) h)))
 (fun t3 t4 t5 t7 t9 t10 h => runD (fitD bW (aD h t10)) h fun t70 h =>
 runD (aC aI t3 8) h fun t71 h =>
 runH (aO bW h t71 t70) h fun _ h =>
 runD (aC aI t3 5) h fun t72 h =>
 runH (aO aB h t72 (.int .i64 0)) h fun _ h =>
 runD (aC aI t3 3) h fun t73 h =>
 runH (aO aB h t73 (.int .i64 6)) h fun _ h =>
 aJ (fun (J4 : AV → AV → List AObj → Prop) =>
 aT t9 true
 (runD (fitD bW (aD h t10)) h fun t76 h =>
 runD (lenD bW h t76) h fun t77 h =>
 runD (aC aI t3 2) h fun t78 h =>
 runD (fitD aB (aD h t78)) h fun t79 h =>
 runD (binD aB .lss t77 t79) h fun t80 h =>
 J4 (.bool true) t80 h)
 (J4 (.bool false) .und h))
 (fun t75 t80 h => runD (bK t75 t80 (.bool false)) h fun t81 h =>
 aJ (fun (J5 : AV → AV → List AObj → Prop) =>
 aT t81 true
 (runD (aC aI t3 1) h fun t83 h =>
 runD (fitD bP (aD h t83)) h fun t84 h =>
 runD (binD bP .eql t84 (.str [])) h fun t85 h =>
 aJ (fun (J6 : AV → AV → List AObj → Prop) =>
 aT t85 false
 (runD (aC aI t3 1) h fun t88 h =>
 runD (fitD bP (aD h t88)) h fun t89 h =>
 runD (binD bP .lss t7 t89) h fun t90 h =>
 J6 (.bool false) t90 h)
 (J6 (.bool true) .und h))
 (fun t86 t90 h => runD (bK t86 (.bool true) t90) h fun t91 h =>
 J5 (.bool true) t91 h))
 (J5 (.bool false) .und h))
 (fun t82 t91 h => runD (bK t82 t91 (.bool false)) h fun t92 h =>
 aJ (fun (J7 : List AObj → Prop) =>
 aW t92
 (runD (aC bB t5 2) h fun t93 h =>
 runD (fitD aB (aD h t93)) h fun t94 h =>
 runD (aC aI t3 5) h fun t96 h =>
 runH (aO aB h t96 t94) h fun _ h =>
 runD (aC aI t3 7) h fun t97 h =>
 runH (aO bP h t97 t7) h fun _ h =>
 J7 h)
 (J7 h))
 (fun h => runD (fitD aI (aD h t3)) h fun t98 h =>
 runH (aO aI h t4 t98) h fun _ h =>
 cT (fitD aI (aD h t4)) fun r0 => K (.ret r0) h)))))
 (fun v h => K (.pan v) h))
 (fun v h => K (.pan v) h)))))
 (fun v h => K (.pan v) h))
 (fun v h => K (.pan v) h)))
 (fun v h => K (.pan v) h)
def fU.loops : Nat → bX
 | 1 => ⟨[], [], [], [(3, none), (2, some [9, 11])], [], []⟩
 | _ => ⟨[], [], [], [], [], []⟩
def fU.H (c : Ctx) (t0 : AV) (t1 : AV) (t2 : AV) (h : List AObj) (K : AOut → List AObj → Prop) : Prop :=
 boxW aN t0 h fun t3 h =>
 cP aN h fun t6 h =>
 runD (binD aB .geq t1 (.int .i64 0)) h fun t8 h =>
 aJ (fun (J1 : AV → AV → List AObj → Prop) =>
 aT t8 true
 (runD (binD aB .lss t1 (.int .i64 256)) h fun t11 h =>
 J1 (.bool true) t11 h)
 (J1 (.bool false) .und h))
 (fun t9 t11 h => runD (bK t9 t11 (.bool false)) h fun t12 h =>
 aJ (fun (J2 : List AObj → Prop) =>
 aW t12
 (runD (fitD aN (aD h t3)) h fun t14 h =>
 runD (binD aB .mul (.int .i64 2) t1) h fun t16 h =>
 runD (binD aB .add t16 t2) h fun t18 h =>
 runD (gT fM [(0, (.int .i64 2)), (1, t18)]) h fun t19 h =>
 aQ false c (.fn (.func 74) [] []) [t14, t19] h (fun t20 h =>
 runD (aV t20 0) h fun t21 h =>
 runD (aV t20 1) h fun t22 h =>
 runH (aO aN h t3 t21) h fun _ h =>
 J2 h)
 (fun v h => K (.pan v) h))
 (J2 h))
 (fun h => runD (fitD aN (aD h t3)) h fun t23 h =>
 runH (aO aN h t6 t23) h fun _ h =>
 cT (fitD aN (aD h t6)) fun r0 => K (.ret r0) h))
def gN.loops : Nat → bX
 | _ => ⟨[], [], [], [], [], []⟩
def gN.H (c : Ctx) (t0 : AV) (t1 : AV) (t2 : AV) (t3 : AV) (h : List AObj) (K : AOut → List AObj → Prop) : Prop :=
 boxW aM t0 h fun t4 h =>
 boxW aI t1 h fun t5 h =>
 boxW bP t2 h fun t6 h =>
 boxW mW t3 h fun t7 h =>
 K (.ret (.fn (.func 95) [] [t4, t5, t7, t6])) h
def eC.loops : Nat → bX
 | 1 => ⟨[14], [false], [0, 2, 3, 4, 12, 13], [], [], []⟩
 | 4 => ⟨[], [], [], [(2, none), (10, some [27, 37]), (2, none), (8, some [39, 47]), (2, none), (8, some [49, 57])], [], []⟩
 | _ => ⟨[], [], [], [], [], []⟩
def eC.L1 (c : Ctx) (J1 : List AObj → Prop) (K : AOut → List AObj → Prop) (lv : List AV) (h0 : List AObj) (n0 : Nat) (c0 : AV) (c2 : AV) (c3 : AV) (c4 : AV) (c12 : AV) (c13 : AV) : Prop :=
 ∃ I : Nat → List AV → List AObj → Prop, (∃ n, I n lv h0) ∧ ∀ n h, ∀ t14, I n [t14] h →
 runD (binD aB .lss t14 c13) h fun t15 h =>
 aW t15
 (runD (aH aU h c12 t14) h fun t16 h =>
 runD (fitD aK (aD h t16)) h fun t17 h =>
 cP aK h fun t7 h =>
 runH (aO aK h t7 t17) h fun _ h =>
 runD (aC aK t7 1) h fun t18 h =>
 runD (fitD bP (aD h t18)) h fun t19 h =>
 runD (aC aI c2 0) h fun t20 h =>
 runD (fitD bP (aD h t20)) h fun t21 h =>
 runD (aC aI c2 7) h fun t22 h =>
 runD (fitD bP (aD h t22)) h fun t23 h =>
 runD (maxD t21 t23) h fun t24 h =>
 runD (binD bP .geq t19 t24) h fun t25 h =>
 aJ (fun (J2 : AV → AV → List AObj → Prop) =>
 aT t25 true
 (runD (aC aI c2 1) h fun t28 h =>
 runD (fitD bP (aD h t28)) h fun t29 h =>
 runD (binD bP .eql t29 (.str [])) h fun t30 h =>
 aJ (fun (J3 : AV → AV → List AObj → Prop) =>
 aT t30 false
 (runD (aC aK t7 1) h fun t32 h =>
 runD (fitD bP (aD h t32)) h fun t33 h =>
 runD (aC aI c2 1) h fun t34 h =>
 runD (fitD bP (aD h t34)) h fun t35 h =>
 runD (binD bP .lss t33 t35) h fun t36 h =>
 J3 (.bool false) t36 h)
 (J3 (.bool true) .und h))
 (fun t31 t36 h => runD (bK t31 (.bool true) t36) h fun t37 h =>
 J2 (.bool true) t37 h))
 (J2 (.bool false) .und h))
 (fun t27 t37 h => runD (bK t27 t37 (.bool false)) h fun t38 h =>
 aJ (fun (J4 : AV → AV → List AObj → Prop) =>
 aT t38 true
 (runD (fitD mW (aD h c3)) h fun t40 h =>
 runD (unD .not t40) h fun t41 h =>
 aJ (fun (J5 : AV → AV → List AObj → Prop) =>
 aT t41 false
 (runD (aC aK t7 1) h fun t43 h =>
 runD (fitD bP (aD h t43)) h fun t44 h =>
 runD (fitD bP (aD h c4)) h fun t45 h =>
 runD (binD bP .lss t44 t45) h fun t46 h =>
 J5 (.bool false) t46 h)
 (J5 (.bool true) .und h))
 (fun t42 t46 h => runD (bK t42 (.bool true) t46) h fun t47 h =>
 J4 (.bool true) t47 h))
 (J4 (.bool false) .und h))
 (fun t39 t47 h => runD (bK t39 t47 (.bool false)) h fun t48 h =>
 aJ (fun (J6 : AV → AV → List AObj → Prop) =>
 aT t48 true
 (runD (aC aK t7 1) h fun t51 h =>
 runD (fitD bP (aD h t51)) h fun t52 h =>
 runD (aC aK t7 2) h fun t53 h =>
 runD (fitD bP (aD h t53)) h fun t54 h =>
 runD (gT iT [(0, t52), (1, t54)]) h fun t55 h =>
 aQ false c c0 [t55] h (fun t56 h =>
 runD (unD .not t56) h fun t57 h =>
 J6 (.bool true) t57 h)
 (fun v h => K (.pan v) h))
 (J6 (.bool false) .und h))
 (fun t49 t57 h => runD (bK t49 t57 (.bool false)) h fun t58 h =>
 aW t58
 (K (.ret (.tup [])) h)
 (runD (binD aB .add t14 (.int .i64 1)) h fun t59 h =>
 (∃ m, m < n ∧ I m (AV.norms n0 h [t59]) (cJ n0 h)) ∧ AV.norms n0 h [c0, c2, c3, c4, c12, c13] = [c0, c2, c3, c4, c12, c13])))))
 (J1 h)
def eC.H (c : Ctx) (t0 : AV) (t1 : AV) (t2 : AV) (t3 : AV) (t4 : AV) (h : List AObj) (K : AOut → List AObj → Prop) : Prop :=
 runD (fitD aM (aD h t1)) h fun t9 h =>
 runD (aC aI t2 6) h fun t10 h =>
 runD (fitD cB (aD h t10)) h fun t11 h =>
 aQ false c (.fn (.func 89) [] []) [t9, t11] h (fun t12 h =>
 runD (lenD aU h t12) h fun t13 h =>
 aJ (fun (J1 : List AObj → Prop) =>
 dC [false] [(.int .i64 0)] h fun lv h => eC.L1 c J1 K (AV.norms h.length h lv) (cJ h.length h) h.length (AV.norm h.length h t0) (AV.norm h.length h t2) (AV.norm h.length h t3) (AV.norm h.length h t4) (AV.norm h.length h t12) (AV.norm h.length h t13))
 (fun h => K (.ret (.tup [])) h))
 (fun v h => K (.pan v) h)
theorem eE.eq (F : List (FuncId × aE)) (S : List (FuncId × Con)) (t0 t1 t2 t3 : AV) (h : List AObj) (K : AOut → List AObj → Prop) : funW (ctx F S eE.loops) Tryz.f18 [t0, t1, t2, t3] h K = eE.H (ctx F S eE.loops) t0 t1 t2 t3 h K := by kernel_rfl
theorem eK.eq (F : List (FuncId × aE)) (S : List (FuncId × Con)) (t0 t1 : AV) (h : List AObj) (K : AOut → List AObj → Prop) : funW (ctx F S eK.loops) Tryz.f19 [t0, t1] h K = eK.H (ctx F S eK.loops) t0 t1 h K := by kernel_rfl
theorem iB.eq (F : List (FuncId × aE)) (S : List (FuncId × Con)) (t0 t1 : AV) (h : List AObj) (K : AOut → List AObj → Prop) : funW (ctx F S iB.loops) Tryz.f39 [t0, t1] h K = iB.H (ctx F S iB.loops) t0 t1 h K := by kernel_rfl
theorem gJ.eq (F : List (FuncId × aE)) (S : List (FuncId × Con)) (Is : List (FuncId × (Con → Con))) (t0 t1 : AV) (h : List AObj) (K : AOut → List AObj → Prop) : funW (ctxI F S Is gJ.loops) Tryz.f42 [t0, t1] h K = gJ.H (ctxI F S Is gJ.loops) t0 t1 h K := by kernel_rfl
theorem fU.eq (F : List (FuncId × aE)) (S : List (FuncId × Con)) (t0 t1 t2 : AV) (h : List AObj) (K : AOut → List AObj → Prop) : funW (ctx F S fU.loops) Tryz.f43 [t0, t1, t2] h K = fU.H (ctx F S fU.loops) t0 t1 t2 h K := by kernel_rfl
theorem gN.eq (F : List (FuncId × aE)) (S : List (FuncId × Con)) (t0 t1 t2 t3 : AV) (h : List AObj) (K : AOut → List AObj → Prop) : funW (ctx F S gN.loops) Tryz.f73 [t0, t1, t2, t3] h K = gN.H (ctx F S gN.loops) t0 t1 t2 t3 h K := by kernel_rfl
theorem eC.eq (F : List (FuncId × aE)) (S : List (FuncId × Con)) (l : Nat) (Y : Con) (t0 t1 t2 t3 t4 : AV) (h : List AObj) (K : AOut → List AObj → Prop) : funW ((ctx F S eC.loops).withY l Y) Tryz.f95 [t0, t1, t2, t3, t4] h K = eC.H ((ctx F S eC.loops).withY l Y) t0 t1 t2 t3 t4 h K := by kernel_rfl
theorem eE.at : Tryz.prog.funcs[18]? = some Tryz.f18 := by kernel_rfl
theorem eE.nm : (Tryz.f18.name == "runtime.NumGoroutine") = false := by kernel_rfl
theorem eE.bd : Tryz.f18.body.isNone = false := by kernel_rfl
theorem eK.at : Tryz.prog.funcs[19]? = some Tryz.f19 := by kernel_rfl
theorem eK.nm : (Tryz.f19.name == "runtime.NumGoroutine") = false := by kernel_rfl
theorem eK.bd : Tryz.f19.body.isNone = false := by kernel_rfl
theorem iB.at : Tryz.prog.funcs[39]? = some Tryz.f39 := by kernel_rfl
theorem iB.nm : (Tryz.f39.name == "runtime.NumGoroutine") = false := by kernel_rfl
theorem iB.bd : Tryz.f39.body.isNone = false := by kernel_rfl
theorem gJ.at : Tryz.prog.funcs[42]? = some Tryz.f42 := by kernel_rfl
theorem gJ.nm : (Tryz.f42.name == "runtime.NumGoroutine") = false := by kernel_rfl
theorem gJ.bd : Tryz.f42.body.isNone = false := by kernel_rfl
theorem fU.at : Tryz.prog.funcs[43]? = some Tryz.f43 := by kernel_rfl
theorem fU.nm : (Tryz.f43.name == "runtime.NumGoroutine") = false := by kernel_rfl
theorem fU.bd : Tryz.f43.body.isNone = false := by kernel_rfl
theorem gN.at : Tryz.prog.funcs[73]? = some Tryz.f73 := by kernel_rfl
theorem gN.nm : (Tryz.f73.name == "runtime.NumGoroutine") = false := by kernel_rfl
theorem gN.bd : Tryz.f73.body.isNone = false := by kernel_rfl
theorem eC.at : Tryz.prog.funcs[95]? = some Tryz.f95 := by kernel_rfl
theorem eC.nm : (Tryz.f95.name == "runtime.NumGoroutine") = false := by kernel_rfl
theorem eC.bd : Tryz.f95.body.isNone = false := by kernel_rfl
end Lam
namespace Lam
open Go Go.Proofs
structure Sc where
 lo : aY
 hi : aY
 limit : Int
 phase : Int
 block : Int
 to_ : Int
 seek : Sk
 from_ : aY
 out : List iY
def Sc.V (s : Sc) : AV := .agg [.str s.lo, .str s.hi, .int .i64 s.limit, .int .i64 s.phase, .int .i64 s.block, .int .i64 s.to_, s.seek.V, .str s.from_, .sl false (.pairs s.out)]
def scZ : Sc := ⟨[], [], 0, 0, 0, 0, skZ, [], []⟩
def sc0 (w : List Int) (lo hi : aY) (limit : Int) : Sc := ⟨lo, hi, limit, 1, aBp w, 0, skZ, lo, []⟩
def jW (w : List Int) (lo hi : aY) (limit : Int) : AV := if 21 < lo.length ∨ 21 < hi.length then .tup [scZ.V, .int .i64 20] else if limit < 1 ∨ 100 < limit then .tup [scZ.V, .int .i64 1] else .tup [(sc0 w lo hi limit).V, .int .i64 0]
def eE.C : aE
 | [.sl _ (.ints .i64 w), .str lo, .str hi, .int .i64 limit] => some (false, pD (roomy w.length) (jW w lo hi limit))
 | _ => none
theorem eE.spec : bI Tryz.prog 18 eE.C := by
 refine bI.of (bR (F := [(38, dU.C)]) (S := []) (by simpa using dU.spec) (by simp) eE.loops) eE.at eE.nm eE.bd ?_
 intro vs b S v news e hS
 unfold eE.C at e
 split at e
 rotate_left
 · cases e
 cases e
 rw [eE.eq]
 unfold eE.H
 simp (maxSteps := 4000000) only [go_sem, reduceEqDiff, Nat.reduceLT, reduceAdd, reduceSub, reduceLeDiff, reduceReplicate, reduceToNat, dU.C]
 rename_i w lo hi limit
 unfold jW
 have hz : roomy ([] : List iY).length := by unfold roomy; decide
 refine ⟨fun h => ?_, fun h => ⟨fun h2 => ?_, fun h2 => ?_⟩⟩
 · rw [if_pos (by split at h <;> omega)]
   exact aG rfl rfl
 · rw [if_neg (by split at h <;> omega)]
   simp only [Bool.or_eq_true, decide_eq_true_eq] at h2
   rw [if_pos h2]
   exact aG rfl rfl
 · rw [if_neg (by split at h <;> omega)]
   simp only [Bool.or_eq_false_iff, decide_eq_false_iff_not] at h2
   rw [if_neg (by omega)]
   refine ⟨hS, ?_⟩
   unfold sc0 aBp
   cases hb : eA w with
   | true =>
     have hv : kP w = .tup [.int .i64 (w.getD 1 0), .int .i64 (w.getD 3 0), .int .i64 0] := by unfold kP; rw [hb]; rfl
     simp only [hv, Sc.V, Sk.V, skZ, if_true, decide_true, decide_false, aA, aA, gq, reduceEq, reduceLT, reduceLE, implies_true, reduceCtorEq, if_true, if_false, go_sem, reduceEqDiff, Nat.reduceLT, reduceAdd, reduceSub, reduceLeDiff, reduceReplicate, reduceToNat]
     exact aG rfl rfl
   | false =>
     have hv : kP w = .tup [.int .i64 0, .int .i64 0, .int .i64 80] := by unfold kP; rw [hb]; rfl
     simp only [hv, Sc.V, Sk.V, skZ, if_false, decide_true, decide_false, aA, aA, gq, reduceEq, reduceLT, reduceLE, implies_true, reduceCtorEq, if_true, if_false, go_sem, reduceEqDiff, Nat.reduceLT, reduceAdd, reduceSub, reduceLeDiff, reduceReplicate, reduceToNat]
     exact aG rfl rfl
def fU.C : aE
 | [.agg [.sl false (.ints .i64 vol), .sl false (.ints .i64 per), .sl false (.pends pend)], .int .i64 block, .int .i64 line] => some (false, pD (mB vol per pend ∧ pend.length + 1 ≤ 1000000 ∧ 0 ≤ line ∧ line ≤ 1) (nX ⟨vol, per, pend⟩ block line).V)
 | _ => none
theorem fU.spec : bI Tryz.prog 43 fU.C := by
 refine bI.of (bR (F := [(74, iH.C)]) (S := []) (by simpa using iH.spec) (by simp) fU.loops) fU.at fU.nm fU.bd ?_
 intro vs b S v news e hS
 unfold fU.C at e
 split at e
 rotate_left
 · cases e
 cases e
 rw [fU.eq]
 unfold fU.H
 simp (maxSteps := 4000000) only [go_sem, reduceEqDiff, Nat.reduceLT, reduceAdd, reduceSub, reduceLeDiff, reduceReplicate, reduceToNat, iH.C]
 rename_i vol per pend block line
 obtain ⟨hsm, hpe, h0, h1⟩ := hS
 unfold nX
 by_cases hb : 0 ≤ block ∧ block < 256
 · rw [if_pos hb]
   have e1 : IntKind.i64.wrap (2 * block) = 2 * block := w64 (by omega) (by omega)
   have e2 : IntKind.i64.wrap (2 * block + line) = 2 * block + line := w64 (by omega) (by omega)
   have d1 : decide (0 ≤ block) = true := decide_eq_true hb.1
   have d2 : decide (block < 256) = true := decide_eq_true hb.2
   obtain ⟨e, he⟩ := aNf ⟨vol, per, pend⟩ ⟨2, 2 * block + line, 0⟩
   generalize doM ⟨vol, per, pend⟩ ⟨2, 2 * block + line, 0⟩ = m' at *
   obtain ⟨vol', per', pend'⟩ := m'
   simp only [Mm.V, memV, d1, d2, e1, e2, he, iH.C, aA, aA, gq, reduceEq, reduceLT, reduceLE, implies_true, reduceCtorEq, if_true, if_false, go_sem, reduceEqDiff, Nat.reduceLT, reduceAdd, reduceSub, reduceLeDiff, reduceReplicate, reduceToNat]
   exact ⟨⟨hsm, by omega⟩, aG rfl rfl⟩
 · rw [if_neg hb]
   by_cases hb0 : 0 ≤ block
   · have d1 : decide (0 ≤ block) = true := decide_eq_true hb0
     have d2 : decide (block < 256) = false := decide_eq_false (by omega)
     simp only [Mm.V, memV, d1, d2, aA, aA, gq, reduceEq, reduceLT, reduceLE, implies_true, reduceCtorEq, if_true, if_false, go_sem, reduceEqDiff, Nat.reduceLT, reduceAdd, reduceSub, reduceLeDiff, reduceReplicate, reduceToNat]
     exact aG rfl rfl
   · have d1 : decide (0 ≤ block) = false := decide_eq_false hb0
     simp only [Mm.V, memV, d1, aA, aA, gq, reduceEq, reduceLT, reduceLE, implies_true, reduceCtorEq, if_true, if_false, go_sem, reduceEqDiff, Nat.reduceLT, reduceAdd, reduceSub, reduceLeDiff, reduceReplicate, reduceToNat]
     exact aG rfl rfl
def qP (w : List Int) (s : Sc) : Sc := match dF w s.block with
 | none => { s with block := 1, phase := 2 }
 | some n => if n.level = 0 then { s with phase := 2 } else match lI w s.block s.from_ 0 with
   | none => { s with block := 1, phase := 2 }
   | some t => { s with block := t }
def iB.C : aE
 | [.sl _ (.ints .i64 w), .agg [.str lo, .str hi, .int .i64 limit, .int .i64 phase, .int .i64 block, .int .i64 to_, .agg [.int .i64 sb, .int .i64 st, .int .i64 sa, .sl false (.ints .i64 sr), .bool so], .str from_, .sl false (.pairs out)]] => some (false, pD (iE w) (qP w ⟨lo, hi, limit, phase, block, to_, ⟨sb, st, sa, sr, so⟩, from_, out⟩).V)
 | _ => none
theorem iB.spec : bI Tryz.prog 39 iB.C := by
 refine bI.of (bR (F := [(46, cN.C), (49, dV.C)]) (S := []) (by simpa using ⟨cN.spec, dV.spec⟩) (by simp) iB.loops) iB.at iB.nm iB.bd ?_
 intro vs b S v news e hS
 unfold iB.C at e
 split at e
 rotate_left
 · cases e
 cases e
 rw [iB.eq]
 unfold iB.H
 simp (maxSteps := 4000000) only [go_sem, reduceEqDiff, Nat.reduceLT, reduceAdd, reduceSub, reduceLeDiff, reduceReplicate, reduceToNat, cN.C, dV.C]
 rename_i w lo hi limit phase block to_ sb st sa sr so from_ out
 have hr := iE.roomy hS
 unfold qP
 simp only
 cases hn : dF w block with
 | none =>
   obtain ⟨e, he, hv⟩ := nW hn
   have hd : mX w block from_ 0 = .tup [.int .i64 0, .int .i64 90] := by unfold mX lI; rw [hn]
   simp only [dV.C, Sc.V, Sk.V, jM, hv, he, hd, decide_false, decide_true, aA, aA, gq, reduceEq, reduceLT, reduceLE, implies_true, reduceCtorEq, if_true, if_false, go_sem, reduceEqDiff, Nat.reduceLT, reduceAdd, reduceSub, reduceLeDiff, reduceReplicate, reduceToNat]
   exact ⟨hr, hS, aG rfl rfl⟩
 | some n =>
   obtain ⟨n1, n2, n3, n4, n5⟩ := n
   by_cases h0 : n1 = 0
   · obtain ⟨t, e, hd⟩ : ∃ t e, mX w block from_ 0 = .tup [.int .i64 t, .int .i64 e] := by
       unfold mX
       cases lI w block from_ 0 with
       | none => exact ⟨_, _, rfl⟩
       | some t => exact ⟨_, _, rfl⟩
     simp only [dV.C, Sc.V, Sk.V, Nd.V, iO hn, h0, hd, decide_false, decide_true, aA, aA, gq, reduceEq, reduceLT, reduceLE, implies_true, reduceCtorEq, if_true, if_false, go_sem, reduceEqDiff, Nat.reduceLT, reduceAdd, reduceSub, reduceLeDiff, reduceReplicate, reduceToNat]
     exact ⟨hr, hS, aG rfl rfl⟩
   · cases hd : lI w block from_ 0 with
     | none =>
       have hdv : mX w block from_ 0 = .tup [.int .i64 0, .int .i64 90] := by unfold mX; rw [hd]
       simp only [dV.C, Sc.V, Sk.V, Nd.V, iO hn, h0, hdv, decide_false, decide_true, aA, aA, gq, reduceEq, reduceLT, reduceLE, implies_true, reduceCtorEq, if_true, if_false, go_sem, reduceEqDiff, Nat.reduceLT, reduceAdd, reduceSub, reduceLeDiff, reduceReplicate, reduceToNat]
       exact ⟨hr, hS, aG rfl rfl⟩
     | some t =>
       have hdv : mX w block from_ 0 = .tup [.int .i64 t, .int .i64 0] := by unfold mX; rw [hd]
       simp only [dV.C, Sc.V, Sk.V, Nd.V, iO hn, h0, hdv, decide_false, decide_true, aA, aA, gq, reduceEq, reduceLT, reduceLE, implies_true, reduceCtorEq, if_true, if_false, go_sem, reduceEqDiff, Nat.reduceLT, reduceAdd, reduceSub, reduceLeDiff, reduceReplicate, reduceToNat]
       exact ⟨hr, hS, aG rfl rfl⟩
end Lam
namespace Lam
open Go Go.Proofs
def eC.I : Con → Con := fun Y args h K => match args with
 | [.fn (.yield l) [] [], a0, a1, a2, a3] => eC.H ((ctx [(89, fT.C)] [] eC.loops).withY l Y) (.fn (.yield l) [] []) a0 a1 a2 a3 h K
 | _ => False
theorem eC.spec : qK Tryz.prog 95 eC.I := by
 refine qK.of (bR (F := [(89, fT.C)]) (S := []) (by simpa using fT.spec) (by simp) eC.loops).toOkI eC.at eC.nm eC.bd ?_
 intro Yc l cap h K hC
 unfold eC.I at hC
 split at hC
 · rename_i e
   simp only [List.cons.injEq, AV.fn.injEq, Fn.yield.injEq, and_true, true_and] at e
   obtain ⟨rfl, rfl⟩ := e
   rw [eC.eq]; exact hC
 · exact hC.elim
def gN.K : Con := fun args h K => match args with
 | [a0, a1, a2, a3] => gN.H (ctx [] [] gN.loops) a0 a1 a2 a3 h K
 | _ => False
theorem gN.spec : dH Tryz.prog 73 gN.K := by
 refine dH.of (bR (F := []) (S := []) (by simp) (by simp) gN.loops) gN.at gN.nm gN.bd ?_
 intro args h K hC
 unfold gN.K at hC
 split at hC
 · rw [gN.eq]; exact hC
 · exact hC.elim
def bQ.C : aE
 | [.sl _ (.pairs l)] => some (true, some (roomy l.length, .sref false 0 0 0 l.length, [.row .own 0 (.pairs l)]))
 | _ => none
theorem bQ.spec : bI Tryz.prog 72 bQ.C := by
 refine bI.of (bR (F := []) (S := []) (by simp) (by simp) bQ.loops) bQ.at bQ.nm bQ.bd ?_
 intro vs b S v news e hS
 unfold bQ.C at e
 split at e
 rotate_left
 · cases e
 cases e
 rw [bQ.eq]
 unfold bQ.H
 simp (maxSteps := 4000000) only [go_sem, reduceEqDiff, Nat.reduceLT, reduceAdd, reduceSub, reduceLeDiff, reduceReplicate, reduceToNat]
 rename_i l
 intro b hb
 refine ⟨fun h => ?_, fun h => ⟨hS, vT rfl (by simp)⟩⟩
 have : l = [] := List.eq_nil_of_length_eq_zero (hb h)
 subst this
 exact aCj rfl
def sIn (s : Sc) (high : aY) (bound : Bool) (x : RecT) : Bool := !ltB x.key (if ltB s.lo s.from_ = true then s.from_ else s.lo) && (decide (s.hi = []) || ltB x.key s.hi) && (!bound || ltB x.key high)
def kX (x : RecT) : iY := ⟨x.key, x.val⟩
def sOut (w : List Int) (s : Sc) (high : aY) (bound : Bool) : List iY := s.out ++ (((uU (jA w s.seek.refs)).filter (sIn s high bound)).map kX).take (s.limit - s.out.length).toNat
def oD (w : List Int) (s : Sc) (bnd : Bool) (high : aY) (to : Int) : Sc := if (bnd && decide (((sOut w s high bnd).length : Int) < s.limit) && (decide (s.hi = []) || ltB high s.hi)) = true then { s with out := sOut w s high bnd, to_ := to, phase := 6, from_ := high } else { s with out := sOut w s high bnd, to_ := 0, phase := 6 }
def lC (w : List Int) (s : Sc) : Sc := if tT w s.seek.block s.seek.turn = false then { s with phase := 2 } else match vY w s.block with
 | none => oD w s false [] 0
 | some (to, high) => if ltB s.from_ high = false then { s with to_ := to, phase := 5 } else oD w s true high to
def gJ.C : aE
 | [.sl _ (.ints .i64 w), .agg [.str lo, .str hi, .int .i64 limit, .int .i64 phase, .int .i64 block, .int .i64 to_, .agg [.int .i64 sb, .int .i64 st, .int .i64 sa, .sl false (.ints .i64 sr), .bool so], .str from_, .sl false (.pairs out)]] => some (false, pD (iE w ∧ sr.length ≤ 200 ∧ out.length ≤ 1000) (lC w ⟨lo, hi, limit, phase, block, to_, ⟨sb, st, sa, sr, so⟩, from_, out⟩).V)
 | _ => none
theorem gJ.spec : bI Tryz.prog 42 gJ.C := by
 refine bI.of (aBm (F := [(71, gI.C), (46, cN.C), (47, dB.C), (72, bQ.C)]) (S := [(73, gN.K)]) (Is := [(95, eC.I)]) (by simpa using ⟨gI.spec, cN.spec, dB.spec, bQ.spec⟩) (by simpa using gN.spec) (by simpa using eC.spec) gJ.loops) gJ.at gJ.nm gJ.bd ?_
 intro vs b S v news e hS
 unfold gJ.C at e
 split at e
 rotate_left
 · cases e
 cases e
 rw [gJ.eq]
 unfold gJ.H
 simp (maxSteps := 4000000) only [go_sem, reduceEqDiff, Nat.reduceLT, reduceAdd, reduceSub, reduceLeDiff, reduceReplicate, reduceToNat, gI.C, cN.C, dB.C, bQ.C]
 rename_i w lo hi limit phase block to_ sb st sa sr so from_ out
 obtain ⟨hsw, hsr, hout⟩ := hS
 have hr := iE.roomy hsw
 cases hh : tT w sb st with
 | false =>
   have hF : lC w ⟨lo, hi, limit, phase, block, to_, ⟨sb, st, sa, sr, so⟩, from_, out⟩ = ⟨lo, hi, limit, 2, block, to_, ⟨sb, st, sa, sr, so⟩, from_, out⟩ := by unfold lC; rw [if_pos hh]
   rw [hF]
   simp only [Sc.V, Sk.V, hh, decide_false, decide_true, aA, aA, gq, reduceEq, reduceLT, reduceLE, implies_true, reduceCtorEq, if_true, if_false, go_sem, reduceEqDiff, Nat.reduceLT, reduceAdd, reduceSub, reduceLeDiff, reduceReplicate, reduceToNat]
   exact ⟨hr, aG rfl rfl⟩
 | true =>
   obtain ⟨n1, n2, n3, n4, n5, e, lw, e2, hrv, hlv, hright⟩ := aLd w block
   have hF : lC w ⟨lo, hi, limit, phase, block, to_, ⟨sb, st, sa, sr, so⟩, from_, out⟩ = if (!decide (n3 = 0) && decide (e2 = 0) && !ltB from_ lw) = true then ⟨lo, hi, limit, 5, block, n3, ⟨sb, st, sa, sr, so⟩, from_, out⟩ else oD w ⟨lo, hi, limit, phase, block, to_, ⟨sb, st, sa, sr, so⟩, from_, out⟩ (!decide (n3 = 0) && decide (e2 = 0)) lw n3 := by
     unfold lC
     simp only
     rw [if_neg (by rw [hh]; decide), hright]
     by_cases hc : n3 ≠ 0 ∧ e2 = 0
     · rw [if_pos hc, decide_eq_false hc.1, decide_eq_true hc.2]
       simp only
       cases ltB from_ lw <;> rfl
     · rw [if_neg hc]
       have : (!decide (n3 = 0) && decide (e2 = 0)) = false := by
         rw [Bool.eq_false_iff]
         intro h
         rw [Bool.and_eq_true, Bool.not_eq_true', decide_eq_false_iff_not, decide_eq_true_eq] at h
         exact hc h
       rw [this]
       rfl
   rw [hF]
   clear hF hright
   simp only [hh, hrv, hlv, cN.C, dB.C, decide_false, decide_true, gq, reduceEq, reduceLT, reduceLE, implies_true, reduceCtorEq, if_true, if_false, go_sem, reduceEqDiff, Nat.reduceLT, reduceAdd, reduceSub, reduceLeDiff, reduceReplicate, reduceToNat]
   refine ⟨hr, hr, hsw, ?_⟩
   generalize (!decide (n3 = 0) && decide (e2 = 0)) = bnd
   refine ⟨fun hc => ?_, fun hc => ?_⟩
   · rw [if_pos hc]
     exact aG rfl rfl
   rw [if_neg (by rw [hc]; decide)]
   clear hc
   simp only [bQ.C, gN.K, gN.H, eC.I, eC.H, fT.C, gq, reduceEq, reduceLT, reduceLE, implies_true, reduceCtorEq, if_true, if_false, go_sem, reduceEqDiff, Nat.reduceLT, reduceAdd, reduceSub, reduceLeDiff, reduceReplicate, reduceToNat]
   refine ⟨by unfold roomy; omega, ?_⟩
   refine nM fun J hJ => ?_
   have rest : ∀ (v : Nat) (Y : List AObj), J (.ptr 0 []) (.ptr 1 []) (.ptr 2 []) (.str lw) (.bool bnd) (.ptr 4 []) (.box (.agg [.str lo, .str hi, .int .i64 limit, .int .i64 phase, .int .i64 block, .int .i64 to_, .agg [.int .i64 sb, .int .i64 st, .int .i64 sa, .sl false (.ints .i64 sr), .bool so], .str from_, .sl false (.pairs out)]) :: .box (.agg [.str [], .str [], .int .i64 0, .int .i64 0, .int .i64 0, .int .i64 0, .agg [.int .i64 0, .int .i64 0, .int .i64 0, .sl false (.ints .i64 []), .bool false], .str [], .sl false (.pairs [])]) :: .box (.agg [.int .i64 n1, .int .i64 n2, .int .i64 n3, .int .i64 n4, .sl false (.ints .i64 n5)]) :: .row .own v (.pairs (sOut w ⟨lo, hi, limit, phase, block, to_, ⟨sb, st, sa, sr, so⟩, from_, out⟩ lw bnd)) :: .box (.sref false 3 v 0 (sOut w ⟨lo, hi, limit, phase, block, to_, ⟨sb, st, sa, sr, so⟩, from_, out⟩ lw bnd).length) :: Y) := fun v Y => by
     rw [hJ]
     unfold oD
     generalize sOut w ⟨lo, hi, limit, phase, block, to_, ⟨sb, st, sa, sr, so⟩, from_, out⟩ lw bnd = O
     cases bnd <;> cases hc1 : decide ((O.length : Int) < limit) <;> cases hc2 : decide (hi = []) <;> cases hc3 : ltB lw hi <;> simp only [Sc.V, Sk.V, hc1, hc2, hc3, Bool.false_and, Bool.or_true, Bool.true_or, aA, aA, gq, reduceEq, reduceLT, reduceLE, implies_true, reduceCtorEq, if_true, if_false, go_sem, reduceEqDiff, Nat.reduceLT, reduceAdd, reduceSub, reduceLeDiff, reduceReplicate, reduceToNat] <;> exact aG (by simp only [List.take_length, go_sem, reduceEqDiff, Nat.reduceLT, reduceAdd, reduceSub, reduceLeDiff, reduceReplicate, reduceToNat]) rfl
   clear hJ
   rw [aA]
   intro l r
   rw [aA]
   refine ⟨⟨hr, hsr⟩, ?_⟩
   have hso : (uU (jA w sr)).length ≤ 200 := by
     have h1 := (aAS (w := w) (refs := sr) (out := []) (by simp)).2
     have h2 := (sA (jA w sr)).length_eq
     simp only [List.length_nil] at h1
     unfold jA at h2 ⊢
     omega
   unfold sOut at rest
   simp only at rest
   obtain ⟨p, hp⟩ : ∃ p, p = sIn ⟨lo, hi, limit, phase, block, to_, ⟨sb, st, sa, sr, so⟩, from_, out⟩ lw bnd := ⟨_, rfl⟩
   rw [← hp] at rest
   generalize uU (jA w sr) = L at *
   obtain ⟨m, hm⟩ : ∃ m : Nat, m = (limit - out.length).toNat := ⟨_, rfl⟩
   rw [← hm] at rest
   unfold eC.L1
   refine kV (σ := Nat × Nat) (fun s => .int .i64 s.1) (fun s => [.box (.agg [.str lo, .str hi, .int .i64 limit, .int .i64 phase, .int .i64 block, .int .i64 to_, .agg [.int .i64 sb, .int .i64 st, .int .i64 sa, .sl false (.ints .i64 sr), .bool so], .str from_, .sl false (.pairs out)]), .box (.agg [.str [], .str [], .int .i64 0, .int .i64 0, .int .i64 0, .int .i64 0, .agg [.int .i64 0, .int .i64 0, .int .i64 0, .sl false (.ints .i64 []), .bool false], .str [], .sl false (.pairs [])]), .box (.agg [.int .i64 n1, .int .i64 n2, .int .i64 n3, .int .i64 n4, .sl false (.ints .i64 n5)]), .row .own s.2 (.pairs (out ++ ((L.take s.1).filter p).map kX)), .box (.sref false 3 s.2 0 (out ++ ((L.take s.1).filter p).map kX).length), .box (.sl false (.ints .i64 w)),
     .box (.agg [.str lo, .str hi, .int .i64 limit, .int .i64 phase, .int .i64 block, .int .i64 to_, .agg [.int .i64 sb, .int .i64 st, .int .i64 sa, .sl false (.ints .i64 sr), .bool so], .str from_, .sl false (.pairs out)]), .box (.str lw), .box (.bool bnd), .lp .ready none r]) (fun s => L.length - s.1) (fun s => s.1 ≤ L.length ∧ (((L.take s.1).filter p).map kX).length ≤ m) (0, 0) rfl (by simp) ⟨Nat.zero_le _, by simp⟩ ?_
   rintro I back ⟨k, v⟩ ⟨hk, hkm⟩
   simp only at hk hkm ⊢
   have hpl : (((L.take k).filter p).map kX).length ≤ 200 := by
     rw [List.length_map]
     refine Nat.le_trans (List.length_filter_le _ _) ?_
     rw [List.length_take]; omega
   by_cases hkl : k < L.length
   · have hb : ∀ v2 n lv h, _ := fun v2 n lv h => @back n lv h (k + 1, v2)
     clear back
     have hnx : (L.take (k + 1)).filter p = (L.take k).filter p ++ if p (L.getD k d0) = true then [L.getD k d0] else [] := by
       rw [gQ L k d0 hkl, List.filter_append, List.filter_cons, List.filter_nil]
     simp only [hnx, List.map_append] at hb
     have d1 : decide ((k : Int) < (L.length : Int)) = true := decide_eq_true (by omega)
     have hat : L.getD k d0 = ⟨(L.getD k d0).kind, (L.getD k d0).key, (L.getD k d0).val, (L.getD k d0).child⟩ := rfl
     have hpx : p (L.getD k d0) = (!ltB (L.getD k d0).key (if ltB lo from_ = true then from_ else lo) && (decide (hi = []) || ltB (L.getD k d0).key hi) && (!bnd || ltB (L.getD k d0).key lw)) := by rw [hp]; rfl
     have hmore : p (L.getD k d0) = true → limit ≤ (out ++ ((L.take k).filter p).map kX).length → ((L.filter p).map kX).take m = ((L.take k).filter p).map kX := fun h1 h2 => by
       rw [List.length_append] at h2
       have hlm : m ≤ (((L.take k).filter p).map kX).length := by omega
       have hlm2 : (((L.take k).filter p).map kX).length = m := by omega
       have e : (L.filter p).map kX = ((L.take k).filter p).map kX ++ ((L.drop k).filter p).map kX := by
         rw [← List.map_append, ← List.filter_append, List.take_append_drop]
       rw [e, List.take_append_of_le_length (by omega), List.take_of_length_le (by omega)]
     have hless : p (L.getD k d0) = true → ¬ limit ≤ (out ++ ((L.take k).filter p).map kX).length → (((L.take k).filter p).map kX).length + 1 ≤ m := fun h1 h2 => by
       rw [List.length_append] at h2
       omega
     have hro : ∀ y : iY, roomy (out ++ (((L.take k).filter p).map kX ++ [y])).length := fun y => by
       unfold roomy
       rw [List.length_append, List.length_append, List.length_singleton]; omega
     generalize ((L.filter p).map kX).take m = T at *
     generalize ((L.take k).filter p).map kX = R at *
     generalize p (L.getD k d0) = px at *
     simp only [d1, iU, Int.toNat_natCast, aA, eH (show k < 4611686018427387904 by omega), aA, gq, reduceEq, reduceLT, reduceLE, implies_true, reduceCtorEq, if_true, if_false, go_sem, reduceEqDiff, Nat.reduceLT, reduceAdd, reduceSub, reduceLeDiff, reduceReplicate, reduceToNat]
     refine ⟨⟨by omega, by omega⟩, ?_⟩
     have hN := hb v
     have hY := hb (v + 1)
     clear hb
     have hpt : kX (L.getD k d0) = ⟨(L.getD k d0).key, (L.getD k d0).val⟩ := rfl
     cases px with
     | false =>
       clear hY
       simp only [Bool.false_eq_true, if_false, List.map_nil, List.append_nil] at hN
       generalize ltB (L.getD k d0).key (if ltB lo from_ = true then from_ else lo) = b1 at *
       generalize ltB (L.getD k d0).key hi = b3 at *
       generalize ltB (L.getD k d0).key lw = b5 at *
       generalize decide (hi = []) = b2 at *
       cases b1 <;> cases b2 <;> cases b3 <;> cases bnd <;> cases b5 <;> first
         | exact absurd hpx (by decide)
         | (simp only [sR, zA, zB, aCl, Bool.not_true, Bool.not_false]; exact hN _ _ _ (by omega) rfl rfl ⟨by omega, hkm⟩)
     | true =>
       clear hN
       simp only [if_true, List.map_cons, List.map_nil, hpt] at hY
       have hmore := hmore rfl
       have hless := hless rfl
       generalize ltB (L.getD k d0).key (if ltB lo from_ = true then from_ else lo) = b1 at *
       generalize ltB (L.getD k d0).key hi = b3 at *
       generalize ltB (L.getD k d0).key lw = b5 at *
       generalize decide (hi = []) = b2 at *
       cases b1 <;> cases b2 <;> cases b3 <;> cases bnd <;> cases b5 <;> first
         | exact absurd hpx (by decide)
         | (simp only [sR, zA, zB, aCl, Bool.not_true, Bool.not_false]
            refine ⟨fun hle => ?_, fun hgt => ⟨hro _, ?_⟩⟩
            · rw [← hmore hle]; exact rest _ _
            · exact hY _ _ _ (by omega) rfl rfl ⟨by omega, by rw [List.length_append]; exact hless hgt⟩)
   · obtain rfl : k = L.length := by omega
     have d1 : decide ((L.length : Int) < (L.length : Int)) = false := decide_eq_false (by omega)
     clear back
     rw [List.take_length] at hkm ⊢
     rw [List.take_of_length_le hkm] at rest
     simp only [d1, aA, aA, gq, reduceEq, reduceLT, reduceLE, implies_true, reduceCtorEq, if_true, if_false, go_sem, reduceEqDiff, Nat.reduceLT, reduceAdd, reduceSub, reduceLeDiff, reduceReplicate, reduceToNat]
     exact rest _ _
end Lam
namespace Lam
open Go Go.Proofs
def uV (w : List Int) (s : Sc) : Sc := match qG w s.block with
 | none => { s with phase := 8 }
 | some x => { s with seek := x, phase := 3 }
def tU (w : List Int) (s : Sc) : Sc := { s with seek := kW w s.seek, phase := if (kW w s.seek).over = true then 4 else s.phase }
def nY (m : Mm) (s : Sc) : Mm × Sc :=
 if s.phase = 1 then (m, qP m.vol s)
 else if s.phase = 2 then (m, uV m.vol s)
 else if s.phase = 3 then (m, tU m.vol s)
 else if s.phase = 4 then (m, lC m.vol s)
 else if s.phase = 5 then (nX m s.block 0, { s with block := s.to_, phase := 2 })
 else if s.phase = 6 then (nX m s.block 0, { s with phase := 7 })
 else if s.phase = 7 then (nX m s.block 1, if s.to_ = 0 then { s with phase := 8 } else { s with block := s.to_, phase := 2 })
 else (m, s)
def eK.C : aE
 | [.agg [.sl false (.ints .i64 vol), .sl false (.ints .i64 per), .sl false (.pends pend)], .agg [.str lo, .str hi, .int .i64 limit, .int .i64 phase, .int .i64 block, .int .i64 to_, .agg [.int .i64 sb, .int .i64 st, .int .i64 sa, .sl false (.ints .i64 sr), .bool so], .str from_, .sl false (.pairs out)]] => some (false, pD (mB vol per pend ∧ pend.length + 1 ≤ 1000000 ∧ iE vol ∧ sr.length ≤ 200 ∧ out.length ≤ 1000) (.tup [(nY ⟨vol, per, pend⟩ ⟨lo, hi, limit, phase, block, to_, ⟨sb, st, sa, sr, so⟩, from_, out⟩).1.V, (nY ⟨vol, per, pend⟩ ⟨lo, hi, limit, phase, block, to_, ⟨sb, st, sa, sr, so⟩, from_, out⟩).2.V]))
 | _ => none
theorem eK.spec : bI Tryz.prog 19 eK.C := by
 refine bI.of (bR (F := [(39, iB.C), (40, gH.C), (41, iA.C), (42, gJ.C), (43, fU.C)]) (S := []) (by simpa using ⟨iB.spec, gH.spec, iA.spec, gJ.spec, fU.spec⟩) (by simp) eK.loops) eK.at eK.nm eK.bd ?_
 intro vs b S v news e hS
 unfold eK.C at e
 split at e
 rotate_left
 · cases e
 cases e
 rw [eK.eq]
 unfold eK.H
 simp (maxSteps := 4000000) only [go_sem, reduceEqDiff, Nat.reduceLT, reduceAdd, reduceSub, reduceLeDiff, reduceReplicate, reduceToNat, iB.C, gH.C, iA.C, gJ.C, fU.C]
 rename_i vol per pend lo hi limit phase block to_ sb st sa sr so from_ out
 obtain ⟨hsm, hpe, hsw, hsr, hout⟩ := hS
 have hr := iE.roomy hsw
 have hph : phase = 1 ∨ phase = 2 ∨ phase = 3 ∨ phase = 4 ∨ phase = 5 ∨ phase = 6 ∨ phase = 7 ∨ (phase ≠ 1 ∧ phase ≠ 2 ∧ phase ≠ 3 ∧ phase ≠ 4 ∧ phase ≠ 5 ∧ phase ≠ 6 ∧ phase ≠ 7) := by omega
 rcases hph with rfl | rfl | rfl | rfl | rfl | rfl | rfl | ⟨p1, p2, p3, p4, p5, p6, p7⟩
 · have hst : nY ⟨vol, per, pend⟩ ⟨lo, hi, limit, 1, block, to_, ⟨sb, st, sa, sr, so⟩, from_, out⟩ = (⟨vol, per, pend⟩, qP vol ⟨lo, hi, limit, 1, block, to_, ⟨sb, st, sa, sr, so⟩, from_, out⟩) := rfl
   rw [hst]
   generalize qP vol ⟨lo, hi, limit, 1, block, to_, ⟨sb, st, sa, sr, so⟩, from_, out⟩ = s'
   obtain ⟨lo', hi', limit', phase', block', to', ⟨sb', st', sa', sr', so'⟩, from', out'⟩ := s'
   simp only [Mm.V, memV, Sc.V, Sk.V, decide_true, decide_false, aA, aA, gq, reduceEq, reduceLT, reduceLE, implies_true, reduceCtorEq, if_true, if_false, go_sem, reduceEqDiff, Nat.reduceLT, reduceAdd, reduceSub, reduceLeDiff, reduceReplicate, reduceToNat]
   exact ⟨hsw, aG rfl rfl⟩
 · have hst : nY ⟨vol, per, pend⟩ ⟨lo, hi, limit, 2, block, to_, ⟨sb, st, sa, sr, so⟩, from_, out⟩ = (⟨vol, per, pend⟩, uV vol ⟨lo, hi, limit, 2, block, to_, ⟨sb, st, sa, sr, so⟩, from_, out⟩) := rfl
   rw [hst]
   unfold uV
   simp only
   cases hb : qG vol block with
   | none =>
     have hbv : yJ vol block = .tup [skZ.V, .int .i64 90] := by unfold yJ; rw [hb]
     simp only [Mm.V, memV, Sc.V, Sk.V, skZ, hbv, decide_true, decide_false, aA, aA, gq, reduceEq, reduceLT, reduceLE, implies_true, reduceCtorEq, if_true, if_false, go_sem, reduceEqDiff, Nat.reduceLT, reduceAdd, reduceSub, reduceLeDiff, reduceReplicate, reduceToNat]
     exact ⟨hr, rfl, aG rfl rfl⟩
   | some x =>
     obtain ⟨xb, xt, xa, xr, xo⟩ := x
     have hbv : yJ vol block = .tup [Sk.V ⟨xb, xt, xa, xr, xo⟩, .int .i64 0] := by unfold yJ; rw [hb]
     simp only [Mm.V, memV, Sc.V, Sk.V, skZ, hbv, decide_true, decide_false, aA, aA, gq, reduceEq, reduceLT, reduceLE, implies_true, reduceCtorEq, if_true, if_false, go_sem, reduceEqDiff, Nat.reduceLT, reduceAdd, reduceSub, reduceLeDiff, reduceReplicate, reduceToNat]
     exact ⟨hr, rfl, aG rfl rfl⟩
 · have hst : nY ⟨vol, per, pend⟩ ⟨lo, hi, limit, 3, block, to_, ⟨sb, st, sa, sr, so⟩, from_, out⟩ = (⟨vol, per, pend⟩, tU vol ⟨lo, hi, limit, 3, block, to_, ⟨sb, st, sa, sr, so⟩, from_, out⟩) := rfl
   rw [hst]
   unfold tU
   simp only
   generalize hs : kW vol ⟨sb, st, sa, sr, so⟩ = x
   obtain ⟨xb, xt, xa, xr, xo⟩ := x
   have h4 : vol.length ≤ 65536 ∧ sr.length ≤ 65536 := ⟨hsw.1, by omega⟩
   cases xo with
   | true =>
     simp only [Mm.V, memV, Sc.V, Sk.V, hs, decide_true, decide_false, aA, aA, gq, reduceEq, reduceLT, reduceLE, implies_true, reduceCtorEq, if_true, if_false, go_sem, reduceEqDiff, Nat.reduceLT, reduceAdd, reduceSub, reduceLeDiff, reduceReplicate, reduceToNat]
     exact ⟨h4, rfl, aG rfl rfl⟩
   | false =>
     simp only [Mm.V, memV, Sc.V, Sk.V, hs, decide_true, decide_false, aA, aA, gq, reduceEq, reduceLT, reduceLE, implies_true, reduceCtorEq, if_true, if_false, go_sem, reduceEqDiff, Nat.reduceLT, reduceAdd, reduceSub, reduceLeDiff, reduceReplicate, reduceToNat]
     exact ⟨h4, rfl, aG rfl rfl⟩
 · have hst : nY ⟨vol, per, pend⟩ ⟨lo, hi, limit, 4, block, to_, ⟨sb, st, sa, sr, so⟩, from_, out⟩ = (⟨vol, per, pend⟩, lC vol ⟨lo, hi, limit, 4, block, to_, ⟨sb, st, sa, sr, so⟩, from_, out⟩) := rfl
   rw [hst]
   generalize lC vol ⟨lo, hi, limit, 4, block, to_, ⟨sb, st, sa, sr, so⟩, from_, out⟩ = s'
   obtain ⟨lo', hi', limit', phase', block', to', ⟨sb', st', sa', sr', so'⟩, from', out'⟩ := s'
   simp only [Mm.V, memV, Sc.V, Sk.V, decide_true, decide_false, aA, aA, gq, reduceEq, reduceLT, reduceLE, implies_true, reduceCtorEq, if_true, if_false, go_sem, reduceEqDiff, Nat.reduceLT, reduceAdd, reduceSub, reduceLeDiff, reduceReplicate, reduceToNat]
   exact ⟨⟨hsw, hsr, hout⟩, aG rfl rfl⟩
 · have hst : nY ⟨vol, per, pend⟩ ⟨lo, hi, limit, 5, block, to_, ⟨sb, st, sa, sr, so⟩, from_, out⟩ = (nX ⟨vol, per, pend⟩ block 0, ⟨lo, hi, limit, 2, to_, to_, ⟨sb, st, sa, sr, so⟩, from_, out⟩) := rfl
   rw [hst]
   generalize hkm : nX ⟨vol, per, pend⟩ block 0 = m'
   obtain ⟨vol', per', pend'⟩ := m'
   simp only [fU.C, hkm, Mm.V, memV, Sc.V, Sk.V, decide_true, decide_false, aA, aA, gq, reduceEq, reduceLT, reduceLE, implies_true, reduceCtorEq, if_true, if_false, go_sem, reduceEqDiff, Nat.reduceLT, reduceAdd, reduceSub, reduceLeDiff, reduceReplicate, reduceToNat]
   exact ⟨⟨hsm, by omega⟩, rfl, aG rfl rfl⟩
 · have hst : nY ⟨vol, per, pend⟩ ⟨lo, hi, limit, 6, block, to_, ⟨sb, st, sa, sr, so⟩, from_, out⟩ = (nX ⟨vol, per, pend⟩ block 0, ⟨lo, hi, limit, 7, block, to_, ⟨sb, st, sa, sr, so⟩, from_, out⟩) := rfl
   rw [hst]
   generalize hkm : nX ⟨vol, per, pend⟩ block 0 = m'
   obtain ⟨vol', per', pend'⟩ := m'
   simp only [fU.C, hkm, Mm.V, memV, Sc.V, Sk.V, decide_true, decide_false, aA, aA, gq, reduceEq, reduceLT, reduceLE, implies_true, reduceCtorEq, if_true, if_false, go_sem, reduceEqDiff, Nat.reduceLT, reduceAdd, reduceSub, reduceLeDiff, reduceReplicate, reduceToNat]
   exact ⟨⟨hsm, by omega⟩, rfl, aG rfl rfl⟩
 · have hst : nY ⟨vol, per, pend⟩ ⟨lo, hi, limit, 7, block, to_, ⟨sb, st, sa, sr, so⟩, from_, out⟩ = (nX ⟨vol, per, pend⟩ block 1, if to_ = 0 then ⟨lo, hi, limit, 8, block, to_, ⟨sb, st, sa, sr, so⟩, from_, out⟩ else ⟨lo, hi, limit, 2, to_, to_, ⟨sb, st, sa, sr, so⟩, from_, out⟩) := rfl
   rw [hst]
   generalize hkm : nX ⟨vol, per, pend⟩ block 1 = m'
   obtain ⟨vol', per', pend'⟩ := m'
   by_cases ht : to_ = 0
   · subst ht
     simp only [fU.C, hkm, Mm.V, memV, Sc.V, Sk.V, decide_true, decide_false, aA, aA, gq, reduceEq, reduceLT, reduceLE, implies_true, reduceCtorEq, if_true, if_false, go_sem, reduceEqDiff, Nat.reduceLT, reduceAdd, reduceSub, reduceLeDiff, reduceReplicate, reduceToNat]
     exact ⟨⟨hsm, by omega⟩, rfl, aG rfl rfl⟩
   · simp only [fU.C, hkm, Mm.V, memV, Sc.V, Sk.V, ht, decide_true, decide_false, aA, aA, gq, reduceEq, reduceLT, reduceLE, implies_true, reduceCtorEq, if_true, if_false, go_sem, reduceEqDiff, Nat.reduceLT, reduceAdd, reduceSub, reduceLeDiff, reduceReplicate, reduceToNat]
     exact ⟨⟨hsm, by omega⟩, rfl, aG rfl rfl⟩
 · have hst : nY ⟨vol, per, pend⟩ ⟨lo, hi, limit, phase, block, to_, ⟨sb, st, sa, sr, so⟩, from_, out⟩ = (⟨vol, per, pend⟩, ⟨lo, hi, limit, phase, block, to_, ⟨sb, st, sa, sr, so⟩, from_, out⟩) := by
     unfold nY
     simp only
     rw [if_neg p1, if_neg p2, if_neg p3, if_neg p4, if_neg p5, if_neg p6, if_neg p7]
   rw [hst]
   simp only [Mm.V, memV, Sc.V, Sk.V, p1, p2, p3, p4, p5, p6, p7, decide_true, decide_false, aA, aA, gq, reduceEq, reduceLT, reduceLE, implies_true, reduceCtorEq, if_true, if_false, go_sem, reduceEqDiff, Nat.reduceLT, reduceAdd, reduceSub, reduceLeDiff, reduceReplicate, reduceToNat]
   exact ⟨rfl, aG rfl rfl⟩
end Lam
namespace Lam
open Go Go.Proofs
end Lam
namespace Lam
open Go Go.Proofs
end Lam
namespace Lam
open Go Go.Proofs
end Lam
namespace Lam
open Go Go.Proofs
end Lam
namespace Lam
open Go Go.Proofs
end Lam
namespace Lam
open Go Go.Proofs
theorem aAU {w : List Int} (b line : Int) : nX ⟨w, w, []⟩ b line = ⟨w, w, []⟩ := by
 unfold nX
 split
 · unfold doM
   split
   · rfl
   · rfl
 · rfl
end Lam
namespace Lam
open Go Go.Proofs
def aFL (n : Nat) : List Int := qF n 1 ++ (gK jM ++ List.replicate (16 * n - 32) 0)
def vZ (n : Int) : AV := if (decide (n < 2) || decide (256 < n)) = true then .tup [.sl false (.ints .i64 []), .int .i64 1] else .tup [.sl false (.ints .i64 (aFL n.toNat)), .int .i64 0]
def gZ.C : aE
 | [.int .i64 n] => some (false, pD True (vZ n))
 | _ => none
theorem gZ.spec : bI Tryz.prog 32 gZ.C := by
 refine bI.of (bR (F := [(56, fQ.C), (57, fE.C)]) (S := []) (by simpa using ⟨fQ.spec, fE.spec⟩) (by simp) gZ.loops) gZ.at gZ.nm gZ.bd ?_
 intro vs b S v news e hS
 unfold gZ.C at e
 split at e
 rotate_left
 · cases e
 cases e
 rw [gZ.eq]
 unfold gZ.H
 simp (maxSteps := 4000000) only [go_sem, reduceEqDiff, Nat.reduceLT, reduceAdd, reduceSub, reduceLeDiff, reduceReplicate, reduceToNat, fQ.C, fE.C]
 rename_i n
 refine ⟨fun h => ?_, fun h => ?_⟩
 · have : vZ n = .tup [.sl false (.ints .i64 []), .int .i64 1] := by unfold vZ; rw [if_pos h]
   rw [this]; refine aG ?_ rfl; simp only [go_sem, reduceEqDiff, Nat.reduceLT, reduceAdd, reduceSub, reduceLeDiff, reduceReplicate, reduceToNat]
 · have hv : vZ n = .tup [.sl false (.ints .i64 (aFL n.toNat)), .int .i64 0] := by unfold vZ; rw [if_neg (by rw [h]; decide)]
   rw [hv]
   clear hv
   simp only [Bool.or_eq_false_iff, decide_eq_false_iff_not] at h
   obtain ⟨k, rfl⟩ := Int.eq_ofNat_of_zero_le (show 0 ≤ n by omega)
   have hmay : mayB (k : Int) 1 = true := by unfold mayB; simp only [Bool.and_eq_true, decide_eq_true_eq]; omega
   have e1 : IntKind.i64.wrap (16 * (k : Int)) = ((16 * k : Nat) : Int) := by rw [w64 (by omega) (by omega)]; omega
   have hz : yH ⟨0, 0, 0, 0, []⟩ = .tup [.sl false (.ints .i64 (gK jM)), .int .i64 0] := by
     unfold yH; rw [if_pos (by decide)]; rfl
   have hsl : (qF (k : Int) 1).length = 16 := rfl
   have hzl : (gK jM).length = 16 := rfl
   have hrl : (List.replicate (16 * k) (0 : Int)).length = 16 * k := List.length_replicate
   simp only [hmay, if_true, e1, hz, Int.toNat_natCast, hsl, hzl, aA, gq, reduceEq, reduceLT, reduceLE, implies_true, reduceCtorEq, if_true, if_false, go_sem, reduceEqDiff, Nat.reduceLT, reduceAdd, reduceSub, reduceLeDiff, reduceReplicate, reduceToNat]
   refine ⟨⟨by omega, by omega, by unfold roomy; omega⟩, by omega, ?_⟩
   have m1 : min (16 * k) 16 = 16 := by omega
   have m2 : min (16 * k - 16) 16 = 16 := by omega
   have t1 : (qF (k : Int) 1).take (16 * k) = qF (k : Int) 1 := List.take_of_length_le (by rw [hsl]; omega)
   have t2 : (gK jM).take (16 * k - 16) = gK jM := List.take_of_length_le (by rw [hzl]; omega)
   refine aG ?_ rfl
   simp only [m1, m2, t1, t2, go_sem, reduceEqDiff, Nat.reduceLT, reduceAdd, reduceSub, reduceLeDiff, reduceReplicate, reduceToNat]
   have hR : List.take (16 * k - 16) (List.drop 16 (List.replicate (16 * k) (0 : Int))) = List.replicate (16 * k - 16) 0 := by simp
   rw [hR]
   have l1 : (qF (k : Int) 1 ++ List.replicate (16 * k - 16) (0 : Int)).length = 16 * k := by rw [List.length_append, hsl, List.length_replicate]; omega
   have l2 : (qF (k : Int) 1 ++ List.replicate (16 * k - 16) (0 : Int)).take 16 = qF (k : Int) 1 := List.take_left' hsl
   have l3 : (qF (k : Int) 1 ++ List.replicate (16 * k - 16) (0 : Int)).drop 32 = List.replicate (16 * k - 32) 0 := by
     rw [List.drop_append, hsl, List.drop_of_length_le (by rw [hsl]; omega), List.drop_replicate, List.nil_append]
     rw [show 16 * k - 16 - (32 - 16) = 16 * k - 32 by omega]
   rw [l1, l2, l3]
   have l4 : (List.replicate (16 * k - 32) (0 : Int)).take (16 * k - 32) = List.replicate (16 * k - 32) 0 := by simp
   rw [l4]
   have l5 : (qF (k : Int) 1 ++ (gK jM ++ List.replicate (16 * k - 32) (0 : Int))).take (16 * k) = aFL k := by
     rw [List.take_of_length_le]
     · rfl
     · simp only [List.length_append, hsl, hzl, List.length_replicate]; omega
   rw [l5]
def A4 : List Int := aFL 4
theorem aGS : iE A4 := by
 refine ⟨by decide +kernel, ?_⟩
 have : A4.all (fun x => decide (x < 9223372036854775808)) = true := by decide +kernel
 intro x hx
 exact of_decide_eq_true (List.all_eq_true.1 this x hx)
end Lam
namespace Lam
open Go Go.Proofs
end Lam
namespace Lam
open Go Go.Proofs
end Lam
namespace Lam
open Go Go.Proofs
def M16 : Mm := ⟨A4, A4, []⟩
theorem aBq : dF A4 1 = some jM := by decide +kernel
theorem aMi : qG A4 1 = some ⟨1, 0, 0, [], false⟩ := by
 unfold qG
 rw [aBq]; rfl
theorem aNg : aBp A4 = 1 := by
 unfold aBp
 rw [show eA A4 = true from by decide +kernel]; rfl
theorem aOe : vZ 4 = .tup [.sl false (.ints .i64 A4), .int .i64 0] := by
 unfold vZ; rw [if_neg (by decide)]; rfl
theorem aLe : newM A4 = .tup [memV A4 A4 [], .int .i64 0] := by
 unfold newM; rw [show szB A4.length = true from by decide +kernel]; rfl
end Lam
namespace Lam
open Go Go.Proofs
def cD.loops : Nat → bX
 | 8 => ⟨[11, 12], [false, false], [3, 5, 6, 8, 10], [(3, none), (3, some [39, 42])], [], []⟩
 | 12 => ⟨[], [], [], [(3, none), (2, some [56, 58]), (2, none), (2, some [60, 62]), (2, none), (3, some [64, 67]), (2, none), (4, some [69, 73]), (2, none), (2, some [75, 77])], [], []⟩
 | _ => ⟨[], [], [], [], [], []⟩
def cD.L1 (c : Ctx) (J1 : AV → AV → AV → AV → AV → List AObj → Prop) (K : AOut → List AObj → Prop) (lv : List AV) (h0 : List AObj) (n0 : Nat) (c3 : AV) (c5 : AV) (c6 : AV) (c8 : AV) (c10 : AV) : Prop :=
 ∃ I : Nat → List AV → List AObj → Prop, (∃ n, I n lv h0) ∧ ∀ n h, ∀ t11, ∀ t12, I n [t11, t12] h →
 runD (binD aB .lss t12 (.int .i64 40)) h fun t38 h =>
 aJ (fun (J2 : AV → AV → List AObj → Prop) =>
 aT t38 true
 (runD (aC aI c5 3) h fun t40 h =>
 runD (fitD aB (aD h t40)) h fun t41 h =>
 runD (binD aB .neq t41 (.int .i64 8)) h fun t42 h =>
 J2 (.bool true) t42 h)
 (J2 (.bool false) .und h))
 (fun t39 t42 h => runD (bK t39 t42 (.bool false)) h fun t43 h =>
 aW t43
 (runD (fitD aN (aD h c3)) h fun t47 h =>
 runD (fitD aI (aD h c5)) h fun t48 h =>
 aQ false c (.fn (.func 19) [] []) [t47, t48] h (fun t49 h =>
 runD (aV t49 0) h fun t50 h =>
 runD (aV t49 1) h fun t51 h =>
 runH (aO aN h c3 t50) h fun _ h =>
 runH (aO aI h c5 t51) h fun _ h =>
 runD (binD aB .add t11 (.int .i64 1)) h fun t53 h =>
 runD (binD aB .add t12 (.int .i64 1)) h fun t45 h =>
 (∃ m, m < n ∧ I m (AV.norms n0 h [t53, t45]) (cJ n0 h)) ∧ AV.norms n0 h [c3, c5, c6, c8, c10] = [c3, c5, c6, c8, c10])
 (fun v h => K (.pan v) h))
 (J1 c5 c6 c8 c10 t11 h))
def cD.H (c : Ctx) (h : List AObj) (K : AOut → List AObj → Prop) : Prop :=
 aQ false c (.fn (.func 32) [] []) [(.int .i64 4)] h (fun t14 h =>
 runD (aV t14 0) h fun t15 h =>
 runD (aV t14 1) h fun t16 h =>
 aQ false c (.fn (.func 28) [] []) [t15] h (fun t19 h =>
 runD (aV t19 0) h fun t20 h =>
 runD (aV t19 1) h fun t21 h =>
 cP aN h fun t3 h =>
 runH (aO aN h t3 t20) h fun _ h =>
 aQ false c (.fn (.func 18) [] []) [t15, (.str [97]), (.str []), (.int .i64 5)] h (fun t24 h =>
 runD (aV t24 0) h fun t25 h =>
 runD (aV t24 1) h fun t26 h =>
 cP aI h fun t5 h =>
 runH (aO aI h t5 t25) h fun _ h =>
 aQ false c (.fn (.func 18) [] []) [t15, (.str [97]), (.str []), (.int .i64 0)] h (fun t29 h =>
 runD (aV t29 0) h fun t30 h =>
 runD (aV t29 1) h fun t31 h =>
 cP aI h fun t7 h =>
 runH (aO aI h t7 t30) h fun _ h =>
 aQ false c (.fn (.func 18) [] []) [t15, (.str [97, 98, 99, 100, 101, 102, 103, 104, 105, 106, 107, 108, 109, 110, 111, 112, 113, 114, 115, 116, 117, 118]), (.str []), (.int .i64 0)] h (fun t34 h =>
 runD (aV t34 0) h fun t35 h =>
 runD (aV t34 1) h fun t36 h =>
 cP aI h fun t9 h =>
 runH (aO aI h t9 t35) h fun _ h =>
 aJ (fun (J1 : AV → AV → AV → AV → AV → List AObj → Prop) =>
 dC [false, false] [(.int .i64 0), (.int .i64 0)] h fun lv h => cD.L1 c J1 K (AV.norms h.length h lv) (cJ h.length h) h.length (AV.norm h.length h t3) (AV.norm h.length h t5) (AV.norm h.length h t26) (AV.norm h.length h t31) (AV.norm h.length h t36))
 (fun t5 t6 t8 t10 t11 h => runD (binD cM .eql t6 (.int .i64 0)) h fun t55 h =>
 aJ (fun (J3 : AV → AV → List AObj → Prop) =>
 aT t55 true
 (runD (binD cM .eql t8 (.int .i64 1)) h fun t58 h =>
 J3 (.bool true) t58 h)
 (J3 (.bool false) .und h))
 (fun t56 t58 h => runD (bK t56 t58 (.bool false)) h fun t59 h =>
 aJ (fun (J4 : AV → AV → List AObj → Prop) =>
 aT t59 true
 (runD (binD cM .eql t10 (.int .i64 20)) h fun t62 h =>
 J4 (.bool true) t62 h)
 (J4 (.bool false) .und h))
 (fun t60 t62 h => runD (bK t60 t62 (.bool false)) h fun t63 h =>
 aJ (fun (J5 : AV → AV → List AObj → Prop) =>
 aT t63 true
 (runD (aC aI t5 3) h fun t65 h =>
 runD (fitD aB (aD h t65)) h fun t66 h =>
 runD (binD aB .eql t66 (.int .i64 8)) h fun t67 h =>
 J5 (.bool true) t67 h)
 (J5 (.bool false) .und h))
 (fun t64 t67 h => runD (bK t64 t67 (.bool false)) h fun t68 h =>
 aJ (fun (J6 : AV → AV → List AObj → Prop) =>
 aT t68 true
 (runD (aC aI t5 8) h fun t70 h =>
 runD (fitD bW (aD h t70)) h fun t71 h =>
 runD (lenD bW h t71) h fun t72 h =>
 runD (binD aB .eql t72 (.int .i64 0)) h fun t73 h =>
 J6 (.bool true) t73 h)
 (J6 (.bool false) .und h))
 (fun t69 t73 h => runD (bK t69 t73 (.bool false)) h fun t74 h =>
 aJ (fun (J7 : AV → AV → List AObj → Prop) =>
 aT t74 true
 (runD (binD aB .eql t11 (.int .i64 6)) h fun t77 h =>
 J7 (.bool true) t77 h)
 (J7 (.bool false) .und h))
 (fun t75 t77 h => runD (bK t75 t77 (.bool false)) h fun t78 h =>
 runD (bK t78 (.bool true) (.bool false)) h fun t80 h =>
 K (.ret t80) h)))))))
 (fun v h => K (.pan v) h))
 (fun v h => K (.pan v) h))
 (fun v h => K (.pan v) h))
 (fun v h => K (.pan v) h))
 (fun v h => K (.pan v) h)
theorem cD.eq (F : List (FuncId × aE)) (S : List (FuncId × Con)) (h : List AObj) (K : AOut → List AObj → Prop) : funW (ctx F S cD.loops) Tryz.f17 [] h K = cD.H (ctx F S cD.loops)  h K := by kernel_rfl
theorem cD.at : Tryz.prog.funcs[17]? = some Tryz.f17 := by kernel_rfl
theorem cD.nm : (Tryz.f17.name == "runtime.NumGoroutine") = false := by kernel_rfl
theorem cD.bd : Tryz.f17.body.isNone = false := by kernel_rfl
end Lam
namespace Lam
open Go Go.Proofs
def C17 : Nat → Sc
 | 0 => ⟨[97], [], 5, 1, 1, 0, skZ, [97], []⟩
 | 1 => ⟨[97], [], 5, 2, 1, 0, skZ, [97], []⟩
 | 2 => ⟨[97], [], 5, 3, 1, 0, ⟨1, 0, 0, [], false⟩, [97], []⟩
 | 3 => ⟨[97], [], 5, 4, 1, 0, ⟨1, 0, 0, [], true⟩, [97], []⟩
 | 4 => ⟨[97], [], 5, 6, 1, 0, ⟨1, 0, 0, [], true⟩, [97], []⟩
 | 5 => ⟨[97], [], 5, 7, 1, 0, ⟨1, 0, 0, [], true⟩, [97], []⟩
 | _ => ⟨[97], [], 5, 8, 1, 0, ⟨1, 0, 0, [], true⟩, [97], []⟩
theorem aMj : ∀ k, k < 6 → nY M16 (C17 k) = (M16, C17 (k + 1)) ∧ (C17 k).phase ≠ 8
 | 0, _ => ⟨by
     show ((M16, qP A4 (C17 0)) : Mm × Sc) = _
     unfold qP; rw [show (C17 0).block = 1 from rfl, aBq]; rfl, by decide⟩
 | 1, _ => ⟨by
     show ((M16, uV A4 (C17 1)) : Mm × Sc) = _
     unfold uV; rw [show (C17 1).block = 1 from rfl, aMi]; rfl, by decide⟩
 | 2, _ => ⟨by
     show ((M16, tU A4 (C17 2)) : Mm × Sc) = _
     rfl, by decide⟩
 | 3, _ => ⟨by
     show ((M16, lC A4 (C17 3)) : Mm × Sc) = _
     unfold lC
     rw [show tT A4 (C17 3).seek.block (C17 3).seek.turn = true by
       unfold tT
       rw [show (C17 3).seek.block = 1 from rfl, aBq]; rfl]
     rw [if_neg (by decide), show vY A4 (C17 3).block = none by
       unfold vY
       rw [show (C17 3).block = 1 from rfl, aBq]; rfl]
     rfl, by decide⟩
 | 4, _ => ⟨by
     show ((nX M16 1 0, (⟨[97], [], 5, 7, 1, 0, ⟨1, 0, 0, [], true⟩, [97], []⟩ : Sc)) : Mm × Sc) = _
     unfold M16
     rw [aAU]; rfl, by decide⟩
 | 5, _ => ⟨by
     show ((nX M16 1 1, (⟨[97], [], 5, 8, 1, 0, ⟨1, 0, 0, [], true⟩, [97], []⟩ : Sc)) : Mm × Sc) = _
     unfold M16
     rw [aAU]; rfl, by decide⟩
 | k + 6, h => by omega
theorem aMk : ∀ k, k ≤ 6 → (C17 k).seek.refs = [] ∧ (C17 k).out = []
 | 0, _ => ⟨rfl, rfl⟩
 | 1, _ => ⟨rfl, rfl⟩
 | 2, _ => ⟨rfl, rfl⟩
 | 3, _ => ⟨rfl, rfl⟩
 | 4, _ => ⟨rfl, rfl⟩
 | 5, _ => ⟨rfl, rfl⟩
 | 6, _ => ⟨rfl, rfl⟩
 | k + 7, h => by omega
theorem aLf : jW A4 [97] [] 5 = .tup [(C17 0).V, .int .i64 0] := by
 unfold jW sc0; rw [if_neg (by decide), if_neg (by decide), aNg]; rfl
theorem aLg : jW A4 [97] [] 0 = .tup [scZ.V, .int .i64 1] := by
 unfold jW; rw [if_neg (by decide), if_pos (by decide)]
theorem aLh : jW A4 [97, 98, 99, 100, 101, 102, 103, 104, 105, 106, 107, 108, 109, 110, 111, 112, 113, 114, 115, 116, 117, 118] [] 0 = .tup [scZ.V, .int .i64 20] := by
 unfold jW; rw [if_pos (by decide)]
def cD.C : aE
 | [] => some (false, pD True (.bool true))
 | _ => none
theorem cD.spec : bI Tryz.prog 17 cD.C := by
 refine bI.of (bR (F := [(32, gZ.C), (28, fV.C), (18, eE.C), (19, eK.C)]) (S := []) (by simpa using ⟨gZ.spec, fV.spec, eE.spec, eK.spec⟩) (by simp) cD.loops) cD.at cD.nm cD.bd ?_
 intro vs b S v news e hS
 unfold cD.C at e
 split at e
 rotate_left
 · cases e
 cases e
 rw [cD.eq]
 unfold cD.H
 simp (maxSteps := 4000000) only [go_sem, reduceEqDiff, Nat.reduceLT, reduceAdd, reduceSub, reduceLeDiff, reduceReplicate, reduceToNat, gZ.C, fV.C, eE.C, eK.C, aOe, aLe, aLf, aLg, aLh]
 have rA : roomy A4.length := aGS.roomy
 have hsm : mB A4 A4 [] := ⟨rA, rA, by unfold roomy; decide⟩
 simp only [fV.C, eE.C, aLe, aLf, aLg, aLh, memV, C17, scZ, Sc.V, Sk.V, skZ, aA, gq, reduceEq, reduceLT, reduceLE, implies_true, reduceCtorEq, if_true, if_false, go_sem, reduceEqDiff, Nat.reduceLT, reduceAdd, reduceSub, reduceLeDiff, reduceReplicate, reduceToNat]
 refine ⟨rA, rA, rA, rA, ?_⟩
 unfold cD.L1
 refine oL (σ := Nat) (fun k => .int .i64 k) (fun k => .int .i64 k) (fun k => [.box M16.V, .box (C17 k).V, .box scZ.V, .box scZ.V]) (fun k => 6 - k) (fun k => k ≤ 6) 0 rfl rfl (by decide) ?_
 intro I back k hk
 by_cases hk6 : k < 6
 · obtain ⟨h1, h2⟩ := aMj k hk6
   obtain ⟨h3, h4⟩ := aMk k hk
   have hb := back (k + 1) (n := 6 - k) (by omega) rfl rfl (by omega)
   clear back
   generalize C17 (k + 1) = y at *
   generalize C17 k = x at *
   obtain ⟨y1, y2, y3, y4, y5, y6, ⟨z1, z2, z3, z4, z5⟩, y7, y8⟩ := y
   obtain ⟨x1, x2, x3, x4, x5, x6, ⟨s1, s2, s3, s4, s5⟩, x7, x8⟩ := x
   simp only at h2 h3 h4
   have d1 : decide ((k : Int) < 40) = true := decide_eq_true (by omega)
   unfold M16 at h1 hb ⊢
   simp only [eK.C, h1, h2, d1, scZ, Mm.V, memV, Sc.V, Sk.V, skZ, eH (show k < 4611686018427387904 by omega), decide_false, aA, aA, gq, reduceEq, reduceLT, reduceLE, implies_true, reduceCtorEq, if_true, if_false, go_sem, reduceEqDiff, Nat.reduceLT, reduceAdd, reduceSub, reduceLeDiff, reduceReplicate, reduceToNat] at hb ⊢
   exact ⟨⟨hsm, aGS, by rw [h3]; decide, by rw [h4]; decide⟩, hb⟩
 · obtain rfl : k = 6 := by omega
   clear back
   simp only [C17, M16, scZ, Mm.V, memV, Sc.V, Sk.V, skZ, aA, aA, gq, reduceEq, reduceLT, reduceLE, implies_true, reduceCtorEq, if_true, if_false, go_sem, reduceEqDiff, Nat.reduceLT, reduceAdd, reduceSub, reduceLeDiff, reduceReplicate, reduceToNat]
   exact aG rfl rfl
end Lam
namespace Lam
open Go
def seeR (refs : List Int) (W : Int) : List Int := if 0 < W ∧ refs.getLast? ≠ some W then refs ++ [W] else refs
theorem aLi (l : List Int) (W : Int) : (decide (l.length = 0) || !decide (l.getD (l.length - 1) 0 = W)) = decide (l.getLast? ≠ some W) := by
 cases l with
 | nil => simp
 | cons a r =>
   rw [List.getLast?_eq_getElem?, List.getD_eq_getElem?_getD]
   have h : (a :: r).length - 1 < (a :: r).length := by simp
   rw [List.getElem?_eq_getElem h]
   simp
theorem aFd (W : Int) (s : Sk) : (goOn W s).refs = seeR s.refs W := by
 unfold goOn seeR
 simp only [aLi]
 by_cases h : 0 < W ∧ s.refs.getLast? ≠ some W
 · rw [if_pos h, if_pos (by simp only [Bool.and_eq_true, decide_eq_true_eq]; exact h)]
 · rw [if_neg h, if_neg (by simp only [Bool.and_eq_true, decide_eq_true_eq]; exact h)]
def InW (w : List Int) (b : Int) : Prop := 0 ≤ b ∧ b < 256 ∧ b < ((w.length / 16 : Nat) : Int)
def mZ (w : List Int) (b : Int) (k : Nat) : Int := w.getD ((16 * b).toNat + 3 + k) 0
theorem aGT {w : List Int} {b t : Int} {k : Nat} {refs : List Int} (h : InW w b) (hk : k < 13) : kW w ⟨b, t, k, refs, false⟩ = goOn (mZ w b k) ⟨b, t, k, refs, false⟩ := by
 obtain ⟨h0, h1, h2⟩ := h
 have hs : mY w ⟨b, t, k, refs, false⟩ = 16 * b + 3 + k := by
   unfold mY
   rw [if_pos (by simp only [Bool.and_eq_true, decide_eq_true_eq]; exact ⟨⟨h0, h1⟩, h2⟩)]
   show pA (16 * b) k = _
   exact aGB ((zE (by omega)).2 ⟨by omega, by omega, by omega⟩) (by omega) (by show (0 : Int) ≤ k; omega) (by show (k : Int) < 13; omega)
 unfold kW mZ
 rw [hs, decide_eq_false (by omega), if_neg (show ¬ (false || false) = true by decide)]
 rw [show (16 * b + 3 + (k : Int)).toNat = (16 * b).toNat + 3 + k by omega]
theorem aDI {w : List Int} {s : Sk} (h : s.over = true) : kW w s = s := by unfold kW; rw [h]; rfl
theorem aMl {w : List Int} {b t : Int} {k : Nat} {refs : List Int} (h : InW w b) (hk : k < 13) (hd : mH t = false) :
   kW w ⟨b, t, k, refs, false⟩ = if mZ w b k < 1 ∨ k = 12 then ⟨b, t, k, seeR refs (mZ w b k), true⟩ else ⟨b, t, (k + 1 : Nat), seeR refs (mZ w b k), false⟩ := by
 rw [aGT h hk]
 have hr := aFd (mZ w b k) ⟨b, t, k, refs, false⟩
 have ho : kI (mZ w b k) ⟨b, t, k, refs, false⟩ = decide (mZ w b k < 1 ∨ k = 12) := by
   unfold kI
   simp only [hd]
   rw [if_neg (by decide)]
   rw [show decide ((k : Int) = 12) = decide (k = 12) from decide_eq_decide.2 (by omega)]
   by_cases h1 : mZ w b k < 1 <;> by_cases h2 : k = 12 <;> simp [h1, h2]
 unfold goOn at hr ⊢
 simp only at hr
 rw [ho]
 simp only [hr]
 by_cases hc : mZ w b k < 1 ∨ k = 12
 · rw [if_pos hc, decide_eq_true hc]; simp
 · rw [if_neg hc, decide_eq_false hc]
   simp only [hd]
   rw [if_neg (by decide), if_neg (by decide), eH (by omega)]
theorem aJG {w : List Int} {b t : Int} {k : Nat} {refs : List Int} (h : InW w b) (hk : k < 13) (hd : mH t = true) :
   kW w ⟨b, t, k, refs, false⟩ = if k = 0 then ⟨b, t, k, seeR refs (mZ w b k), true⟩ else ⟨b, t, (k - 1 : Nat), seeR refs (mZ w b k), false⟩ := by
 rw [aGT h hk]
 have hr := aFd (mZ w b k) ⟨b, t, k, refs, false⟩
 have ho : kI (mZ w b k) ⟨b, t, k, refs, false⟩ = decide (k = 0) := by
   unfold kI
   simp only [hd, if_true]
   exact decide_eq_decide.2 (by omega)
 unfold goOn at hr ⊢
 simp only at hr
 rw [ho]
 simp only [hr]
 by_cases hc : k = 0
 · rw [if_pos hc, decide_eq_true hc]; simp
 · rw [if_neg hc, decide_eq_false hc]
   simp only [hd, if_true]
   rw [if_neg (by decide)]
   rw [show IntKind.i64.wrap ((k : Int) - 1) = ((k - 1 : Nat) : Int) by rw [w64 (by omega) (by omega)]; omega]
theorem zZ : ∀ l : List Int, (plain l).getLast? = l.getLast?
 | [] => rfl
 | [a] => rfl
 | a :: b :: r => by
   have ih := zZ (b :: r)
   simp only [plain]
   split
   · rw [ih]; simp
   · rw [List.getLast?_cons, ih, List.getLast?_cons (a := a), List.getLast?_cons (a := b)]
theorem aDJ {l : List Int} {W : Int} (h : 0 < W) : seeR (plain l) W = plain (l ++ [W]) := by
 unfold seeR
 rw [uR, zZ]
 by_cases e : l.getLast? = some W
 · rw [if_pos e, if_neg (fun h => h.2 e)]
 · rw [if_neg e, if_pos ⟨h, e⟩]
theorem aFe {l : List Int} {W : Int} (h : ¬ 0 < W) : seeR l W = l := by unfold seeR; rw [if_neg (fun h' => h h'.1)]
theorem aJH (a : Int) (l : List Int) : plain (a :: l) = if l.head? = some a then plain l else a :: plain l := by
 cases l with
 | nil => rfl
 | cons b r =>
   have h : ((b :: r).head? = some a) ↔ a = b := by rw [List.head?_cons]; exact ⟨fun h => by cases h; rfl, fun h => by rw [h]⟩
   by_cases e : a = b
   · rw [if_pos (h.2 e)]; simp only [plain, if_pos e]
   · rw [if_neg (fun h' => e (h.1 h'))]; simp only [plain, if_neg e]
theorem aFf : ∀ l : List Int, plain l.reverse = (plain l).reverse
 | [] => rfl
 | a :: l => by
   rw [List.reverse_cons, uR, aJH, aFf l, List.getLast?_reverse]
   split
   · rfl
   · rw [List.reverse_cons]
def aEj (w : List Int) (b : Int) (l : List Int) : Prop := InW w b ∧ l.length ≤ 13 ∧ (∀ x ∈ l, 0 < x) ∧ ∀ k, k < 13 → mZ w b k = l.getD k 0
def upAt (b t : Int) (l : List Int) (k : Nat) : Sk := if k ≤ min l.length 12 then ⟨b, t, k, plain (l.take k), false⟩ else ⟨b, t, (min l.length 12 : Nat), plain l, true⟩
theorem aNh {w : List Int} {b t : Int} {l : List Int} (h : aEj w b l) (hd : mH t = false) (k : Nat) : kW w (upAt b t l k) = upAt b t l (k + 1) := by
 obtain ⟨hin, hl, hpos, hs⟩ := h
 unfold upAt
 by_cases hk : k ≤ min l.length 12
 · have hk13 : k < 13 := by omega
   rw [if_pos hk, aMl hin hk13 hd, hs k hk13]
   by_cases hkl : k < l.length
   · have hp := hpos _ (lK l k 0 hkl)
     rw [aDJ hp, ← gQ l k 0 hkl]
     by_cases h12 : k = 12
     · rw [if_pos (.inr h12), if_neg (by omega)]
       rw [show min l.length 12 = k by omega, List.take_of_length_le (by omega)]
     · rw [if_neg (by omega), if_pos (by omega)]
   · obtain rfl : k = l.length := by omega
     have h0 : l.getD l.length 0 = 0 := by rw [List.getD_eq_getElem?_getD, List.getElem?_eq_none (Nat.le_refl _)]; rfl
     rw [h0, aFe (by decide), if_pos (.inl (by decide)), if_neg (by omega), List.take_length]
     rw [show min l.length 12 = l.length by omega]
 · rw [if_neg hk, if_neg (by omega), aDI rfl]
def yK (b t : Int) (l : List Int) (k : Nat) : Sk := if k ≤ 12 then ⟨b, t, (12 - k : Nat), plain (l.drop (13 - k)).reverse, false⟩ else ⟨b, t, 0, plain l.reverse, true⟩
theorem aLj {w : List Int} {b t : Int} {l : List Int} (h : aEj w b l) (hd : mH t = true) (k : Nat) : kW w (yK b t l k) = yK b t l (k + 1) := by
 obtain ⟨hin, hl, hpos, hs⟩ := h
 unfold yK
 by_cases hk : k ≤ 12
 · have hk13 : 12 - k < 13 := by omega
   have hsee : seeR (plain (l.drop (13 - k)).reverse) (l.getD (12 - k) 0) = plain (l.drop (12 - k)).reverse := by
     by_cases hkl : 12 - k < l.length
     · rw [aDJ (hpos _ (lK l _ 0 hkl)), wM l (12 - k) 0 hkl, List.reverse_cons, show 13 - k = 12 - k + 1 by omega]
     · rw [List.getD_eq_getElem?_getD, List.getElem?_eq_none (by omega), aFe (by decide), List.drop_of_length_le (by omega), List.drop_of_length_le (by omega)]
   rw [if_pos hk, aJG hin hk13 hd, hs _ hk13, hsee]
   by_cases h12 : k = 12
   · subst h12
     rw [if_pos (by decide), if_neg (by decide)]
     rfl
   · rw [if_neg (by omega), if_pos (by omega)]
     rw [show 12 - k - 1 = 12 - (k + 1) by omega, show 12 - k = 13 - (k + 1) by omega]
 · rw [if_neg hk, if_neg (by omega), aDI rfl]
end Lam
namespace Lam
open Go
theorem aBN {w : List Int} {low : aY} : ∀ {l : List Int} {k : Nat} {last : aY}, lN w low l k last = true → ∀ s ∈ l, ∃ x, recO w s = some x ∧ x.kind = 1
 | [], _, _, _, s, hs => by cases hs
 | a :: r, k, last, h, s, hs => by
   simp only [lN] at h
   cases hx : recO w a with
   | none => rw [hx] at h; cases h
   | some x =>
     rw [hx] at h
     simp only [Bool.and_eq_true, decide_eq_true_eq] at h
     rcases List.mem_cons.1 hs with rfl | hs
     · exact ⟨x, hx, h.1.1.1⟩
     · exact aBN h.2 s hs
theorem aJI {w : List Int} {i : Nat} {last low : aY} {b : Int} (h : nF w i last b = some low) : ∃ n, dF w b = some n ∧ lowO w n = some low ∧ lN w low (plain n.slots) 0 low = true := by
 unfold nF at h
 cases hn : dF w b with
 | none => rw [hn] at h; cases h
 | some n =>
   rw [hn] at h
   simp only at h
   cases hw : lowO w n with
   | none => rw [hw] at h; cases h
   | some lo =>
     rw [hw] at h
     simp only at h
     split at h
     rotate_left
     · cases h
     rename_i hc
     cases h
     simp only [Bool.and_eq_true] at hc
     exact ⟨n, rfl, hw, hc.2⟩
end Lam
namespace Lam
open Go
theorem wA {w : List Int} {b : Int} {n : Nd} (h : dF w b = some n) (hb : b < 256) : aEj w b n.slots := by
 obtain ⟨hok, h0, h1, hr⟩ := lS h
 have hw := (aDy hr).2
 have h13 := hok.2.2.2.2.2.2.1
 refine ⟨⟨h0, hb, h1⟩, h13, fun x hx => by have := hok.2.2.2.2.2.2.2 x hx; omega, fun k hk => ?_⟩
 have e1 : mZ w b k = (kS w b.toNat).getD (k + 1 + 1 + 1) 0 := by
   unfold mZ kS
   rw [aKJ, if_pos (by omega), aKK]
   congr 1; omega
 rw [e1, ← hw]
 unfold gK
 rw [List.getD_cons_succ, List.getD_cons_succ, List.getD_cons_succ]
 rcases Nat.lt_or_ge k n.slots.length with h1 | h1
 · rw [List.getD_eq_getElem?_getD, List.getElem?_append_left h1, ← List.getD_eq_getElem?_getD]
 · rw [List.getD_eq_getElem?_getD, List.getElem?_append_right h1, List.getD_eq_getElem?_getD, List.getElem?_eq_none h1, List.getElem?_replicate]
   split <;> rfl
def aGU (w : List Int) (s : Sk) : Nat → Sk
 | 0 => s
 | k + 1 => kW w (aGU w s k)
def kY (b : Int) (n : Nd) (k : Nat) : Sk := if mH n.turn = true then yK b n.turn n.slots k else upAt b n.turn n.slots k
theorem qH {w : List Int} {b : Int} {n : Nd} (h : dF w b = some n) (hb : b < 256) : ∀ k, aGU w (kY b n 0) k = kY b n k
 | 0 => rfl
 | k + 1 => by
   unfold aGU
   rw [qH h hb k]
   unfold kY
   cases hd : mH n.turn with
   | true => exact aLj (wA h hb) hd k
   | false => exact aNh (wA h hb) hd k
theorem aLk {b : Int} {n : Nd} (h13 : n.slots.length ≤ 13) : ∃ a R, kY b n 13 = ⟨b, n.turn, a, R, true⟩ ∧ (R = plain n.slots ∨ R = (plain n.slots).reverse) := by
 unfold kY
 by_cases hd : mH n.turn = true
 · rw [if_pos hd]
   exact ⟨_, _, rfl, .inr (aFf _)⟩
 · rw [if_neg hd]
   unfold upAt
   rw [if_neg (by omega)]
   exact ⟨_, _, rfl, .inl rfl⟩
def recT (w : List Int) (s : Int) : RecT := rcT ((recO w s).getD kE)
theorem uW {w : List Int} {low : aY} : ∀ {l : List Int} {k : Nat} {last : aY}, lN w low l k last = true → (l.map (recT w)).Pairwise ltR ∧ (k ≠ 0 → ∀ s ∈ l, ltB last (recT w s).key = true)
 | [], _, _, _ => ⟨List.Pairwise.nil, fun _ s hs => by cases hs⟩
 | a :: r, k, last, h => by
   simp only [lN] at h
   cases hx : recO w a with
   | none => rw [hx] at h; cases h
   | some x =>
     rw [hx] at h
     simp only [Bool.and_eq_true, Bool.or_eq_true, decide_eq_true_eq] at h
     obtain ⟨⟨_, hk⟩, hr⟩ := h
     have ex : recT w a = rcT x := by unfold recT; rw [hx]; rfl
     obtain ⟨h1, h2⟩ := uW hr
     have h2 := h2 (by omega)
     have hstep : ∀ s ∈ r, ltB x.key (recT w s).key = true ∧ (ltB last x.key = true → ltB last (recT w s).key = true) := by
       intro s hs
       have := h2 s hs
       by_cases hl : ltB last x.key = true
       · rw [if_pos hl] at this
         exact ⟨this, fun h => jG h this⟩
       · rw [if_neg hl] at this
         have hle : leB x.key last := by unfold leB; simpa using hl
         refine ⟨?_, fun h => absurd h hl⟩
         rcases yA x.key last with e | e | e
         · exact jG e this
         · rw [e]; exact this
         · exact absurd e hl
     refine ⟨?_, fun hk0 s hs => ?_⟩
     · rw [List.map_cons, List.pairwise_cons]
       refine ⟨fun y hy => ?_, h1⟩
       obtain ⟨s, hs, rfl⟩ := List.mem_map.1 hy
       unfold ltR
       rw [ex]
       exact (hstep s hs).1
     · have hlt : ltB last x.key = true := by rcases hk with h | h; exact absurd h hk0; exact h
       rcases List.mem_cons.1 hs with rfl | hs
       · rw [ex]; exact hlt
       · exact (hstep s hs).2 hlt
theorem aGV {w : List Int} : ∀ {l : List Int} {out : List RecT}, (∀ s ∈ l, ∃ x, recO w s = some x) → ((out ++ l.map (recT w)).map (·.key)).Nodup → l.foldl (hitS w) out = out ++ l.map (recT w)
 | [], out, _, _ => by simp
 | a :: r, out, h, hn => by
   obtain ⟨x, hx⟩ := h a (by simp)
   have ex : recT w a = rcT x := by unfold recT; rw [hx]; rfl
   have hni : x.key ∉ out.map (·.key) := by
     intro hm
     rw [List.map_append, List.nodup_append] at hn
     refine hn.2.2 _ hm x.key ?_ rfl
     rw [List.map_map, List.map_cons, List.mem_cons]
     left
     show x.key = (recT w a).key
     rw [ex]; rfl
   have hs : hitS w out a = out ++ [recT w a] := by
     unfold hitS
     rw [hx]
     simp only [hni, if_false, ex]
   rw [List.foldl_cons, hs, aGV (fun s hs => h s (by simp [hs])) (by simpa using hn)]
   simp
theorem aHT {l : List RecT} (h : l.Pairwise ltR) : (l.map (·.key)).Nodup := by
 unfold List.Nodup
 rw [List.pairwise_map]
 exact h.imp fun {a b} hab e => by unfold ltR at hab; rw [e, qV] at hab; cases hab
theorem aLl {w R L : List Int} (hrec : ∀ s ∈ L, ∃ x, recO w s = some x) (hr : (L.map (recT w)).Pairwise ltR) (hR : R = L ∨ R = L.reverse) : uU (jA w R) = L.map (recT w) := by
 have hp : (R.map (recT w)).Perm (L.map (recT w)) := by
   rcases hR with rfl | rfl
   · exact .refl _
   · exact (List.reverse_perm L).map _
 have hn : ((R.map (recT w)).map (·.key)).Nodup := (hp.map _).nodup_iff.2 (aHT hr)
 have e : jA w R = R.map (recT w) := by
   unfold jA
   rw [aGV (fun s hs => hrec s (by rcases hR with rfl | rfl; exact hs; exact List.mem_reverse.1 hs)) (by simpa using hn)]
   simp
 rw [e]
 exact aCu (xF hn) hr ((sA _).trans hp)
theorem aBO {w l : List Int} {i : Nat} {last : aY} (hi : i < l.length) (h : lH w (l.drop i) i last = true) : ∃ low, nF w i last (l.getD i 0) = some low ∧ lH w (l.drop (i + 1)) (i + 1) low = true := by
 rw [wM l i 0 hi] at h
 simp only [lH] at h
 split at h
 · cases h
 · rename_i low hl; exact ⟨low, hl, h⟩
theorem wU {w : List Int} {i : Nat} {last : aY} {b : Int} {low : aY} (h : nF w i last b = some low) : (dF w b).bind (lowO w) = some low ∧ ((i = 0 ∧ low = []) ∨ (0 < i ∧ ltB last low = true)) := by
 unfold nF at h
 cases hn : dF w b with
 | none => rw [hn] at h; cases h
 | some n =>
   rw [hn] at h
   simp only at h
   cases hw : lowO w n with
   | none => rw [hw] at h; cases h
   | some lo =>
     rw [hw] at h
     simp only at h
     split at h
     rotate_left
     · cases h
     rename_i hc
     cases h
     refine ⟨hw, ?_⟩
     simp only [Bool.and_eq_true, Bool.or_eq_true, decide_eq_true_eq] at hc
     rcases hc.1 with ⟨h1, h2⟩ | ⟨h1, h2⟩
     · left
       unfold lowO at hw
       rw [if_pos h2] at hw
       cases hw
       exact ⟨h1, rfl⟩
     · exact .inr ⟨h1, h2⟩
theorem aIw (a : aY) : ltB a [] = false := by cases a <;> rfl
theorem nZ {w l : List Int} (hl : iF (eA w) w = some l) : lA (eA w) w = some l ∧ lH w l 0 [] = true ∧ eA w = true := by
 unfold iF at hl
 split at hl
 · cases hl
 · rename_i l' hl'
   split at hl
   · rename_i hb; cases hl; exact ⟨hl', hb, (lU hl').1⟩
   · cases hl
def aFM (w : List Int) : Int → List Int → Prop
 | b, [] => b = 0
 | b, x :: r => b ≠ 0 ∧ x = b ∧ ∃ n, dF w b = some n ∧ n.level = 0 ∧ aFM w n.next r
theorem aBP {w : List Int} : ∀ (m : Nat) (b : Int) (out l : List Int), tO w m b out = some l → ∃ r, l = out ++ r ∧ aFM w b r
 | 0, b, out, l, h => by cases h
 | m + 1, b, out, l, h => by
   simp only [tO] at h
   split at h
   · rename_i h0; cases h; exact ⟨[], by simp, h0⟩
   · rename_i h0
     cases hn : dF w b with
     | none => rw [hn] at h; cases h
     | some n =>
       rw [hn] at h
       simp only at h
       split at h
       · rename_i hc
         obtain ⟨r, hr, hl⟩ := aBP m n.next (out ++ [b]) l h
         exact ⟨b :: r, by rw [hr]; simp, h0, rfl, n, hn, hc.1, hl⟩
       · cases h
theorem aGW {w : List Int} : ∀ {b : Int} {l : List Int}, aFM w b l → ∀ {i : Nat}, i < l.length → l.getD i 0 ≠ 0 ∧ ∃ n, dF w (l.getD i 0) = some n ∧ n.level = 0 ∧ n.next = if i + 1 < l.length then l.getD (i + 1) 0 else 0
 | b, [], _, i, hi => absurd hi (Nat.not_lt_zero _)
 | b, x :: r, h, 0, hi => by
   obtain ⟨h0, rfl, n, hn, hl, hk⟩ := h
   refine ⟨h0, n, hn, hl, ?_⟩
   cases r with
   | nil => exact hk
   | cons y r' => exact hk.2.1.symm
 | b, x :: r, h, i + 1, hi => by
   obtain ⟨h0, rfl, n, hn, hl, hk⟩ := h
   obtain ⟨q0, n', q1, q2, q3⟩ := aGW hk (i := i) (by simpa using hi)
   refine ⟨q0, n', q1, q2, ?_⟩
   rw [q3]
   by_cases hc : i + 1 < r.length
   · rw [if_pos hc, if_pos (by simp; omega)]; rfl
   · rw [if_neg hc, if_neg (by simp; omega)]
theorem aIx {w : List Int} {b : Int} {low : aY} (h : (dF w b).bind (lowO w) = some low) : lowZ w b = low := by unfold lowZ; rw [h]; rfl
theorem aIy {w l : List Int} (h : lH w l 0 [] = true) : ∀ i, i < l.length → ∃ last low, nF w i last (l.getD i 0) = some low ∧ lH w (l.drop (i + 1)) (i + 1) low = true ∧ (i = 0 → low = []) ∧ ∀ j, j < i → ltB (lowZ w (l.getD j 0)) low = true
 | 0, hi => by
   obtain ⟨low, h1, h2⟩ := aBO (last := []) hi (by rw [List.drop_zero]; exact h)
   refine ⟨[], low, h1, h2, fun _ => ?_, fun j hj => by omega⟩
   rcases (wU h1).2 with h | h
   · exact h.2
   · omega
 | i + 1, hi => by
   obtain ⟨last, low, h1, h2, h3, h4⟩ := aIy h i (by omega)
   obtain ⟨low', q1, q2⟩ := aBO hi h2
   have hlt : ltB low low' = true := by
     rcases (wU q1).2 with h | h
     · omega
     · exact h.2
   refine ⟨low, low', q1, q2, fun h => by omega, fun j hj => ?_⟩
   by_cases e : j = i
   · rw [e, aIx (wU h1).1]; exact hlt
   · exact jG (h4 j (by omega)) hlt
theorem mC {w l : List Int} (h : iF (eA w) w = some l) {i : Nat} (hi : i < l.length) :
   l.getD i 0 ≠ 0 ∧ ∃ n, dF w (l.getD i 0) = some n ∧ n.level = 0 ∧ n.next = (if i + 1 < l.length then l.getD (i + 1) 0 else 0) ∧ lowO w n = some (lowZ w (l.getD i 0)) ∧ lN w (lowZ w (l.getD i 0)) (plain n.slots) 0 (lowZ w (l.getD i 0)) = true ∧
     (i = 0 → lowZ w (l.getD i 0) = []) ∧ ∀ j, j < i → ltB (lowZ w (l.getD j 0)) (lowZ w (l.getD i 0)) = true := by
 obtain ⟨h1, h2, hrd⟩ := nZ h
 have hlk : aFM w 1 l := by
   unfold lA at h1
   rw [if_pos hrd] at h1
   obtain ⟨r, hr, hl⟩ := aBP _ _ _ _ h1
   rw [List.nil_append] at hr
   rw [hr]; exact hl
 obtain ⟨q0, n, q1, q2, q3⟩ := aGW hlk hi
 obtain ⟨last, low, g1, _, g3, g4⟩ := aIy h2 i hi
 have hlow := aIx (wU g1).1
 obtain ⟨n', r1, r2, r3⟩ := aJI g1
 rw [q1] at r1
 cases r1
 rw [hlow]
 exact ⟨q0, n, q1, q2, q3, r2, r3, g3, g4⟩
end Lam
namespace Lam
open Go Go.Proofs
def eI.loops : Nat → bX
 | 6 => ⟨[2, 21], [true, false], [0, 19, 20], [], [], []⟩
 | _ => ⟨[], [], [], [], [], []⟩
def eI.L1 (c : Ctx) (J1 : AV → List AObj → Prop) (K : AOut → List AObj → Prop) (lv : List AV) (h0 : List AObj) (n0 : Nat) (c0 : AV) (c19 : AV) (c20 : AV) : Prop :=
 ∃ I : Nat → List AV → List AObj → Prop, (∃ n, I n lv h0) ∧ ∀ n h, ∀ t2, ∀ t21, I n [t2, t21] h →
 runD (binD aB .lss t21 c20) h fun t22 h =>
 aW t22
 (runD (aH aM h c19 t21) h fun t23 h =>
 runD (fitD aB (aD h t23)) h fun t24 h =>
 aQ false c (.fn (.func 52) [] []) [c0, t24] h (fun t28 h =>
 aQ false c (.fn (.func 51) [] []) [t2, t28] h (fun t29 h =>
 runD (binD aB .add t21 (.int .i64 1)) h fun t30 h =>
 (∃ m, m < n ∧ I m (AV.norms n0 h [t29, t30]) (cJ n0 h)) ∧ AV.norms n0 h [c0, c19, c20] = [c0, c19, c20])
 (fun v h => K (.pan v) h))
 (fun v h => K (.pan v) h))
 (J1 t2 h)
def eI.H (c : Ctx) (t0 : AV) (h : List AObj) (K : AOut → List AObj → Prop) : Prop :=
 aQ false c (.fn (.func 22) [] []) [t0] h (fun t10 h =>
 runD (binD cM .neq t10 (.int .i64 0)) h fun t12 h =>
 aW t12
 (K (.ret (.tup [(.sl true (.pairs [])), t10])) h)
 (aQ false c (.fn (.func 24) [] []) [t0] h (fun t16 h =>
 runD (aV t16 0) h fun t17 h =>
 runD (aV t16 1) h fun t18 h =>
 runD (lenD aM h t17) h fun t20 h =>
 aJ (fun (J1 : AV → List AObj → Prop) =>
 dC [true, false] [(.sl true (.pairs [])), (.int .i64 0)] h fun lv h => eI.L1 c J1 K (AV.norms h.length h lv) (cJ h.length h) h.length (AV.norm h.length h t0) (AV.norm h.length h t17) (AV.norm h.length h t20))
 (fun t2 h => K (.ret (.tup [t2, (.int .i64 0)])) h))
 (fun v h => K (.pan v) h)))
 (fun v h => K (.pan v) h)
def iD.loops : Nat → bX
 | _ => ⟨[], [], [], [], [], []⟩
def iD.H (c : Ctx) (t0 : AV) (t1 : AV) (h : List AObj) (K : AOut → List AObj → Prop) : Prop :=
 boxW aM t0 h fun t2 h =>
 boxW aB t1 h fun t3 h =>
 K (.ret (.fn (.func 84) [] [t2, t3])) h
def eJ.loops : Nat → bX
 | 3 => ⟨[29], [false], [0, 1, 4, 6, 27, 28], [], [], []⟩
 | 6 => ⟨[], [], [], [(4, none), (4, some [42, 46]), (2, none), (8, some [48, 56])], [], []⟩
 | _ => ⟨[], [], [], [], [], []⟩
def eJ.L1 (c : Ctx) (J1 : List AObj → Prop) (K : AOut → List AObj → Prop) (lv : List AV) (h0 : List AObj) (n0 : Nat) (c0 : AV) (c1 : AV) (c4 : AV) (c6 : AV) (c27 : AV) (c28 : AV) : Prop :=
 ∃ I : Nat → List AV → List AObj → Prop, (∃ n, I n lv h0) ∧ ∀ n h, ∀ t29, I n [t29] h →
 runD (binD aB .lss t29 c28) h fun t30 h =>
 aW t30
 (runD (aH aM h c27 t29) h fun t31 h =>
 runD (fitD aB (aD h t31)) h fun t32 h =>
 runD (fitD aM (aD h c1)) h fun t34 h =>
 aQ false c (.fn (.func 79) [] []) [t34, t32] h (fun t36 h =>
 runD (aV t36 0) h fun t37 h =>
 runD (aV t36 1) h fun t38 h =>
 cP aK h fun t10 h =>
 runH (aO aK h t10 t37) h fun _ h =>
 runD (aC bB c4 2) h fun t39 h =>
 runD (fitD aB (aD h t39)) h fun t40 h =>
 runD (binD aB .neq t40 (.int .i64 0)) h fun t41 h =>
 aJ (fun (J2 : AV → AV → List AObj → Prop) =>
 aT t41 true
 (runD (aC aK t10 1) h fun t43 h =>
 runD (fitD bP (aD h t43)) h fun t44 h =>
 runD (binD bP .geq t44 c6) h fun t46 h =>
 J2 (.bool true) t46 h)
 (J2 (.bool false) .und h))
 (fun t42 t46 h => runD (bK t42 t46 (.bool false)) h fun t47 h =>
 aJ (fun (J3 : AV → AV → List AObj → Prop) =>
 aT t47 false
 (runD (aC aK t10 1) h fun t50 h =>
 runD (fitD bP (aD h t50)) h fun t51 h =>
 runD (aC aK t10 2) h fun t52 h =>
 runD (fitD bP (aD h t52)) h fun t53 h =>
 runD (gT iT [(0, t51), (1, t53)]) h fun t54 h =>
 aQ false c c0 [t54] h (fun t55 h =>
 runD (unD .not t55) h fun t56 h =>
 J3 (.bool false) t56 h)
 (fun v h => K (.pan v) h))
 (J3 (.bool true) .und h))
 (fun t48 t56 h => runD (bK t48 (.bool true) t56) h fun t57 h =>
 aW t57
 (K (.ret (.tup [])) h)
 (runD (binD aB .add t29 (.int .i64 1)) h fun t58 h =>
 (∃ m, m < n ∧ I m (AV.norms n0 h [t58]) (cJ n0 h)) ∧ AV.norms n0 h [c0, c1, c4, c6, c27, c28] = [c0, c1, c4, c6, c27, c28]))))
 (fun v h => K (.pan v) h))
 (J1 h)
def eJ.H (c : Ctx) (t0 : AV) (t1 : AV) (t2 : AV) (h : List AObj) (K : AOut → List AObj → Prop) : Prop :=
 runD (fitD aM (aD h t1)) h fun t13 h =>
 runD (fitD aB (aD h t2)) h fun t14 h =>
 aQ false c (.fn (.func 46) [] []) [t13, t14] h (fun t15 h =>
 runD (aV t15 0) h fun t16 h =>
 runD (aV t15 1) h fun t17 h =>
 cP bB h fun t4 h =>
 runH (aO bB h t4 t16) h fun _ h =>
 runD (fitD aM (aD h t1)) h fun t19 h =>
 runD (aC bB t4 2) h fun t20 h =>
 runD (fitD aB (aD h t20)) h fun t21 h =>
 aQ false c (.fn (.func 47) [] []) [t19, t21] h (fun t22 h =>
 runD (aV t22 0) h fun t23 h =>
 runD (aV t22 1) h fun t24 h =>
 runD (aC bB t4 4) h fun t25 h =>
 runD (fitD aM (aD h t25)) h fun t26 h =>
 aQ false c (.fn (.func 78) [] []) [t26] h (fun t27 h =>
 runD (lenD aM h t27) h fun t28 h =>
 aJ (fun (J1 : List AObj → Prop) =>
 dC [false] [(.int .i64 0)] h fun lv h => eJ.L1 c J1 K (AV.norms h.length h lv) (cJ h.length h) h.length (AV.norm h.length h t0) (AV.norm h.length h t1) (AV.norm h.length h t4) (AV.norm h.length h t23) (AV.norm h.length h t27) (AV.norm h.length h t28))
 (fun h => K (.ret (.tup [])) h))
 (fun v h => K (.pan v) h))
 (fun v h => K (.pan v) h))
 (fun v h => K (.pan v) h)
theorem eI.eq (F : List (FuncId × aE)) (S : List (FuncId × Con)) (t0 : AV) (h : List AObj) (K : AOut → List AObj → Prop) : funW (ctx F S eI.loops) Tryz.f26 [t0] h K = eI.H (ctx F S eI.loops) t0 h K := by kernel_rfl
theorem iD.eq (F : List (FuncId × aE)) (S : List (FuncId × Con)) (t0 t1 : AV) (h : List AObj) (K : AOut → List AObj → Prop) : funW (ctx F S iD.loops) Tryz.f52 [t0, t1] h K = iD.H (ctx F S iD.loops) t0 t1 h K := by kernel_rfl
theorem eJ.eq (F : List (FuncId × aE)) (S : List (FuncId × Con)) (l : Nat) (Y : Con) (t0 t1 t2 : AV) (h : List AObj) (K : AOut → List AObj → Prop) : funW ((ctx F S eJ.loops).withY l Y) Tryz.f84 [t0, t1, t2] h K = eJ.H ((ctx F S eJ.loops).withY l Y) t0 t1 t2 h K := by kernel_rfl
theorem eI.at : Tryz.prog.funcs[26]? = some Tryz.f26 := by kernel_rfl
theorem eI.nm : (Tryz.f26.name == "runtime.NumGoroutine") = false := by kernel_rfl
theorem eI.bd : Tryz.f26.body.isNone = false := by kernel_rfl
theorem iD.at : Tryz.prog.funcs[52]? = some Tryz.f52 := by kernel_rfl
theorem iD.nm : (Tryz.f52.name == "runtime.NumGoroutine") = false := by kernel_rfl
theorem iD.bd : Tryz.f52.body.isNone = false := by kernel_rfl
theorem eJ.at : Tryz.prog.funcs[84]? = some Tryz.f84 := by kernel_rfl
theorem eJ.nm : (Tryz.f84.name == "runtime.NumGoroutine") = false := by kernel_rfl
theorem eJ.bd : Tryz.f84.body.isNone = false := by kernel_rfl
end Lam
