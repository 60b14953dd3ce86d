/- What functions of the program come to, each proved from its code. -/
import Derived.Test.YtmbmfnmjjelmkabGreatLm6
set_option linter.unusedVariables false
set_option linter.unusedSimpArgs false
set_option linter.unnecessarySimpa false
set_option linter.unusedSectionVars false
open Nat (reduceEqDiff reduceAdd reduceSub reduceLeDiff)
open Int (reduceToNat reduceEq reduceLE reduceLT)
open List (reduceReplicate)
set_option maxRecDepth 20000
namespace Lam
open Go Go.Proofs
def eJ.I : Con → Con := fun Y args h K => match args with
 | [.fn (.yield l) [] [], a0, a1] => eJ.H ((ctx [(46, cN.C), (47, dB.C), (78, eD.C), (79, dO.C)] [] eJ.loops).withY l Y) (.fn (.yield l) [] []) a0 a1 h K
 | _ => False
theorem eJ.spec : qK Tryz.prog 84 eJ.I := by
 refine qK.of (bR (F := [(46, cN.C), (47, dB.C), (78, eD.C), (79, dO.C)]) (S := []) (by simpa using ⟨cN.spec, dB.spec, eD.spec, dO.spec⟩) (by simp) eJ.loops).toOkI eJ.at eJ.nm eJ.bd ?_
 intro Yc l cap h K hC
 unfold eJ.I at hC
 split at hC
 · rename_i e
   simp only [List.cons.injEq, AV.fn.injEq, Fn.yield.injEq, and_true, true_and] at e
   obtain ⟨rfl, rfl⟩ := e
   rw [eJ.eq]; exact hC
 · exact hC.elim
def iD.K : Con := fun args h K => match args with
 | [a0, a1] => iD.H (ctx [] [] iD.loops) a0 a1 h K
 | _ => False
theorem iD.spec : dH Tryz.prog 52 iD.K := by
 refine dH.of (bR (F := []) (S := []) (by simp) (by simp) iD.loops) iD.at iD.nm iD.bd ?_
 intro args h K hC
 unfold iD.K at hC
 split at hC
 · rw [iD.eq]; exact hC
 · exact hC.elim
def bE.K : Con := fun args h K => match args with
 | [a0, a1] => bE.H (ctxI [] [] [(84, eJ.I)] bE.loops) a0 a1 h K
 | _ => False
theorem bE.spec : dH Tryz.prog 51 bE.K := by
 refine dH.of (aBm (F := []) (S := []) (Is := [(84, eJ.I)]) (by simp) (by simp) (by simpa using eJ.spec) bE.loops) bE.at bE.nm bE.bd ?_
 intro args h K hC
 unfold bE.K at hC
 split at hC
 · rw [bE.eq]; exact hC
 · exact hC.elim
def aDK (w : List Int) : AV := match iF (eA w) w with
 | none => .tup [.sl false (.pairs []), .int .i64 110]
 | some l => .tup [.sl false (.pairs (allP w l)), .int .i64 0]
theorem aMm (w : List Int) (b : Int) : ∃ e, qM w b = .tup [(mV w b).V, .int .i64 e] := by
 unfold mV
 cases hn : dF w b with
 | none =>
   obtain ⟨e, _, hv⟩ := nW hn
   exact ⟨e, hv⟩
 | some n => exact ⟨0, iO hn⟩
theorem aIz (w : List Int) (b : Int) : ∃ e, lowV w b = .tup [.str (lowZ w b), .int .i64 e] := by
 unfold lowV lowZ
 cases h : (dF w b).bind (lowO w) with
 | none => exact ⟨_, rfl⟩
 | some l => exact ⟨_, rfl⟩
theorem aLm (w : List Int) (s : Int) : ∃ e, pG w s = .tup [(recZ w s).V, .int .i64 e] := by
 unfold recZ
 cases hn : recO w s with
 | none =>
   obtain ⟨e, _, hv⟩ := tA hn
   exact ⟨e, hv⟩
 | some n => exact ⟨0, sZ hn⟩
theorem aBQ (w : List Int) (b : Int) : (mV w b).slots.length ≤ 13 := by
 unfold mV
 cases hn : dF w b with
 | none => exact Nat.zero_le _
 | some n => exact (lS hn).1.2.2.2.2.2.2.1
theorem aGX {α β : Type} (f : α → β) (L : List α) (d : α) {e : β} {i : Nat} (h : i < L.length) : (L.map f).getD i e = f (L.getD i d) := by
 rw [List.getD_eq_getElem?_getD, List.getElem?_map, List.getElem?_eq_getElem h, List.getD_eq_getElem?_getD, List.getElem?_eq_getElem h]; rfl
theorem aMn (w : List Int) (b : Int) (out : List iY) (v : Nat) (hw : iE w) (hro : out.length ≤ 100000) (K : AOut → List AObj → Prop)
   (hK : ∀ h' v', K (.ret (.sref false 0 v' 0 (out ++ ownP w b).length)) (.row .own v' (.pairs (out ++ ownP w b)) :: h')) :
   bE.K [.sref false 0 v 0 out.length, .fn (.func 84) [] [.ptr 1 [], .ptr 2 []]] [.row .own v (.pairs out), .box (.sl false (.ints .i64 w)), .box (.int .i64 b)] K := by
 obtain ⟨e1, h1⟩ := aMm w b
 obtain ⟨e2, h2⟩ := aIz w (mV w b).next
 have hr := iE.roomy hw
 unfold bE.K bE.H
 simp only [eJ.I, eJ.H, cN.C, h1, Nd.V, dB.C, h2, eD.C, aA, aA, gq, reduceEq, reduceLT, reduceLE, implies_true, reduceCtorEq, if_true, if_false, go_sem, reduceEqDiff, Nat.reduceLT, reduceAdd, reduceSub, reduceLeDiff, reduceReplicate, reduceToNat]
 intro lp r
 obtain ⟨⟨n1, n2, n3, n4, n5⟩, hnd⟩ : ∃ n, mV w b = n := ⟨_, rfl⟩
 have hok := aBQ w b
 rw [hnd] at hok ⊢
 have hrn : roomy n5.length := by unfold roomy; simp only at hok; omega
 have hpl := Nat.le_trans (wN n5) hok
 have hsl : (plain n5).length ≤ 13 := hpl
 generalize hS : plain n5 = S at *
 have hP : ownP w b = ((S.map (recZ w)).takeWhile (ownB w ⟨n1, n2, n3, n4, n5⟩)).map lB := by
   unfold ownP ownL; rw [hnd, ← hS]
 refine ⟨hr, hw, hrn, ?_⟩
 have hlo : lowZ w (mV w b).next = lowZ w n3 := by rw [hnd]
 simp only
 unfold eJ.L1
 refine kV (σ := Nat × Nat) (fun s => .int .i64 s.1) (fun s => [.row .own s.2 (.pairs (out ++ (S.take s.1).map fun s => lB (recZ w s))), .box (.sl false (.ints .i64 w)), .box (.int .i64 b), .box (.sref false 0 s.2 0 (out ++ (S.take s.1).map fun s => lB (recZ w s)).length), .lp .ready none r, .box (.agg [.int .i64 n1, .int .i64 n2, .int .i64 n3, .int .i64 n4, .sl false (.ints .i64 n5)])]) (fun s => S.length - s.1) (fun s => s.1 ≤ S.length ∧ ∀ i, i < s.1 → ownB w ⟨n1, n2, n3, n4, n5⟩ (recZ w (S.getD i 0)) = true) (0, v) rfl (by simp) ⟨Nat.zero_le _, fun i hi => absurd hi (Nat.not_lt_zero _)⟩ ?_
 rintro I back ⟨k, v1⟩ ⟨hk, hall⟩
 simp only at hk hall ⊢
 have htw : (k < S.length → ownB w ⟨n1, n2, n3, n4, n5⟩ (recZ w (S.getD k 0)) = false) → ownP w b = (S.take k).map fun s => lB (recZ w s) := fun h => by
   rw [hP, aIq (ownB w ⟨n1, n2, n3, n4, n5⟩) (recZ w 0) (S.map (recZ w)) k (by simp; exact hk) (fun i hi => ?_) (fun hi => ?_), ← List.map_take, List.map_map]
   · rfl
   · rw [aGX _ _ _ (by omega)]; exact hall i hi
   · rw [List.length_map] at hi
     rw [aGX _ _ _ hi]; exact h hi
 have hlen : (out ++ (S.take k).map fun s => lB (recZ w s)).length ≤ 100013 := by
   rw [List.length_append, List.length_map, List.length_take]; omega
 by_cases hkl : k < S.length
 · have hb : ∀ v2 n lv h, _ := fun v2 n lv h => @back n lv h (k + 1, v2)
   simp only [gQ S k 0 hkl, List.map_append, List.map_cons, List.map_nil] at hb
   have d1 : decide ((k : Int) < (S.length : Int)) = true := decide_eq_true (by omega)
   obtain ⟨e3, h3⟩ := aLm w (S.getD k 0)
   have hall2 : ownB w ⟨n1, n2, n3, n4, n5⟩ (recZ w (S.getD k 0)) = true → ∀ i, i < k + 1 → ownB w ⟨n1, n2, n3, n4, n5⟩ (recZ w (S.getD i 0)) = true := fun h i hi => by
     by_cases e : i = k
     · rw [e]; exact h
     · exact hall i (by omega)
   generalize hR : (S.take k).map (fun s => lB (recZ w s)) = R at *
   generalize recZ w (S.getD k 0) = x at *
   obtain ⟨x1, x2, x3, x4⟩ := x
   unfold ownB at htw hall2
   simp only at htw hall2
   have hlp : roomy (out ++ (R ++ [(⟨x2, x3⟩ : iY)])).length := by
     unfold roomy; rw [← List.append_assoc, List.length_append]; simp only [List.length_cons, List.length_nil]; omega
   simp only [dO.C, h3, Rc.V, d1, aA, eH (show k < 4611686018427387904 by omega), aA, gq, reduceEq, reduceLT, reduceLE, implies_true, reduceCtorEq, if_true, if_false, go_sem, reduceEqDiff, Nat.reduceLT, reduceAdd, reduceSub, reduceLeDiff, reduceReplicate, reduceToNat]
   refine ⟨⟨by omega, by omega⟩, hr, ?_⟩
   by_cases h0 : n3 = 0
   · simp only [h0, decide_true, aA, gq, reduceEq, reduceLT, reduceLE, implies_true, reduceCtorEq, if_true, if_false, go_sem, reduceEqDiff, Nat.reduceLT, reduceAdd, reduceSub, reduceLeDiff, reduceReplicate, reduceToNat]
     exact ⟨hlp, hb (v1 + 1) _ _ _ (by omega) rfl (by simp only [h0, lB]) ⟨by omega, hall2 (by simp [h0])⟩⟩
   · cases hlt : ltB x2 (lowZ w n3) with
     | true =>
       simp only [h0, hlt, decide_false, aA, gq, reduceEq, reduceLT, reduceLE, implies_true, reduceCtorEq, if_true, if_false, go_sem, reduceEqDiff, Nat.reduceLT, reduceAdd, reduceSub, reduceLeDiff, reduceReplicate, reduceToNat]
       exact ⟨hlp, hb (v1 + 1) _ _ _ (by omega) rfl rfl ⟨by omega, hall2 (by simp [hlt])⟩⟩
     | false =>
       have e := htw (fun _ => by simp [h0, hlt])
       simp only [h0, hlt, decide_false, aA, gq, reduceEq, reduceLT, reduceLE, implies_true, reduceCtorEq, if_true, if_false, go_sem, reduceEqDiff, Nat.reduceLT, reduceAdd, reduceSub, reduceLeDiff, reduceReplicate, reduceToNat]
       rw [← e]
       exact hK _ _
 · obtain rfl : k = S.length := by omega
   have d1 : decide ((S.length : Int) < (S.length : Int)) = false := decide_eq_false (by omega)
   rw [← htw (fun h => absurd h hkl)]
   simp only [d1, aA, aA, gq, reduceEq, reduceLT, reduceLE, implies_true, reduceCtorEq, if_true, if_false, go_sem, reduceEqDiff, Nat.reduceLT, reduceAdd, reduceSub, reduceLeDiff, reduceReplicate, reduceToNat]
   exact hK _ _
theorem aFg {w : List Int} {l : List Int} {k : Nat} (h : k < l.length) : allP w (l.take (k + 1)) = allP w (l.take k) ++ ownP w (l.getD k 0) := by
 unfold allP
 rw [gQ l k 0 h, List.flatMap_append, List.flatMap_cons, List.flatMap_nil, List.append_nil]
theorem aMo (w : List Int) (b : Int) : (ownP w b).length ≤ 13 := by
 unfold ownP ownL
 rw [List.length_map]
 refine Nat.le_trans (List.takeWhile_sublist _).length_le ?_
 rw [List.length_map]
 exact Nat.le_trans (wN _) (aBQ w b)
theorem aCv (w : List Int) : ∀ l : List Int, (allP w l).length ≤ 13 * l.length
 | [] => Nat.le_refl _
 | b :: l => by
   have h1 := aCv w l
   have h2 := aMo w b
   unfold allP at h1 ⊢
   rw [List.flatMap_cons, List.length_append, List.length_cons]; omega
def eI.C : aE
 | [.sl _ (.ints .i64 w)] => some (false, pD (iE w) (aDK w))
 | _ => none
theorem eI.spec : bI Tryz.prog 26 eI.C := by
 refine bI.of (bR (F := [(22, fN.C), (24, dZ.C)]) (S := [(52, iD.K), (51, bE.K)]) (by simpa using ⟨fN.spec, dZ.spec⟩) (by simpa using ⟨iD.spec, bE.spec⟩) eI.loops) eI.at eI.nm eI.bd ?_
 intro vs b S v news e hS
 unfold eI.C at e
 split at e
 rotate_left
 · cases e
 cases e
 rw [eI.eq]
 unfold eI.H
 simp (maxSteps := 4000000) only [go_sem, reduceEqDiff, Nat.reduceLT, reduceAdd, reduceSub, reduceLeDiff, reduceReplicate, reduceToNat, fN.C, dZ.C]
 rename_i w
 unfold aDK
 cases hl : iF (eA w) w with
 | none =>
   have hc : rZ w = 110 := by unfold rZ; rw [hl]; rfl
   simp only [hc, aA, decide_false, aA, gq, reduceEq, reduceLT, reduceLE, implies_true, reduceCtorEq, if_true, if_false, go_sem, reduceEqDiff, Nat.reduceLT, reduceAdd, reduceSub, reduceLeDiff, reduceReplicate, reduceToNat]
   exact ⟨hS, aG rfl rfl⟩
 | some l =>
   have hc : rZ w = 0 := by unfold rZ; rw [hl]; rfl
   have hch : lA (eA w) w = some l := by
     unfold iF at hl
     cases h : lA (eA w) w with
     | none => rw [h] at hl; cases hl
     | some l' =>
       rw [h] at hl
       simp only at hl
       split at hl
       · cases hl; rfl
       · cases hl
   have hlv : pS w = .tup [.sl false (.ints .i64 l), .int .i64 0] := by unfold pS; rw [hch]
   have hll := (lU hch).2.2.2.1
   have hw := hS.1
   simp only [hc, hlv, aA, decide_true, decide_false, aA, gq, reduceEq, reduceLT, reduceLE, implies_true, reduceCtorEq, if_true, if_false, go_sem, reduceEqDiff, Nat.reduceLT, reduceAdd, reduceSub, reduceLeDiff, reduceReplicate, reduceToNat]
   refine ⟨hS, hS, ?_⟩
   unfold eI.L1
   refine oL (σ := Nat × Nat) (fun s => .sref false 0 s.2 0 (allP w (l.take s.1)).length) (fun s => .int .i64 s.1) (fun s => [.row .own s.2 (.pairs (allP w (l.take s.1)))]) (fun s => l.length - s.1) (fun s => s.1 ≤ l.length) (0, 0) rfl rfl (Nat.zero_le _) ?_
   rintro I back ⟨k, v⟩ hk
   simp only at hk ⊢
   have hal := aCv w (l.take k)
   rw [List.length_take] at hal
   by_cases hkl : k < l.length
   · have hb : ∀ v2 n lv h, _ := fun v2 n lv h => @back n lv h (k + 1, v2)
     simp only [aFg hkl] at hb
     have d1 : decide ((k : Int) < (l.length : Int)) = true := decide_eq_true (by omega)
     simp only [iD.K, iD.H, d1, Int.toNat_natCast, aA, eH (show k < 4611686018427387904 by omega), aA, gq, reduceEq, reduceLT, reduceLE, implies_true, reduceCtorEq, if_true, if_false, go_sem, reduceEqDiff, Nat.reduceLT, reduceAdd, reduceSub, reduceLeDiff, reduceReplicate, reduceToNat]
     refine ⟨⟨by omega, by omega⟩, ?_⟩
     refine aMn w (l.getD k 0) (allP w (l.take k)) v hS (by omega) _ fun h' v' => ?_
     simp only [eH (show k < 4611686018427387904 by omega), aA, gq, reduceEq, reduceLT, reduceLE, implies_true, reduceCtorEq, if_true, if_false, go_sem, reduceEqDiff, Nat.reduceLT, reduceAdd, reduceSub, reduceLeDiff, reduceReplicate, reduceToNat]
     exact hb v' _ _ _ (by omega) rfl rfl (by omega)
   · obtain rfl : k = l.length := by omega
     have d1 : decide ((l.length : Int) < (l.length : Int)) = false := decide_eq_false (by omega)
     clear back
     rw [List.take_length]
     simp only [d1, aA, aA, gq, reduceEq, reduceLT, reduceLE, implies_true, reduceCtorEq, if_true, if_false, go_sem, reduceEqDiff, Nat.reduceLT, reduceAdd, reduceSub, reduceLeDiff, reduceReplicate, reduceToNat]
     refine aG ?_ rfl
     simp only [go_sem, reduceEqDiff, Nat.reduceLT, reduceAdd, reduceSub, reduceLeDiff, reduceReplicate, reduceToNat]
end Lam
namespace Lam
open Go
/-! ### A look through a leaf -/
theorem aGY {w : List Int} {b : Int} {n : Nd} (h : dF w b = some n) (hb : b < 256) : qG w b = some (kY b n 0) := by
 obtain ⟨_, h13, _⟩ := wA h hb
 unfold qG
 rw [h]
 simp only
 rw [if_neg (by omega)]
 unfold kY
 by_cases hd : mH n.turn = true
 · simp only [hd, if_true]
   unfold yK
   rw [if_pos (by decide), List.drop_of_length_le (by omega)]
   rfl
 · rw [show (if mH n.turn = true then (12 : Int) else 0) = 0 from if_neg hd, if_neg hd]
   unfold upAt
   rw [if_pos (by omega)]
   rfl
theorem aJJ {b : Int} {n : Nd} (h13 : n.slots.length ≤ 13) : ∃ T, 1 ≤ T ∧ T ≤ 13 ∧ kY b n T = kY b n 13 ∧ ∀ k, k < T → (kY b n k).over = false := by
 unfold kY
 by_cases hd : mH n.turn = true
 · refine ⟨13, by decide, by decide, rfl, fun k hk => ?_⟩
   rw [if_pos hd]; unfold yK; rw [if_pos (by omega)]
 · refine ⟨min n.slots.length 12 + 1, by omega, by omega, ?_, fun k hk => ?_⟩
   · rw [if_neg hd, if_neg hd]; unfold upAt; rw [if_neg (by omega), if_neg (by omega)]
   · rw [if_neg hd]; unfold upAt; rw [if_pos (by omega)]
end Lam
namespace Lam
open Go
def aDL (w : List Int) (b : Int) : List RecT := (plain (mV w b).slots).map (recT w)
def iL (w l : List Int) (i : Nat) : aY := lowZ w (l.getD i 0)
/-! ### The way down -/
def mI (w l : List Int) (key : aY) : Nat → Int → Bool
 | 0, _ => false
 | k + 1, b => match dF w b with
   | none => true
   | some n => if n.level = 0 then decide (b ∈ l) && (match lowO w n with
       | none => false
       | some low => !ltB key low) else match lI w b key 0 with
     | none => true
     | some t => mI w l key k t
def aBr (w l : List Int) (key : aY) : List Int → Int → Int → Prop
 | [], b, c => (dF w b = none ∧ c = 1) ∨ ∃ n, dF w b = some n ∧ ((n.level = 0 ∧ b ∈ l ∧ ltB key (lowZ w b) = false ∧ c = b) ∨ (n.level ≠ 0 ∧ lI w b key 0 = none ∧ c = 1))
 | x :: p, b, c => x = b ∧ ∃ n t, dF w b = some n ∧ n.level ≠ 0 ∧ lI w b key 0 = some t ∧ aBr w l key p t c
theorem aGZ {w l : List Int} {key : aY} : ∀ {q : List Int} {b t c : Int} {q' : List Int}, aBr w l key (q ++ b :: q') t c → aBr w l key (b :: q') b c
 | [], b, t, c, q', h => by
   obtain ⟨e, hr⟩ := h
   subst e
   exact ⟨rfl, hr⟩
 | x :: q, b, t, c, q', h => by
   obtain ⟨_, n, t', _, _, _, h⟩ := h
   exact aGZ h
theorem aFh {w l : List Int} {key : aY} : ∀ (k : Nat) (b : Int), mI w l key k b = true → ∃ p c, aBr w l key p b c ∧ p.Nodup ∧ ∀ x ∈ p, ∃ n, dF w x = some n
 | 0, b, h => by cases h
 | k + 1, b, h => by
   unfold mI at h
   cases hn : dF w b with
   | none => exact ⟨[], 1, .inl ⟨hn, rfl⟩, List.nodup_nil, fun x hx => by cases hx⟩
   | some n =>
     rw [hn] at h
     simp only at h
     by_cases h0 : n.level = 0
     · rw [if_pos h0] at h
       cases hl : lowO w n with
       | none => rw [hl] at h; simp at h
       | some low =>
         rw [hl] at h
         simp only [Bool.and_eq_true, decide_eq_true_eq, Bool.not_eq_true'] at h
         have hz : lowZ w b = low := by unfold lowZ; rw [hn]; simp only [Option.bind_some, hl]; rfl
         exact ⟨[], b, .inr ⟨n, hn, .inl ⟨h0, h.1, by rw [hz]; exact h.2, rfl⟩⟩, List.nodup_nil, fun x hx => by cases hx⟩
     · rw [if_neg h0] at h
       cases hd : lI w b key 0 with
       | none => exact ⟨[], 1, .inr ⟨n, hn, .inr ⟨h0, hd, rfl⟩⟩, List.nodup_nil, fun x hx => by cases hx⟩
       | some t =>
         rw [hd] at h
         simp only at h
         obtain ⟨p, c, h1, h2, h3⟩ := aFh k t h
         by_cases hm : b ∈ p
         · obtain ⟨q, q', rfl⟩ := List.append_of_mem hm
           refine ⟨b :: q', c, aGZ h1, ?_, fun x hx => h3 x (List.mem_append_right _ hx)⟩
           exact (List.nodup_append.1 h2).2.1
         · refine ⟨b :: p, c, ⟨rfl, n, t, hn, h0, hd, h1⟩, List.nodup_cons.2 ⟨hm, h2⟩, fun x hx => ?_⟩
           rcases List.mem_cons.1 hx with rfl | hx
           · exact ⟨n, hn⟩
           · exact h3 x hx
theorem aHa {w l : List Int} {key : aY} (h : iF (eA w) w = some l) : ∀ {p : List Int} {b c : Int}, aBr w l key p b c → ∃ i, i < l.length ∧ c = l.getD i 0 ∧ ltB key (iL w l i) = false
 | [], b, c, hp => by
   have hone : ∃ i, i < l.length ∧ (1 : Int) = l.getD i 0 ∧ ltB key (iL w l i) = false := by
     obtain ⟨r, hr⟩ := (lU (nZ h).1).2.2.2.2.1
     have hl : 0 < l.length := by rw [hr]; simp
     have := (mC h hl)
     obtain ⟨_, n, _, _, _, _, _, h0, _⟩ := this
     refine ⟨0, hl, by rw [hr]; rfl, ?_⟩
     unfold iL
     rw [h0 rfl]; exact aIw key
   rcases hp with ⟨_, rfl⟩ | ⟨n, _, ⟨_, hm, hk, rfl⟩ | ⟨_, _, rfl⟩⟩
   · exact hone
   · obtain ⟨i, hi, e⟩ := List.getElem_of_mem hm
     have e2 : l.getD i 0 = c := by rw [List.getD_eq_getElem?_getD, List.getElem?_eq_getElem hi]; exact e
     exact ⟨i, hi, e2.symm, by unfold iL; rw [e2]; exact hk⟩
   · exact hone
 | x :: p, b, c, hp => by
   obtain ⟨_, n, t, _, _, _, h4⟩ := hp
   exact aHa h h4
end Lam
namespace Lam
open Go
theorem zK {w : List Int} {low : aY} : ∀ {l : List Int} {k : Nat} {last : aY}, lN w low l k last = true → ∀ s ∈ l, ltB (recZ w s).key low = false
 | [], _, _, _, s, hs => by cases hs
 | a :: r, k, last, h, s, hs => by
   simp only [lN] at h
   cases hx : recO w a with
   | none => rw [hx] at h; cases h
   | some x =>
     rw [hx] at h
     simp only [Bool.and_eq_true, Bool.not_eq_true'] at h
     rcases List.mem_cons.1 hs with rfl | hs
     · have : recZ w s = x := by unfold recZ; rw [hx]; rfl
       rw [this]; exact h.1.1.2
     · exact zK h.2 s hs
theorem aHb {α : Type} {p : α → Bool} : ∀ {L : List α} {x : α}, x ∈ L.takeWhile p → x ∈ L ∧ p x = true
 | [], x, h => by cases h
 | a :: r, x, h => by
   rw [List.takeWhile_cons] at h
   split at h
   · rename_i hp
     rcases List.mem_cons.1 h with rfl | h
     · exact ⟨by simp, hp⟩
     · have := aHb h; exact ⟨by simp [this.1], this.2⟩
   · cases h
theorem aCw {w l : List Int} (h : iF (eA w) w = some l) {i j : Nat} (hij : i ≤ j) (hj : j < l.length) {key : aY} : (ltB key (iL w l i) = true → ltB key (iL w l j) = true) := by
 intro hk
 by_cases e : i = j
 · rw [← e]; exact hk
 · obtain ⟨_, n, _, _, _, _, _, _, hlt⟩ := mC h hj
   exact jG hk (hlt i (by omega))
/-! ### A look holds not more than a leaf's slots -/
def FewS (s : Sk) : Prop := s.refs.length ≤ 13 ∧ (s.over = false → (s.refs.length : Int) ≤ if mH s.turn = true then 12 - s.at_ else s.at_)
theorem aNi : FewS skZ := ⟨by decide, fun _ => by decide⟩
theorem aLn {w : List Int} {b : Int} {s : Sk} (h : qG w b = some s) : FewS s := by
 unfold qG at h
 split at h
 · split at h
   · cases h
   · cases h
     refine ⟨by simp, fun _ => ?_⟩
     simp only [List.length_nil]
     split <;> simp
 · cases h
theorem aMp {w : List Int} {s : Sk} (h : FewS s) : FewS (kW w s) := by
 unfold kW
 split
 · exact h
 · rename_i hc
   have hc : (s.over || decide (mY w s < 0)) = false := by simpa using hc
   rw [Bool.or_eq_false_iff, decide_eq_false_iff_not] at hc
   obtain ⟨ho, hsp⟩ := hc
   obtain ⟨h1, h2⟩ := h
   have h2 := h2 ho
   have hat : 0 ≤ s.at_ ∧ s.at_ < 13 := by
     unfold mY at hsp
     split at hsp
     · unfold pA at hsp
       split at hsp
       · rename_i hb
         simp only [Bool.and_eq_true, decide_eq_true_eq] at hb
         omega
       · omega
     · omega
   have hlen : (goOn (w.getD (mY w s).toNat 0) s).refs.length ≤ s.refs.length + 1 := by
     unfold goOn
     simp only
     split <;> simp
   have hto : (goOn (w.getD (mY w s).toNat 0) s).turn = s.turn := rfl
   refine ⟨?_, fun hov => ?_⟩
   · split at h2 <;> omega
   · rw [hto]
     have hov' : kI (w.getD (mY w s).toNat 0) s = false := hov
     have hatn : (goOn (w.getD (mY w s).toNat 0) s).at_ = if mH s.turn = true then s.at_ - 1 else s.at_ + 1 := by
       unfold goOn
       simp only
       rw [if_neg (by rw [hov']; decide)]
       split
       · exact w64 (by omega) (by omega)
       · exact w64 (by omega) (by omega)
     rw [hatn]
     split at h2
     · rename_i hd; rw [if_pos hd, if_pos hd]; omega
     · rename_i hd; rw [if_neg hd, if_neg hd]; omega
end Lam
namespace Lam
open Go Go.Proofs
def cH.loops : Nat → bX
 | 2 => ⟨[5], [false], [0, 1], [], [], []⟩
 | _ => ⟨[], [], [], [], [], []⟩
def cH.L1 (c : Ctx) (J1 : List AObj → Prop) (K : AOut → List AObj → Prop) (lv : List AV) (h0 : List AObj) (n0 : Nat) (c0 : AV) (c1 : AV) : Prop :=
 ∃ I : Nat → List AV → List AObj → Prop, (∃ n, I n lv h0) ∧ ∀ n h, ∀ t5, I n [t5] h →
 runD (lenD aM h c0) h fun t8 h =>
 runD (binD aB .lss t5 t8) h fun t9 h =>
 aW t9
 (runD (aH aM h c0 t5) h fun t14 h =>
 runD (fitD aB (aD h t14)) h fun t15 h =>
 runD (binD aB .eql t15 c1) h fun t17 h =>
 aW t17
 (K (.ret (.bool true)) h)
 (runD (binD aB .add t5 (.int .i64 1)) h fun t11 h =>
 (∃ m, m < n ∧ I m (AV.norms n0 h [t11]) (cJ n0 h)) ∧ AV.norms n0 h [c0, c1] = [c0, c1]))
 (J1 h)
def cH.H (c : Ctx) (t0 : AV) (t1 : AV) (h : List AObj) (K : AOut → List AObj → Prop) : Prop :=
 aJ (fun (J1 : List AObj → Prop) =>
 dC [false] [(.int .i64 0)] h fun lv h => cH.L1 c J1 K (AV.norms h.length h lv) (cJ h.length h) h.length (AV.norm h.length h t0) (AV.norm h.length h t1))
 (fun h => K (.ret (.bool false)) h)
theorem cH.eq (F : List (FuncId × aE)) (S : List (FuncId × Con)) (t0 t1 : AV) (h : List AObj) (K : AOut → List AObj → Prop) : funW (ctx F S cH.loops) Tryz.f48 [t0, t1] h K = cH.H (ctx F S cH.loops) t0 t1 h K := by kernel_rfl
theorem cH.at : Tryz.prog.funcs[48]? = some Tryz.f48 := by kernel_rfl
theorem cH.nm : (Tryz.f48.name == "runtime.NumGoroutine") = false := by kernel_rfl
theorem cH.bd : Tryz.f48.body.isNone = false := by kernel_rfl
end Lam
namespace Lam
open Go Go.Proofs
def cH.C : aE
 | [.sl _ (.ints .i64 l), .int .i64 v] => some (false, pD (roomy l.length) (.bool (decide (v ∈ l))))
 | _ => none
theorem cH.spec : bI Tryz.prog 48 cH.C := by
 refine bI.of (bR (F := []) (S := []) (by simp) (by simp) cH.loops) cH.at cH.nm cH.bd ?_
 intro vs b S v news e hS
 unfold cH.C at e
 split at e
 rotate_left
 · cases e
 cases e
 rw [cH.eq]
 unfold cH.H
 simp (maxSteps := 4000000) only [go_sem, reduceEqDiff, Nat.reduceLT, reduceAdd, reduceSub, reduceLeDiff, reduceReplicate, reduceToNat]
 rename_i _ l v
 rw [aA]
 unfold cH.L1
 have hr := hS
 unfold roomy at hr
 refine kV (σ := Nat) (fun k => .int .i64 k) (fun k => []) (fun k => l.length - k) (fun k => k ≤ l.length ∧ v ∉ l.take k) 0 rfl rfl ⟨Nat.zero_le _, by simp⟩ ?_
 rintro I back k ⟨hk, hall⟩
 simp only [go_sem, reduceEqDiff, Nat.reduceLT, reduceAdd, reduceSub, reduceLeDiff, reduceReplicate, reduceToNat]
 refine ⟨fun hlt => ⟨by omega, fun h => ?_, fun h => ?_⟩, fun hge => ?_⟩
 · have : v ∈ l := by rw [← h]; exact lK l k 0 (by omega)
   rw [decide_eq_true this]; exact aG rfl rfl
 · refine back (k + 1) (by omega) (by rw [eH (by omega)]) rfl ⟨by omega, fun hm => ?_⟩
   rw [gQ l k 0 (by omega), List.mem_append, List.mem_singleton] at hm
   rcases hm with hm | hm
   · exact hall hm
   · exact h hm.symm
 · obtain rfl : k = l.length := by omega
   rw [List.take_length] at hall
   rw [decide_eq_false hall]; exact aG rfl rfl
end Lam
namespace Lam
open Go Go.Proofs
def cA.loops : Nat → bX
 | 4 => ⟨[8, 10], [false, false], [0, 1, 5, 9], [(3, none), (2, some [30, 32])], [], []⟩
 | 10 => ⟨[], [], [], [(4, none), (3, some [53, 56]), (2, none), (2, some [58, 60]), (2, none), (3, some [62, 65])], [], []⟩
 | _ => ⟨[], [], [], [], [], []⟩
def cA.L1 (c : Ctx) (J1 : List AObj → Prop) (K : AOut → List AObj → Prop) (lv : List AV) (h0 : List AObj) (n0 : Nat) (c0 : AV) (c1 : AV) (c5 : AV) (c9 : AV) : Prop :=
 ∃ I : Nat → List AV → List AObj → Prop, (∃ n, I n lv h0) ∧ ∀ n h, ∀ t8, ∀ t10, I n [t8, t10] h →
 runD (binD aB .lss t10 (.int .i64 300)) h fun t29 h =>
 aJ (fun (J2 : AV → AV → List AObj → Prop) =>
 aT t29 true
 (runD (binD cM .eql c9 (.int .i64 0)) h fun t32 h =>
 J2 (.bool true) t32 h)
 (J2 (.bool false) .und h))
 (fun t30 t32 h => runD (bK t30 t32 (.bool false)) h fun t33 h =>
 aW t33
 (aQ false c (.fn (.func 46) [] []) [c0, t8] h (fun t39 h =>
 runD (aV t39 0) h fun t40 h =>
 runD (aV t39 1) h fun t41 h =>
 cP bB h fun t11 h =>
 runH (aO bB h t11 t40) h fun _ h =>
 aQ false c (.fn (.func 47) [] []) [c0, t8] h (fun t45 h =>
 runD (aV t45 0) h fun t46 h =>
 runD (aV t45 1) h fun t47 h =>
 runD (binD cM .neq t41 (.int .i64 0)) h fun t49 h =>
 aW t49
 (K (.ret (.int .i64 1)) h)
 (runD (aC bB t11 0) h fun t50 h =>
 runD (fitD aB (aD h t50)) h fun t51 h =>
 runD (binD aB .eql t51 (.int .i64 0)) h fun t52 h =>
 aJ (fun (J3 : AV → AV → List AObj → Prop) =>
 aT t52 true
 (aQ false c (.fn (.func 48) [] []) [c5, t8] h (fun t56 h =>
 J3 (.bool true) t56 h)
 (fun v h => K (.pan v) h))
 (J3 (.bool false) .und h))
 (fun t53 t56 h => runD (bK t53 t56 (.bool false)) h fun t57 h =>
 aJ (fun (J4 : AV → AV → List AObj → Prop) =>
 aT t57 true
 (runD (binD cM .eql t47 (.int .i64 0)) h fun t60 h =>
 J4 (.bool true) t60 h)
 (J4 (.bool false) .und h))
 (fun t58 t60 h => runD (bK t58 t60 (.bool false)) h fun t61 h =>
 aJ (fun (J5 : AV → AV → List AObj → Prop) =>
 aT t61 true
 (runD (binD bP .leq t46 c1) h fun t65 h =>
 J5 (.bool true) t65 h)
 (J5 (.bool false) .und h))
 (fun t62 t65 h => runD (bK t62 t65 (.bool false)) h fun t66 h =>
 aW t66
 (K (.ret (.int .i64 1)) h)
 (runD (aC bB t11 0) h fun t67 h =>
 runD (fitD aB (aD h t67)) h fun t68 h =>
 runD (binD aB .eql t68 (.int .i64 0)) h fun t69 h =>
 aW t69
 (K (.ret (.int .i64 0)) h)
 (aQ false c (.fn (.func 49) [] []) [c0, t8, c1, (.int .i64 0)] h (fun t74 h =>
 runD (aV t74 0) h fun t75 h =>
 runD (aV t74 1) h fun t76 h =>
 runD (binD cM .neq t76 (.int .i64 0)) h fun t78 h =>
 aW t78
 (K (.ret (.int .i64 1)) h)
 (runD (binD aB .add t10 (.int .i64 1)) h fun t35 h =>
 (∃ m, m < n ∧ I m (AV.norms n0 h [t75, t35]) (cJ n0 h)) ∧ AV.norms n0 h [c0, c1, c5, c9] = [c0, c1, c5, c9]))
 (fun v h => K (.pan v) h))))))))
 (fun v h => K (.pan v) h))
 (fun v h => K (.pan v) h))
 (J1 h))
def cA.H (c : Ctx) (t0 : AV) (t1 : AV) (h : List AObj) (K : AOut → List AObj → Prop) : Prop :=
 aQ false c (.fn (.func 24) [] []) [t0] h (fun t19 h =>
 runD (aV t19 0) h fun t20 h =>
 runD (aV t19 1) h fun t21 h =>
 aQ false c (.fn (.func 38) [] []) [t0] h (fun t24 h =>
 runD (aV t24 0) h fun t25 h =>
 runD (aV t24 1) h fun t26 h =>
 runD (aV t24 2) h fun t27 h =>
 aJ (fun (J1 : List AObj → Prop) =>
 dC [false, false] [t26, (.int .i64 0)] h fun lv h => cA.L1 c J1 K (AV.norms h.length h lv) (cJ h.length h) h.length (AV.norm h.length h t0) (AV.norm h.length h t1) (AV.norm h.length h t20) (AV.norm h.length h t27))
 (fun h => K (.ret (.int .i64 0)) h))
 (fun v h => K (.pan v) h))
 (fun v h => K (.pan v) h)
theorem cA.eq (F : List (FuncId × aE)) (S : List (FuncId × Con)) (t0 t1 : AV) (h : List AObj) (K : AOut → List AObj → Prop) : funW (ctx F S cA.loops) Tryz.f23 [t0, t1] h K = cA.H (ctx F S cA.loops) t0 t1 h K := by kernel_rfl
theorem cA.at : Tryz.prog.funcs[23]? = some Tryz.f23 := by kernel_rfl
theorem cA.nm : (Tryz.f23.name == "runtime.NumGoroutine") = false := by kernel_rfl
theorem cA.bd : Tryz.f23.body.isNone = false := by kernel_rfl
end Lam
namespace Lam
open Go Go.Proofs
end Lam
namespace Lam
open Go Go.Proofs
def rG (w : List Int) : List Int := (lA (eA w) w).getD []
theorem aJK (w : List Int) : ∃ e, pS w = .tup [.sl false (.ints .i64 (rG w)), .int .i64 e] := by
 unfold rG pS
 cases lA (eA w) w with
 | none => exact ⟨_, rfl⟩
 | some l => exact ⟨_, rfl⟩
theorem aHU (w : List Int) : (rG w).length ≤ w.length / 16 := by
 unfold rG
 cases h : lA (eA w) w with
 | none => exact Nat.zero_le _
 | some l => exact (lU h).2.2.2.1
theorem aJL {w l : List Int} {key : aY} {k : Nat} {b : Int} (h : dF w b = none) : mI w l key (k + 1) b = true := by unfold mI; rw [h]
theorem aJM {w l : List Int} {key : aY} {k : Nat} {b : Int} {n : Nd} (h : dF w b = some n) (h0 : n.level = 0) : mI w l key (k + 1) b = (decide (b ∈ l) && (match lowO w n with
   | none => false
   | some low => !ltB key low)) := by unfold mI; rw [h]; simp only; rw [if_pos h0] <;> rfl
theorem aMq {w l : List Int} {key : aY} {k : Nat} {b : Int} {n : Nd} (h : dF w b = some n) (h0 : n.level ≠ 0) (hd : lI w b key 0 = none) : mI w l key (k + 1) b = true := by unfold mI; rw [h]; simp only; rw [if_neg h0, hd]
theorem aMr {w l : List Int} {key : aY} {k : Nat} {b t : Int} {n : Nd} (h : dF w b = some n) (h0 : n.level ≠ 0) (hd : lI w b key 0 = some t) : mI w l key (k + 1) b = mI w l key k t := by
 show (match dF w b with
   | none => true
   | some n => _) = _
 rw [h]; simp only; rw [if_neg h0, hd]
def sB (w : List Int) (key : aY) : Int := if eA w = true ∧ mI w (rG w) key 300 (w.getD 3 0) = true then 1 else 0
def cA.C : aE
 | [.sl _ (.ints .i64 w), .str key] => some (false, pD (iE w) (.int .i64 (sB w key)))
 | _ => none
theorem cA.spec : bI Tryz.prog 23 cA.C := by
 refine bI.of (bR (F := [(24, dZ.C), (38, dU.C), (46, cN.C), (47, dB.C), (48, cH.C), (49, dV.C)]) (S := []) (by simpa using ⟨dZ.spec, dU.spec, cN.spec, dB.spec, cH.spec, dV.spec⟩) (by simp) cA.loops) cA.at cA.nm cA.bd ?_
 intro vs b S v news e hS
 unfold cA.C at e
 split at e
 rotate_left
 · cases e
 cases e
 rw [cA.eq]
 unfold cA.H
 simp (maxSteps := 4000000) only [go_sem, reduceEqDiff, Nat.reduceLT, reduceAdd, reduceSub, reduceLeDiff, reduceReplicate, reduceToNat, dZ.C, dU.C, cN.C, dB.C, cH.C, dV.C]
 rename_i w key
 have hr := iE.roomy hS
 have hw := hS.1
 obtain ⟨el, hlv⟩ := aJK w
 have hll := aHU w
 have hrl : roomy (rG w).length := by unfold roomy; omega
 unfold sB
 generalize rG w = l at *
 cases hb : eA w with
 | false =>
   have hv : kP w = .tup [.int .i64 0, .int .i64 0, .int .i64 80] := by unfold kP; rw [hb]; rfl
   simp only [hlv, hv, aA, decide_false, decide_true, aA, gq, reduceEq, reduceLT, reduceLE, implies_true, reduceCtorEq, if_true, if_false, go_sem, reduceEqDiff, Nat.reduceLT, reduceAdd, reduceSub, reduceLeDiff, reduceReplicate, reduceToNat]
   refine ⟨hS, hr, ?_⟩
   unfold cA.L1
   refine oL (σ := Nat) (fun k => .int .i64 0) (fun k => .int .i64 k) (fun k => []) (fun k => 0) (fun k => True) 0 rfl rfl trivial ?_
   intro I back k hk
   by_cases hk3 : (k : Int) < 300
   · simp only [hk3, aA, decide_false, decide_true, aA, gq, reduceEq, reduceLT, reduceLE, implies_true, reduceCtorEq, if_true, if_false, go_sem, reduceEqDiff, Nat.reduceLT, reduceAdd, reduceSub, reduceLeDiff, reduceReplicate, reduceToNat]
     exact aG (by rw [if_neg (fun h => by cases h.1)]; rfl) rfl
   · simp only [hk3, aA, decide_false, decide_true, aA, gq, reduceEq, reduceLT, reduceLE, implies_true, reduceCtorEq, if_true, if_false, go_sem, reduceEqDiff, Nat.reduceLT, reduceAdd, reduceSub, reduceLeDiff, reduceReplicate, reduceToNat]
     exact aG (by rw [if_neg (fun h => by cases h.1)]; rfl) rfl
 | true =>
   have hv : kP w = .tup [.int .i64 (w.getD 1 0), .int .i64 (w.getD 3 0), .int .i64 0] := by unfold kP; rw [hb]; rfl
   simp only [hlv, hv, aA, decide_false, decide_true, aA, gq, reduceEq, reduceLT, reduceLE, implies_true, reduceCtorEq, if_true, if_false, go_sem, reduceEqDiff, Nat.reduceLT, reduceAdd, reduceSub, reduceLeDiff, reduceReplicate, reduceToNat]
   refine ⟨hS, hr, ?_⟩
   obtain ⟨N, hN⟩ : ∃ N : Nat, N = 300 := ⟨_, rfl⟩
   rw [← hN]
   obtain ⟨Q, hQ⟩ : ∃ Q, mI w l key N (w.getD 3 0) = Q := ⟨_, rfl⟩
   rw [hQ]
   unfold cA.L1
   refine oL (σ := Nat × Int) (fun s => .int .i64 s.2) (fun s => .int .i64 s.1) (fun s => []) (fun s => N - s.1) (fun s => s.1 ≤ N ∧ mI w l key (N - s.1) s.2 = Q) (0, w.getD 3 0) rfl rfl ⟨by simp only; omega, hQ⟩ ?_
   rintro I back ⟨k, at_⟩ ⟨hk, hland⟩
   simp only at hk hland ⊢
   by_cases hk3 : k < N
   rotate_left
   · obtain rfl : k = N := by omega
     clear back
     rw [Nat.sub_self] at hland
     have hl0 : Q = false := hland.symm
     have d1 : decide ((k : Int) < 300) = false := decide_eq_false (by omega)
     simp only [hl0, d1, aA, decide_false, decide_true, aA, gq, reduceEq, reduceLT, reduceLE, implies_true, reduceCtorEq, if_true, if_false, go_sem, reduceEqDiff, Nat.reduceLT, reduceAdd, reduceSub, reduceLeDiff, reduceReplicate, reduceToNat]
     exact aG rfl rfl
   have d1 : decide ((k : Int) < 300) = true := decide_eq_true (by omega)
   obtain ⟨e2, h2⟩ := aIz w at_
   obtain ⟨m, hm⟩ : ∃ m, N - k = m + 1 := ⟨N - 1 - k, by omega⟩
   have hb : ∀ t, mI w l key m t = Q → _ := fun t ht => @back (N - k) _ [] (k + 1, t) (by simp only; omega) rfl rfl ⟨by simp only; omega, by simp only; rw [show N - (k + 1) = m by omega]; exact ht⟩
   clear back
   rw [hm] at hland
   cases hn : dF w at_ with
   | none =>
     obtain ⟨e, he, h⟩ := nW hn
     rw [aJL hn] at hland
     simp only [cN.C, dB.C, h, h2, d1, jM, he, ← hland, decide_false, decide_true, aA, aA, gq, reduceEq, reduceLT, reduceLE, implies_true, reduceCtorEq, if_true, if_false, go_sem, reduceEqDiff, Nat.reduceLT, reduceAdd, reduceSub, reduceLeDiff, reduceReplicate, reduceToNat]
     exact ⟨hr, hS, aG rfl rfl⟩
   | some n =>
     by_cases h0 : n.level = 0
     · rw [aJM hn h0] at hland
       obtain ⟨n1, n2, n3, n4, n5⟩ := n
       simp only at h0
       subst h0
       clear hb
       cases hl : lowO w ⟨0, n2, n3, n4, n5⟩ with
       | none =>
         have hv : lowV w at_ = .tup [.str [], .int .i64 110] := by unfold lowV; rw [hn]; simp only [Option.bind_some, hl]
         rw [hl] at hland
         simp only [Bool.and_false] at hland
         subst hland
         cases hin : decide (at_ ∈ l) with
         | true =>
           simp only [cN.C, dB.C, cH.C, iO hn, Nd.V, hv, hin, d1, decide_false, decide_true, aA, aA, gq, reduceEq, reduceLT, reduceLE, implies_true, reduceCtorEq, if_true, if_false, go_sem, reduceEqDiff, Nat.reduceLT, reduceAdd, reduceSub, reduceLeDiff, reduceReplicate, reduceToNat]
           exact ⟨hr, hS, hrl, aG rfl rfl⟩
         | false =>
           simp only [cN.C, dB.C, cH.C, iO hn, Nd.V, hv, hin, d1, decide_false, decide_true, aA, aA, gq, reduceEq, reduceLT, reduceLE, implies_true, reduceCtorEq, if_true, if_false, go_sem, reduceEqDiff, Nat.reduceLT, reduceAdd, reduceSub, reduceLeDiff, reduceReplicate, reduceToNat]
           exact ⟨hr, hS, hrl, aG rfl rfl⟩
       | some low =>
         have hv : lowV w at_ = .tup [.str low, .int .i64 0] := by unfold lowV; rw [hn]; simp only [Option.bind_some, hl]
         rw [hl] at hland
         simp only at hland
         cases hin : decide (at_ ∈ l) with
         | true =>
           cases hlt : ltB key low with
           | true =>
             rw [hin, hlt] at hland
             subst hland
             simp only [cN.C, dB.C, cH.C, iO hn, Nd.V, hv, hin, hlt, d1, decide_false, decide_true, aA, aA, gq, reduceEq, reduceLT, reduceLE, implies_true, reduceCtorEq, if_true, if_false, go_sem, reduceEqDiff, Nat.reduceLT, reduceAdd, reduceSub, reduceLeDiff, reduceReplicate, reduceToNat]
             exact ⟨hr, hS, hrl, aG rfl rfl⟩
           | false =>
             rw [hin, hlt] at hland
             subst hland
             simp only [cN.C, dB.C, cH.C, iO hn, Nd.V, hv, hin, hlt, d1, decide_false, decide_true, aA, aA, gq, reduceEq, reduceLT, reduceLE, implies_true, reduceCtorEq, if_true, if_false, go_sem, reduceEqDiff, Nat.reduceLT, reduceAdd, reduceSub, reduceLeDiff, reduceReplicate, reduceToNat]
             exact ⟨hr, hS, hrl, aG rfl rfl⟩
         | false =>
           rw [hin, Bool.false_and] at hland
           subst hland
           simp only [cN.C, dB.C, cH.C, iO hn, Nd.V, hv, hin, d1, decide_false, decide_true, aA, aA, gq, reduceEq, reduceLT, reduceLE, implies_true, reduceCtorEq, if_true, if_false, go_sem, reduceEqDiff, Nat.reduceLT, reduceAdd, reduceSub, reduceLeDiff, reduceReplicate, reduceToNat]
           exact ⟨hr, hS, hrl, aG rfl rfl⟩
     · cases hd : lI w at_ key 0 with
       | none =>
         have hv : mX w at_ key 0 = .tup [.int .i64 0, .int .i64 90] := by unfold mX; rw [hd]
         rw [aMq hn h0 hd] at hland
         rw [← hland]
         obtain ⟨n1, n2, n3, n4, n5⟩ := n
         simp only at h0
         simp only [cN.C, dB.C, dV.C, iO hn, Nd.V, h2, hv, h0, d1, decide_false, decide_true, aA, aA, gq, reduceEq, reduceLT, reduceLE, implies_true, reduceCtorEq, if_true, if_false, go_sem, reduceEqDiff, Nat.reduceLT, reduceAdd, reduceSub, reduceLeDiff, reduceReplicate, reduceToNat]
         exact ⟨hr, hS, hS, aG rfl rfl⟩
       | some t =>
         have hv : mX w at_ key 0 = .tup [.int .i64 t, .int .i64 0] := by unfold mX; rw [hd]
         rw [aMr hn h0 hd] at hland
         have hb2 := hb t hland
         clear hb
         obtain ⟨n1, n2, n3, n4, n5⟩ := n
         simp only at h0
         simp only [cN.C, dB.C, dV.C, iO hn, Nd.V, h2, hv, h0, d1, eH (show k < 4611686018427387904 by omega), decide_false, decide_true, aA, aA, gq, reduceEq, reduceLT, reduceLE, implies_true, reduceCtorEq, if_true, if_false, go_sem, reduceEqDiff, Nat.reduceLT, reduceAdd, reduceSub, reduceLeDiff, reduceReplicate, reduceToNat] at hb2 ⊢
         exact ⟨hr, hS, hS, hb2⟩
end Lam
namespace Lam
open Go Go.Proofs
theorem aIA {w : List Int} (h1 : w.length ≤ 1000) (h2 : w.length % 16 = 0) : newM w = .tup [memV w w [], .int .i64 0] := by
 have hs : szB w.length = true := by
   unfold szB
   rw [decide_eq_true (by omega), Int.tmod_eq_emod_of_nonneg (by omega), decide_eq_true (by omega)]; rfl
 unfold newM
 rw [hs]; rfl
end Lam
namespace Lam
open Go Go.Proofs
theorem aDM {w l : List Int} {key : aY} (h : iF (eA w) w = some l) (hl : sB w key ≠ 0) : mI w l key 300 (w.getD 3 0) = true := by
 unfold sB rG at hl
 rw [(nZ h).1] at hl
 by_cases hc : eA w = true ∧ mI w ((some l).getD []) key 300 (w.getD 3 0) = true
 · exact hc.2
 · rw [if_neg hc] at hl; exact absurd rfl hl
theorem aFi {w : List Int} (hw : w.length ≤ 1000) : ∃ P e, aDK w = .tup [.sl false (.pairs P), .int .i64 e] ∧ roomy P.length ∧ (e = 0 → ∃ l, iF (eA w) w = some l ∧ P = allP w l) := by
 unfold aDK
 cases h : iF (eA w) w with
 | none => exact ⟨[], 110, rfl, by unfold roomy; decide, fun h => by omega⟩
 | some l =>
   have hll := (lU (nZ h).1).2.2.2.1
   have hal := aCv w l
   exact ⟨allP w l, 0, rfl, by unfold roomy; omega, fun _ => ⟨l, rfl, rfl⟩⟩
end Lam
namespace Lam
open Go
def gX (w : List Int) (s : Sc) : Sc :=
 if s.phase = 1 then qP w s else if s.phase = 2 then uV w s else if s.phase = 3 then tU w s else if s.phase = 4 then lC w s
 else if s.phase = 5 then { s with block := s.to_, phase := 2 } else if s.phase = 6 then { s with phase := 7 } else if s.phase = 7 then (if s.to_ = 0 then { s with phase := 8 } else { s with block := s.to_, phase := 2 }) else s
theorem aHV (w : List Int) (s : Sc) : nY ⟨w, w, []⟩ s = (⟨w, w, []⟩, gX w s) := by
 unfold nY gX
 simp only [aAU]
 split
 · rfl
 split
 · rfl
 split
 · rfl
 split
 · rfl
 split
 · rfl
 split
 · rfl
 split
 · rfl
 · rfl
def seqC (w : List Int) (s : Sc) : Nat → Sc
 | 0 => s
 | k + 1 => gX w (seqC w s k)
theorem sS (w : List Int) (s : Sc) (a : Nat) : ∀ b, seqC w s (a + b) = seqC w (seqC w s a) b
 | 0 => rfl
 | b + 1 => by show gX w (seqC w s (a + b)) = _; rw [sS w s a b]; rfl
theorem aJN {w : List Int} {s : Sc} (h : s.phase = 8) : gX w s = s := by
 unfold gX
 rw [if_neg (by omega), if_neg (by omega), if_neg (by omega), if_neg (by omega), if_neg (by omega), if_neg (by omega), if_neg (by omega)]
theorem aFj {w : List Int} {s : Sc} (h : s.phase = 8) : ∀ k, seqC w s k = s
 | 0 => rfl
 | k + 1 => by show gX w (seqC w s k) = s; rw [aFj h k]; exact aJN h
theorem zL {w : List Int} {s : Sc} {a b : Nat} (h : (seqC w s a).phase = 8) (hab : a ≤ b) : seqC w s b = seqC w s a := by
 rw [show b = a + (b - a) by omega, sS]; exact aFj h _
theorem aLo {w : List Int} {s : Sc} (h : s.phase = 1) : gX w s = qP w s := by unfold gX; rw [if_pos h]
theorem aOf {w : List Int} {s : Sc} (h : s.phase = 2) : gX w s = uV w s := by unfold gX; rw [if_neg (by omega), if_pos h]
theorem aLp {w : List Int} {s : Sc} (h : s.phase = 3) : gX w s = tU w s := by unfold gX; rw [if_neg (by omega), if_neg (by omega), if_pos h]
theorem aOg {w : List Int} {s : Sc} (h : s.phase = 4) : gX w s = lC w s := by unfold gX; rw [if_neg (by omega), if_neg (by omega), if_neg (by omega), if_pos h]
theorem aOh {w : List Int} {s : Sc} (h : s.phase = 5) : gX w s = { s with block := s.to_, phase := 2 } := by unfold gX; rw [if_neg (by omega), if_neg (by omega), if_neg (by omega), if_neg (by omega), if_pos h]
theorem aLq {w : List Int} {s : Sc} (h : s.phase = 6) : gX w s = { s with phase := 7 } := by unfold gX; rw [if_neg (by omega), if_neg (by omega), if_neg (by omega), if_neg (by omega), if_neg (by omega), if_pos h]
theorem aLr {w : List Int} {s : Sc} (h : s.phase = 7) : gX w s = if s.to_ = 0 then { s with phase := 8 } else { s with block := s.to_, phase := 2 } := by unfold gX; rw [if_neg (by omega), if_neg (by omega), if_neg (by omega), if_neg (by omega), if_neg (by omega), if_neg (by omega), if_pos h]
theorem aDN {w : List Int} {b : Int} {n : Nd} (h : dF w b = some n) (hb : b < 256) (r : Sc) (hp : r.phase = 3) (hs : r.seek = kY b n 0) {T : Nat} (hT : ∀ k, k < T → (kY b n k).over = false) : ∀ k, k < T → seqC w r k = { r with seek := kY b n k }
 | 0, _ => by show r = _; rw [← hs]
 | k + 1, hk => by
   show gX w (seqC w r k) = _
   have ih := aDN h hb r hp hs hT k (by omega)
   rw [ih, aLp (s := { r with seek := kY b n k }) hp]
   unfold tU
   simp only
   have e : kW w (kY b n k) = kY b n (k + 1) := by
     rw [← qH h hb k, ← qH h hb (k + 1)]; rfl
   rw [e, hT (k + 1) hk]
   simp
theorem aLs {w : List Int} {b : Int} {n : Nd} (h : dF w b = some n) (hb : b < 256) (r : Sc) (hp : r.phase = 2) (hblk : r.block = b) : ∃ T, T ≤ 14 ∧ ∃ a R, (R = plain n.slots ∨ R = (plain n.slots).reverse) ∧ seqC w r T = { r with seek := ⟨b, n.turn, a, R, true⟩, phase := 4 } := by
 have h13 := (lS h).1.2.2.2.2.2.2.1
 obtain ⟨T, t1, t2, t3, t4⟩ := aJJ (b := b) h13
 obtain ⟨a, R, h1, h2⟩ := aLk (b := b) h13
 refine ⟨1 + T, by omega, a, R, h2, ?_⟩
 rw [sS]
 have e1 : seqC w r 1 = { r with seek := kY b n 0, phase := 3 } := by
   show gX w r = _
   rw [aOf hp]
   unfold uV
   rw [hblk, aGY h hb]
 rw [e1]
 have hk := aDN h hb { r with seek := kY b n 0, phase := 3 } rfl rfl t4 (T - 1) (by omega)
 rw [show T = (T - 1) + 1 by omega]
 show gX w (seqC w _ (T - 1)) = _
 rw [hk, aLp rfl]
 unfold tU
 have e : kW w (kY b n (T - 1)) = kY b n T := by
   rw [← qH h hb (T - 1), ← qH h hb T, show T = (T - 1) + 1 by omega]; rfl
 simp only [e, t3, h1, if_true]
theorem aFk {w l : List Int} : ∀ {p : List Int} {b c : Int} (r : Sc), aBr w l r.from_ p b c → r.phase = 1 → r.block = b → seqC w r (p.length + 1) = { r with block := c, phase := 2 }
 | [], b, c, r, h, hp, hb => by
   show gX w r = _
   rw [aLo hp]
   unfold qP
   rw [hb]
   rcases h with ⟨h1, rfl⟩ | ⟨n, h1, ⟨h2, _, _, rfl⟩ | ⟨h2, h3, rfl⟩⟩
   · rw [h1]
   · rw [h1]; simp only; rw [if_pos h2]
   · rw [h1]; simp only; rw [if_neg h2, h3]
 | x :: p, b, c, r, h, hp, hb => by
   obtain ⟨rfl, n, t, h1, h2, h3, h4⟩ := h
   have e : seqC w r 1 = { r with block := t } := by
     show gX w r = _
     rw [aLo hp]
     unfold qP
     rw [hb, h1]; simp only; rw [if_neg h2, h3]
   rw [List.length_cons, show p.length + 1 + 1 = 1 + (p.length + 1) by omega, sS, e]
   exact aFk { r with block := t } h4 hp rfl
/-! ### What a scanner tells -/
def inR (lo hi : aY) (x : iY) : Bool := !ltB x.key lo && (decide (hi = []) || ltB x.key hi)
def nJ (L : List iY) (lo hi : aY) (limit : Int) : List iY := (L.filter (inR lo hi)).take limit.toNat
theorem aFl {p : Rc → Bool} (hp : ∀ a b : Rc, ltB a.key b.key = true → p b = true → p a = true) : ∀ {L : List Rc}, L.Pairwise (fun a b => ltB a.key b.key = true) → L.takeWhile p = L.filter p
 | [], _ => rfl
 | a :: r, h => by
   rw [List.pairwise_cons] at h
   cases hpa : p a with
   | true => rw [List.takeWhile_cons, if_pos hpa, List.filter_cons, if_pos hpa, aFl hp h.2]
   | false =>
     rw [List.takeWhile_cons, if_neg (by rw [hpa]; decide), List.filter_cons, if_neg (by rw [hpa]; decide)]
     symm
     rw [List.filter_eq_nil_iff]
     intro x hx hpx
     rw [hp a x (h.1 x hx) hpx] at hpa; cases hpa
def ownR (w : List Int) (lo hi : aY) (b : Int) : List iY := (ownP w b).filter (inR lo hi)
theorem tV {w l : List Int} (h : iF (eA w) w = some l) {i : Nat} (hi : i < l.length) {x : iY} (hx : x ∈ ownP w (l.getD i 0)) : ltB x.key (iL w l i) = false ∧ (i + 1 < l.length → ltB x.key (iL w l (i + 1)) = true) := by
 obtain ⟨hz, n, hn, hlev, hnx, hlow, hsl, _, _⟩ := mC h hi
 have hnz : mV w (l.getD i 0) = n := by unfold mV; rw [hn]; rfl
 unfold ownP ownL at hx
 rw [hnz] at hx
 obtain ⟨y, hy, rfl⟩ := List.mem_map.1 hx
 obtain ⟨hy1, hy2⟩ := aHb hy
 obtain ⟨s, hs, rfl⟩ := List.mem_map.1 hy1
 refine ⟨zK hsl s hs, fun hc => ?_⟩
 rw [if_pos hc] at hnx
 obtain ⟨hz2, _⟩ := mC h hc
 unfold ownB at hy2
 rw [hnx, decide_eq_false hz2, Bool.false_or] at hy2
 exact hy2
theorem aSo {w l : List Int} (h : iF (eA w) w = some l) {i : Nat} (hi : i < l.length) : ∀ {x : iY}, x ∈ allP w (l.take i) → ltB x.key (iL w l i) = true := by
 intro x hx
 unfold allP at hx
 obtain ⟨b, hb, hxb⟩ := List.mem_flatMap.1 hx
 obtain ⟨j, hj, rfl⟩ := List.getElem_of_mem hb
 rw [List.length_take] at hj
 have e : (l.take i)[j] = l.getD j 0 := by rw [List.getElem_take, List.getD_eq_getElem?_getD, List.getElem?_eq_getElem (by omega)]; rfl
 rw [e] at hxb
 exact aCw h (show j + 1 ≤ i by omega) hi (tV h (by omega) hxb |>.2 (by omega))
theorem behind {w l : List Int} (h : iF (eA w) w = some l) {i : Nat} : ∀ {x : iY}, x ∈ allP w (l.drop i) → ltB x.key (iL w l i) = false := by
 intro x hx
 unfold allP at hx
 obtain ⟨b, hb, hxb⟩ := List.mem_flatMap.1 hx
 obtain ⟨j, hj, rfl⟩ := List.getElem_of_mem hb
 rw [List.length_drop] at hj
 have e : (l.drop i)[j] = l.getD (i + j) 0 := by rw [List.getElem_drop, List.getD_eq_getElem?_getD, List.getElem?_eq_getElem (by omega)]; rfl
 rw [e] at hxb
 cases hc : ltB x.key (iL w l i) with
 | false => rfl
 | true =>
   have := aCw h (show i ≤ i + j by omega) (by omega) hc
   rw [(tV h (by omega) hxb).1] at this; cases this
theorem aJO (w l : List Int) (i : Nat) : allP w l = allP w (l.take i) ++ allP w (l.drop i) := by
 unfold allP
 rw [← List.flatMap_append, List.take_append_drop]
end Lam
namespace Lam
open Go
theorem aAV {p : RecT → Bool} {q : iY → Bool} {w : List Int} : ∀ (L : List Int), (∀ s ∈ L, p (recT w s) = q (lB (recZ w s))) → ((L.map (recT w)).filter p).map kX = ((L.map (recZ w)).map lB).filter q
 | [], _ => rfl
 | a :: r, h => by
   have ih := aAV r fun s hs => h s (by simp [hs])
   have ha := h a (by simp)
   simp only [List.map_cons, List.filter_cons, ha]
   cases q (lB (recZ w a)) with
   | true => simp only [if_true, List.map_cons, ih]; rfl
   | false => simpa using ih
theorem aJP {w l : List Int} (h : iF (eA w) w = some l) {i : Nat} (hi : i < l.length) {s : Sc} {bnd : Bool} {high : aY} (hf : ltB s.from_ (iL w l i) = false) (hlo : s.from_ = s.lo ∨ (s.from_ = iL w l i ∧ ltB s.lo s.from_ = true))
   (hb : if i + 1 < l.length then bnd = true ∧ high = iL w l (i + 1) else bnd = false) : ((aDL w (l.getD i 0)).filter (sIn s high bnd)).map kX = ownR w s.lo s.hi (l.getD i 0) := by
 obtain ⟨hz, n, hn, hlev, hnx, hlow, hsl, _, _⟩ := mC h hi
 have hnz : mV w (l.getD i 0) = n := by unfold mV; rw [hn]; rfl
 have hpw : ((plain n.slots).map (recZ w)).Pairwise (fun a b => ltB a.key b.key = true) := by
   have := (uW hsl).1
   rw [List.pairwise_map] at this ⊢
   exact this
 have hown : ownP w (l.getD i 0) = (((plain n.slots).map (recZ w)).filter (ownB w n)).map lB := by
   unfold ownP ownL
   rw [hnz, aFl (fun a b hab hpb => ?_) hpw]
   unfold ownB at hpb ⊢
   cases hz : decide (n.next = 0) with
   | true => rfl
   | false => rw [hz, Bool.false_or] at hpb; rw [Bool.false_or]; exact jG hab hpb
 unfold ownR aDL
 rw [hnz, hown]
 have hff : (((plain n.slots).map (recZ w)).filter (ownB w n)).map lB = (((plain n.slots).map (recZ w)).map lB).filter (fun y => decide (n.next = 0) || ltB y.key (lowZ w n.next)) := by
   symm
   exact List.filter_map (f := lB) (p := fun y => decide (n.next = 0) || ltB y.key (lowZ w n.next)) (l := (plain n.slots).map (recZ w))
 rw [hff, List.filter_filter]
 refine aAV _ fun k hk => ?_
 have hge := zK hsl k hk
 show sIn s high bnd (recT w k) = (inR s.lo s.hi (lB (recZ w k)) && (decide (n.next = 0) || ltB (recZ w k).key (lowZ w n.next)))
 unfold sIn inR
 have e1 : (recT w k).key = (recZ w k).key := rfl
 have e2 : (lB (recZ w k)).key = (recZ w k).key := rfl
 rw [e1, e2]
 have hbe : (!bnd || ltB (recZ w k).key high) = (decide (n.next = 0) || ltB (recZ w k).key (lowZ w n.next)) := by
   by_cases hc : i + 1 < l.length
   · rw [if_pos hc] at hb hnx
     obtain ⟨hz2, _⟩ := mC h hc
     rw [hb.1, hb.2, hnx, decide_eq_false hz2]; rfl
   · rw [if_neg hc] at hb hnx
     rw [hb, hnx]; rfl
 have hlow2 : ltB (recZ w k).key (if ltB s.lo s.from_ = true then s.from_ else s.lo) = ltB (recZ w k).key s.lo := by
   rcases hlo with e | ⟨e, hlt⟩
   · rw [e, qV, if_neg (by decide)]
   · rw [if_pos hlt]
     have h1 : ltB (recZ w k).key s.from_ = false := by rw [e]; exact hge
     rw [h1]
     cases hc : ltB (recZ w k).key s.lo with
     | false => rfl
     | true => have := jG hc hlt; rw [h1] at this; cases this
 rw [hbe, hlow2]
structure aHc (w l : List Int) (lo hi : aY) (limit : Int) (i : Nat) (s : Sc) : Prop where
 phase : s.phase = 2
 block : s.block = l.getD i 0
 eqlo : s.lo = lo
 eqhi : s.hi = hi
 eqlim : s.limit = limit
 from_ : ltB s.from_ (iL w l i) = false
 lo_ : s.from_ = lo ∨ (s.from_ = iL w l i ∧ ltB lo s.from_ = true)
 out : s.out = (allP w (l.take i)).filter (inR lo hi)
 few : (s.out.length : Int) < limit
theorem aLt {w l : List Int} {lo hi : aY} {limit : Int} (h : iF (eA w) w = some l) (hN : w.length / 16 ≤ 256) {i : Nat} (hil : i < l.length) {s : Sc} (hs : aHc w l lo hi limit i s) :
   ∃ n, n ≤ 17 ∧ ((i + 1 < l.length ∧ aHc w l lo hi limit (i + 1) (seqC w s n)) ∨ ((seqC w s n).phase = 8 ∧ (seqC w s n).out = nJ (allP w l) lo hi limit)) := by
 obtain ⟨hz, n, hn, hlev, hnx, hlow, hsl, _, _⟩ := mC h hil
 have hb : l.getD i 0 < 256 := by have := (lS hn).2.2.1; omega
 obtain ⟨T, hT, a, R, hR, hst⟩ := aLs hn hb s hs.phase hs.block
 obtain ⟨slo, shi, slim, sph, sblk, sto, ssk, sfr, sout⟩ := s
 obtain ⟨h1, h2, h3, h4, h5, h6, h7, h8, h9⟩ := hs
 simp only at h1 h2 h3 h4 h5 h6 h7 h8 h9
 subst h1
 subst h2
 subst h3
 subst h4
 subst h5
 simp only at hst
 have hfe : gX w (seqC w ⟨slo, shi, slim, 2, l.getD i 0, sto, ssk, sfr, sout⟩ T) = lC w (seqC w ⟨slo, shi, slim, 2, l.getD i 0, sto, ssk, sfr, sout⟩ T) := aOg (by rw [hst])
 have hholds : tT w (l.getD i 0) n.turn = true := by unfold tT; rw [hn]; exact decide_eq_true rfl
 have hnz : mV w (l.getD i 0) = n := by unfold mV; rw [hn]; rfl
 have hits : uU (jA w R) = aDL w (l.getD i 0) := by
   unfold aDL
   rw [hnz]
   refine aLl (fun s hs => ?_) (uW hsl).1 hR
   obtain ⟨x, hx, _⟩ := aBN hsl s hs
   exact ⟨x, hx⟩
 have hright : vY w (l.getD i 0) = if i + 1 < l.length then some (l.getD (i + 1) 0, iL w l (i + 1)) else none := by
   unfold vY
   rw [hn]
   simp only
   by_cases hc : i + 1 < l.length
   · rw [if_pos hc] at hnx ⊢
     obtain ⟨hz2, n2, hn2, _, _, hlow2, _⟩ := mC h hc
     rw [hnx, if_neg hz2, hn2]
     simp only [Option.bind_some, hlow2]
     rfl
   · rw [if_neg hc] at hnx ⊢
     rw [hnx, if_pos rfl]
 have hnext : (allP w (l.take (i + 1))).filter (inR slo shi) = sout ++ ownR w slo shi (l.getD i 0) := by
   rw [aFg hil, List.filter_append, h8]; rfl
 by_cases hmv : i + 1 < l.length ∧ ltB sfr (iL w l (i + 1)) = false
 · -- a move
   refine ⟨T + 1 + 1, by omega, .inl ⟨hmv.1, ?_⟩⟩
   have e1 : seqC w ⟨slo, shi, slim, 2, l.getD i 0, sto, ssk, sfr, sout⟩ (T + 1) = ⟨slo, shi, slim, 5, l.getD i 0, l.getD (i + 1) 0, ⟨l.getD i 0, n.turn, a, R, true⟩, sfr, sout⟩ := by
     show gX w (seqC w _ T) = _
     rw [hfe, hst]
     unfold lC
     simp only [hholds, hright, if_pos hmv.1, hmv.2]
     rfl
   have e2 : seqC w ⟨slo, shi, slim, 2, l.getD i 0, sto, ssk, sfr, sout⟩ (T + 1 + 1) = ⟨slo, shi, slim, 2, l.getD (i + 1) 0, l.getD (i + 1) 0, ⟨l.getD i 0, n.turn, a, R, true⟩, sfr, sout⟩ := by
     show gX w (seqC w _ (T + 1)) = _
     rw [e1, aOh rfl]
   rw [e2]
   have hlt2 : ltB (iL w l i) (iL w l (i + 1)) = true := (mC h hmv.1).2.choose_spec.2.2.2.2.2.2 i (by omega)
   have hfl : sfr = slo := by
     rcases h7 with e | ⟨e, _⟩
     · exact e
     · rw [e, hlt2] at hmv; cases hmv.2
   have hnone : ownR w slo shi (l.getD i 0) = [] := by
     unfold ownR
     rw [List.filter_eq_nil_iff]
     intro x hx
     have h1 := (tV h hil hx).2 hmv.1
     have h2 : ltB x.key slo = true := by
       cases hc : ltB x.key slo with
       | true => rfl
       | false =>
         exfalso
         have : leB slo x.key := hc
         have h3 : leB (iL w l (i + 1)) slo := by unfold leB; rw [← hfl]; exact hmv.2
         have h4 := lV h3 this
         unfold leB at h4
         rw [h1] at h4; cases h4
     unfold inR
     rw [h2]; simp
   exact ⟨rfl, rfl, rfl, rfl, rfl, hmv.2, .inl hfl, by rw [hnext, hnone, List.append_nil], h9⟩
 · -- it tells
   obtain ⟨bnd, hbd⟩ : ∃ b : Bool, b = decide (i + 1 < l.length) := ⟨_, rfl⟩
   obtain ⟨high, hhi⟩ : ∃ x : aY, x = if i + 1 < l.length then iL w l (i + 1) else [] := ⟨_, rfl⟩
   obtain ⟨to, hto⟩ : ∃ x : Int, x = if i + 1 < l.length then l.getD (i + 1) 0 else 0 := ⟨_, rfl⟩
   obtain ⟨S, hS⟩ : ∃ S : Sc, S = ⟨slo, shi, slim, 4, l.getD i 0, sto, ⟨l.getD i 0, n.turn, a, R, true⟩, sfr, sout⟩ := ⟨_, rfl⟩
   have hF : lC w S = oD w S bnd high to := by
     unfold lC
     rw [hS]
     simp only [hholds, hright]
     by_cases hc : i + 1 < l.length
     · rw [if_pos hc] at hhi hto ⊢
       rw [decide_eq_true hc] at hbd
       have : ltB sfr (iL w l (i + 1)) = true := by
         cases e : ltB sfr (iL w l (i + 1)) with
         | true => rfl
         | false => exact absurd ⟨hc, e⟩ hmv
       rw [hbd, hhi, hto]
       simp only [this]
       rfl
     · rw [if_neg hc] at hhi hto ⊢
       rw [decide_eq_false hc] at hbd
       rw [hbd, hhi, hto]
       rfl
   have hout : sOut w S high bnd = sout ++ (ownR w slo shi (l.getD i 0)).take (slim - sout.length).toNat := by
     unfold sOut
     rw [hS]
     simp only [hits]
     rw [aJP h hil (s := ⟨slo, shi, slim, 4, l.getD i 0, sto, ⟨l.getD i 0, n.turn, a, R, true⟩, sfr, sout⟩) h6 h7 (by
       by_cases hc : i + 1 < l.length
       · rw [if_pos hc, hbd, hhi, if_pos hc]; exact ⟨decide_eq_true hc, rfl⟩
       · rw [if_neg hc, hbd]; exact decide_eq_false hc)]
   obtain ⟨O, hO⟩ : ∃ O, sOut w S high bnd = O := ⟨_, rfl⟩
   have e1 : seqC w ⟨slo, shi, slim, 2, l.getD i 0, sto, ssk, sfr, sout⟩ (T + 1) = oD w S bnd high to := by
     show gX w (seqC w _ T) = _
     rw [hfe, hst, ← hS, hF]
   have hwhole : allP w l = allP w (l.take (i + 1)) ++ allP w (l.drop (i + 1)) := aJO w l (i + 1)
   have hOr : O = ((allP w (l.take (i + 1))).filter (inR slo shi)).take slim.toNat := by
     rw [← hO, hout, hnext, List.take_append, List.take_of_length_le (l := sout) (by omega)]
     congr 2
     omega
   by_cases hgo : (bnd && decide (((sOut w S high bnd).length : Int) < S.limit) && (decide (S.hi = []) || ltB high S.hi)) = true
   · have hgo2 := hgo
     rw [hO] at hgo
     rw [hS] at hgo
     simp only [Bool.and_eq_true, Bool.or_eq_true, decide_eq_true_eq] at hgo
     obtain ⟨⟨g1, g2⟩, g3⟩ := hgo
     rw [hbd, decide_eq_true_eq] at g1
     rw [if_pos g1] at hhi hto
     have e2 : oD w S bnd high to = ⟨slo, shi, slim, 6, l.getD i 0, l.getD (i + 1) 0, ⟨l.getD i 0, n.turn, a, R, true⟩, iL w l (i + 1), O⟩ := by
       unfold oD
       rw [if_pos hgo2, hO, hS, hto, hhi]
     obtain ⟨hz2, _⟩ := mC h g1
     refine ⟨T + 1 + 1 + 1, by omega, .inl ⟨g1, ?_⟩⟩
     have e3 : seqC w ⟨slo, shi, slim, 2, l.getD i 0, sto, ssk, sfr, sout⟩ (T + 1 + 1) = ⟨slo, shi, slim, 7, l.getD i 0, l.getD (i + 1) 0, ⟨l.getD i 0, n.turn, a, R, true⟩, iL w l (i + 1), O⟩ := by
       show gX w (seqC w _ (T + 1)) = _
       rw [e1, e2, aLq rfl]
     have e4 : seqC w ⟨slo, shi, slim, 2, l.getD i 0, sto, ssk, sfr, sout⟩ (T + 1 + 1 + 1) = ⟨slo, shi, slim, 2, l.getD (i + 1) 0, l.getD (i + 1) 0, ⟨l.getD i 0, n.turn, a, R, true⟩, iL w l (i + 1), O⟩ := by
       show gX w (seqC w _ (T + 1 + 1)) = _
       rw [e3, aLr rfl]
       simp only
       rw [if_neg hz2]
     rw [e4]
     have hfh : ltB sfr (iL w l (i + 1)) = true := by
       cases e : ltB sfr (iL w l (i + 1)) with
       | true => rfl
       | false => exact absurd ⟨g1, e⟩ hmv
     have hlh : ltB slo (iL w l (i + 1)) = true := by
       rcases h7 with e | ⟨_, e⟩
       · rw [← e]; exact hfh
       · exact jG e hfh
     have hOall : O = (allP w (l.take (i + 1))).filter (inR slo shi) := by
       have hlen := congrArg List.length hOr
       rw [List.length_take] at hlen
       rw [hOr]
       exact List.take_of_length_le (by omega)
     exact ⟨rfl, rfl, rfl, rfl, rfl, qV _, .inr ⟨rfl, hlh⟩, hOall, g2⟩
   · have e2 : oD w S bnd high to = ⟨slo, shi, slim, 6, l.getD i 0, 0, ⟨l.getD i 0, n.turn, a, R, true⟩, sfr, O⟩ := by
       unfold oD
       rw [if_neg hgo, hO, hS]
     refine ⟨T + 1 + 1 + 1, by omega, .inr ?_⟩
     have e3 : seqC w ⟨slo, shi, slim, 2, l.getD i 0, sto, ssk, sfr, sout⟩ (T + 1 + 1) = ⟨slo, shi, slim, 7, l.getD i 0, 0, ⟨l.getD i 0, n.turn, a, R, true⟩, sfr, O⟩ := by
       show gX w (seqC w _ (T + 1)) = _
       rw [e1, e2, aLq rfl]
     have e4 : seqC w ⟨slo, shi, slim, 2, l.getD i 0, sto, ssk, sfr, sout⟩ (T + 1 + 1 + 1) = ⟨slo, shi, slim, 8, l.getD i 0, 0, ⟨l.getD i 0, n.turn, a, R, true⟩, sfr, O⟩ := by
       show gX w (seqC w _ (T + 1 + 1)) = _
       rw [e3, aLr rfl]
       rfl
     rw [e4]
     refine ⟨rfl, ?_⟩
     show O = _
     unfold nJ
     rw [hwhole, List.filter_append]
     by_cases hful : slim ≤ O.length
     · have hlen := congrArg List.length hOr
       rw [List.length_take] at hlen
       rw [List.take_append_of_le_length (by omega)]
       exact hOr
     · have hlast : (allP w (l.drop (i + 1))).filter (inR slo shi) = [] := by
         rw [List.filter_eq_nil_iff]
         intro x hx
         by_cases hc : i + 1 < l.length
         · rw [if_pos hc] at hhi
           have hbt : bnd = true := by rw [hbd]; exact decide_eq_true hc
           have h1 := behind h hx
           have h2 : ¬(shi = [] ∨ ltB (iL w l (i + 1)) shi = true) := fun hh => hgo (by
             rw [hO, hbt, hhi, hS]
             simp only [Bool.and_eq_true, Bool.or_eq_true, decide_eq_true_eq]
             exact ⟨⟨trivial, by omega⟩, hh⟩)
           have h3 : ltB x.key shi = false := by
             cases e : ltB x.key shi with
             | false => rfl
             | true =>
               exfalso
               have h4 : leB shi (iL w l (i + 1)) := by
                 unfold leB
                 cases e2 : ltB (iL w l (i + 1)) shi with
                 | false => rfl
                 | true => exact absurd (.inr e2) h2
               have h5 := lV h4 h1
               unfold leB at h5
               rw [e] at h5; cases h5
           unfold inR
           rw [h3, decide_eq_false fun hh => h2 (.inl hh)]; simp
         · rw [List.drop_of_length_le (by omega)] at hx
           cases hx
       rw [hlast, List.append_nil]
       exact hOr
end Lam
namespace Lam
open Go
theorem aHd {w l : List Int} {lo hi : aY} {limit : Int} (h : iF (eA w) w = some l) (hN : w.length / 16 ≤ 256) : ∀ (d i : Nat), i + d + 1 = l.length → ∀ (s : Sc), aHc w l lo hi limit i s → ∃ n, n ≤ 17 * (d + 1) ∧ (seqC w s n).phase = 8 ∧ (seqC w s n).out = nJ (allP w l) lo hi limit
 | d, i, hd, s, hs => by
   obtain ⟨n, hn, h1 | h1⟩ := aLt h hN (show i < l.length by omega) hs
   · obtain ⟨q1, q2⟩ := h1
     cases d with
     | zero => omega
     | succ d =>
       obtain ⟨n2, g1, g2, g3⟩ := aHd h hN d (i + 1) (by omega) _ q2
       rw [← sS] at g2 g3
       exact ⟨n + n2, by omega, g2, g3⟩
   · exact ⟨n, by omega, h1.1, h1.2⟩
theorem aDO {w l : List Int} {lo hi : aY} {limit : Int} (h : iF (eA w) w = some l) (hN : w.length / 16 ≤ 256) (hl : mI w l lo 300 (w.getD 3 0) = true) (hlim : 1 ≤ limit) : ∀ N, 17 * l.length + w.length / 16 + 1 ≤ N → (seqC w (sc0 w lo hi limit) N).phase = 8 ∧ (seqC w (sc0 w lo hi limit) N).out = nJ (allP w l) lo hi limit := by
 obtain ⟨p, c, hp, hnd, hno⟩ := aFh _ _ hl
 have hpl : p.length ≤ w.length / 16 := aGH hnd fun x hx => by
   obtain ⟨n, hn⟩ := hno x hx
   obtain ⟨_, q0, q1, _⟩ := lS hn
   exact ⟨q0, q1⟩
 have hroot : aBp w = w.getD 3 0 := by unfold aBp; rw [(nZ h).2.2]; rfl
 have e1 := aFk (sc0 w lo hi limit) hp rfl hroot
 obtain ⟨i, hi2, hc, hlo⟩ := aHa h hp
 have hnone : (allP w (l.take i)).filter (inR lo hi) = [] := by
   rw [List.filter_eq_nil_iff]
   intro x hx
   have h1 := aSo h hi2 hx
   have h2 : ltB x.key lo = true := by
     cases e : ltB x.key lo with
     | true => rfl
     | false =>
       exfalso
       have h4 := lV (a := iL w l i) (b := lo) (c := x.key) hlo e
       unfold leB at h4
       rw [h1] at h4; cases h4
   unfold inR
   rw [h2]; simp
 obtain ⟨n, hn, hph, hout⟩ := aHd h hN (l.length - i - 1) i (by omega) { sc0 w lo hi limit with block := c, phase := 2 } ⟨rfl, hc, rfl, rfl, rfl, hlo, .inl rfl, hnone.symm, by show ((0 : Nat) : Int) < limit; omega⟩
 have e2 : seqC w (sc0 w lo hi limit) (p.length + 1 + n) = seqC w { sc0 w lo hi limit with block := c, phase := 2 } n := by rw [sS, e1]
 rw [← e2] at hph hout
 intro N hN2
 have hb : n ≤ 17 * l.length := Nat.le_trans hn (Nat.mul_le_mul_left 17 (by omega))
 have hst := zL (w := w) (s := sc0 w lo hi limit) (a := p.length + 1 + n) (b := N) hph (by omega)
 rw [hst]
 exact ⟨hph, hout⟩
/-! ### What a scanner holds -/
def FewC (s : Sc) : Prop := FewS s.seek ∧ s.limit ≤ 100 ∧ s.out.length ≤ 100
theorem aEk (w : List Int) (lo hi : aY) {limit : Int} (h : limit ≤ 100) : FewC (sc0 w lo hi limit) := ⟨aNi, h, Nat.zero_le _⟩
theorem aHe {w : List Int} {s : Sc} (h : FewC s) (bnd : Bool) (high : aY) (to : Int) : FewC (oD w s bnd high to) := by
 obtain ⟨h1, h2, h3⟩ := h
 have ho : (sOut w s high bnd).length ≤ 100 := by
   unfold sOut
   rw [List.length_append, List.length_take]; omega
 unfold oD
 split
 · exact ⟨h1, h2, ho⟩
 · exact ⟨h1, h2, ho⟩
theorem aLu {w : List Int} {s : Sc} (h : FewC s) : FewC (gX w s) := by
 obtain ⟨h1, h2, h3⟩ := h
 unfold gX
 split
 · unfold qP
   split
   · exact ⟨h1, h2, h3⟩
   · split
     · exact ⟨h1, h2, h3⟩
     · split <;> exact ⟨h1, h2, h3⟩
 split
 · unfold uV
   split
   · exact ⟨h1, h2, h3⟩
   · rename_i x hx; exact ⟨aLn hx, h2, h3⟩
 split
 · exact ⟨aMp h1, h2, h3⟩
 split
 · unfold lC
   split
   · exact ⟨h1, h2, h3⟩
   · split
     · exact aHe ⟨h1, h2, h3⟩ _ _ _
     · split
       · exact ⟨h1, h2, h3⟩
       · exact aHe ⟨h1, h2, h3⟩ _ _ _
 split
 · exact ⟨h1, h2, h3⟩
 split
 · exact ⟨h1, h2, h3⟩
 split
 · split <;> exact ⟨h1, h2, h3⟩
 · exact ⟨h1, h2, h3⟩
theorem zM {w : List Int} {s : Sc} (h : FewC s) : ∀ k, FewC (seqC w s k)
 | 0 => h
 | k + 1 => aLu (zM h k)
end Lam
namespace Lam
open Go Go.Proofs
def bZ.loops : Nat → bX
 | 4 => ⟨[5], [false], [0, 1], [], [], []⟩
 | _ => ⟨[], [], [], [], [], []⟩
def bZ.L1 (c : Ctx) (J1 : List AObj → Prop) (K : AOut → List AObj → Prop) (lv : List AV) (h0 : List AObj) (n0 : Nat) (c0 : AV) (c1 : AV) : Prop :=
 ∃ I : Nat → List AV → List AObj → Prop, (∃ n, I n lv h0) ∧ ∀ n h, ∀ t5, I n [t5] h →
 runD (lenD bW h c0) h fun t13 h =>
 runD (binD aB .lss t5 t13) h fun t14 h =>
 aW t14
 (runD (aH bW h c0 t5) h fun t19 h =>
 runD (fitD iT (aD h t19)) h fun t20 h =>
 runD (aH bW h c1 t5) h fun t23 h =>
 runD (fitD iT (aD h t23)) h fun t24 h =>
 runD (binD iT .neq t20 t24) h fun t25 h =>
 aW t25
 (K (.ret (.bool false)) h)
 (runD (binD aB .add t5 (.int .i64 1)) h fun t16 h =>
 (∃ m, m < n ∧ I m (AV.norms n0 h [t16]) (cJ n0 h)) ∧ AV.norms n0 h [c0, c1] = [c0, c1]))
 (J1 h)
def bZ.H (c : Ctx) (t0 : AV) (t1 : AV) (h : List AObj) (K : AOut → List AObj → Prop) : Prop :=
 runD (lenD bW h t0) h fun t7 h =>
 runD (lenD bW h t1) h fun t9 h =>
 runD (binD aB .neq t7 t9) h fun t10 h =>
 aW t10
 (K (.ret (.bool false)) h)
 (aJ (fun (J1 : List AObj → Prop) =>
 dC [false] [(.int .i64 0)] h fun lv h => bZ.L1 c J1 K (AV.norms h.length h lv) (cJ h.length h) h.length (AV.norm h.length h t0) (AV.norm h.length h t1))
 (fun h => K (.ret (.bool true)) h))
theorem bZ.eq (F : List (FuncId × aE)) (S : List (FuncId × Con)) (t0 t1 : AV) (h : List AObj) (K : AOut → List AObj → Prop) : funW (ctx F S bZ.loops) Tryz.f20 [t0, t1] h K = bZ.H (ctx F S bZ.loops) t0 t1 h K := by kernel_rfl
theorem bZ.at : Tryz.prog.funcs[20]? = some Tryz.f20 := by kernel_rfl
theorem bZ.nm : (Tryz.f20.name == "runtime.NumGoroutine") = false := by kernel_rfl
theorem bZ.bd : Tryz.f20.body.isNone = false := by kernel_rfl
end Lam
namespace Lam
open Go Go.Proofs
def bZ.C : aE
 | [.sl _ (.pairs a), .sl _ (.pairs b)] => some (false, pD (roomy a.length) (.bool (decide (a = b))))
 | _ => none
theorem bZ.spec : bI Tryz.prog 20 bZ.C := by
 refine bI.of (bR (F := []) (S := []) (by simp) (by simp) bZ.loops) bZ.at bZ.nm bZ.bd ?_
 intro vs b S v news e hS
 unfold bZ.C at e
 split at e
 rotate_left
 · cases e
 cases e
 rw [bZ.eq]
 unfold bZ.H
 simp (maxSteps := 4000000) only [go_sem, reduceEqDiff, Nat.reduceLT, reduceAdd, reduceSub, reduceLeDiff, reduceReplicate, reduceToNat]
 rename_i a _ b
 unfold roomy at hS
 refine ⟨fun hne => ?_, fun heq => ?_⟩
 · have : decide (a = b) = false := by rw [decide_eq_false_iff_not]; rintro rfl; exact hne rfl
   rw [this]; exact aG rfl rfl
 rw [aA]
 unfold bZ.L1
 have hlen : a.length = b.length := by omega
 refine kV (fun k : Nat => .int .i64 k) (fun _ => []) (fun k => a.length - k) (fun k => k ≤ a.length ∧ ∀ i, i < k → a.getD i ⟨[], []⟩ = b.getD i ⟨[], []⟩) 0 rfl rfl ⟨Nat.zero_le _, fun i hi => absurd hi (Nat.not_lt_zero i)⟩ ?_
 rintro I back k ⟨hk, hall⟩
 simp only [go_sem, reduceEqDiff, Nat.reduceLT, reduceAdd, reduceSub, reduceLeDiff, reduceReplicate, reduceToNat]
 have hp : ∀ x y : iY, (decide (x.key = y.key) && decide (x.val = y.val)) = decide (x = y) := fun x y => by
   obtain ⟨x1, x2⟩ := x
   obtain ⟨y1, y2⟩ := y
   rw [Bool.eq_iff_iff]
   simp only [Bool.and_eq_true, decide_eq_true_eq, iY.mk.injEq]
 simp only [hp, decide_eq_true_eq, decide_eq_false_iff_not]
 refine ⟨fun hlt => ⟨by omega, by omega, fun h0 => ?_, fun h0 => ?_⟩, fun hge => ?_⟩
 · have : decide (a = b) = false := by rw [decide_eq_false_iff_not]; rintro rfl; exact h0 rfl
   rw [this]; exact aG rfl rfl
 · refine back (k + 1) (by omega) (by rw [eH (by omega)]) rfl ⟨by omega, fun i hi => ?_⟩
   by_cases e : i = k
   · subst e; exact h0
   · exact hall i (by omega)
 · rw [decide_eq_true (aSh ⟨[], []⟩ hlen fun i hi => hall i (by omega))]; exact aG rfl rfl
end Lam
namespace Lam
open Go Go.Proofs
def cR.loops : Nat → bX
 | 1 => ⟨[], [], [], [(4, none), (7, some [10, 17])], [], []⟩
 | _ => ⟨[], [], [], [], [], []⟩
def cR.H (c : Ctx) (t0 : AV) (t1 : AV) (t2 : AV) (h : List AObj) (K : AOut → List AObj → Prop) : Prop :=
 runD (binD bP .geq t0 t1) h fun t9 h =>
 aJ (fun (J1 : AV → AV → List AObj → Prop) =>
 aT t9 true
 (runD (binD bP .eql t2 (.str [])) h fun t12 h =>
 aJ (fun (J2 : AV → AV → List AObj → Prop) =>
 aT t12 false
 (runD (binD bP .lss t0 t2) h fun t16 h =>
 J2 (.bool false) t16 h)
 (J2 (.bool true) .und h))
 (fun t13 t16 h => runD (bK t13 (.bool true) t16) h fun t17 h =>
 J1 (.bool true) t17 h))
 (J1 (.bool false) .und h))
 (fun t10 t17 h => runD (bK t10 t17 (.bool false)) h fun t18 h =>
 K (.ret t18) h)
def cF.loops : Nat → bX
 | 3 => ⟨[9, 10], [true, false], [0, 1, 2, 3], [], [], []⟩
 | 5 => ⟨[], [], [], [(9, none), (4, some [25, 29])], [], []⟩
 | _ => ⟨[], [], [], [], [], []⟩
def cF.L1 (c : Ctx) (J1 : AV → List AObj → Prop) (K : AOut → List AObj → Prop) (lv : List AV) (h0 : List AObj) (n0 : Nat) (c0 : AV) (c1 : AV) (c2 : AV) (c3 : AV) : Prop :=
 ∃ I : Nat → List AV → List AObj → Prop, (∃ n, I n lv h0) ∧ ∀ n h, ∀ t9, ∀ t10, I n [t9, t10] h →
 runD (lenD bW h c0) h fun t13 h =>
 runD (binD aB .lss t10 t13) h fun t14 h =>
 aW t14
 (runD (aH bW h c0 t10) h fun t19 h =>
 runD (aC iT t19 0) h fun t20 h =>
 runD (fitD bP (aD h t20)) h fun t21 h =>
 aQ false c (.fn (.func 21) [] []) [t21, c1, c2] h (fun t24 h =>
 aJ (fun (J2 : AV → AV → List AObj → Prop) =>
 aT t24 true
 (runD (lenD bW h t9) h fun t27 h =>
 runD (binD aB .lss t27 c3) h fun t29 h =>
 J2 (.bool true) t29 h)
 (J2 (.bool false) .und h))
 (fun t25 t29 h => runD (bK t25 t29 (.bool false)) h fun t30 h =>
 aJ (fun (J3 : AV → List AObj → Prop) =>
 aW t30
 (runD (aH bW h c0 t10) h fun t34 h =>
 runD (fitD iT (aD h t34)) h fun t35 h =>
 runD (eN bW 1 [(0, t35)] h.length) h fun t36 h =>
 jC (fI bW h t9 t36 h.length) (fW bW h t9 t36) h fun t37 h =>
 J3 t37 h)
 (J3 t9 h))
 (fun t9 h => runD (binD aB .add t10 (.int .i64 1)) h fun t16 h =>
 (∃ m, m < n ∧ I m (AV.norms n0 h [t9, t16]) (cJ n0 h)) ∧ AV.norms n0 h [c0, c1, c2, c3] = [c0, c1, c2, c3])))
 (fun v h => K (.pan v) h))
 (J1 t9 h)
def cF.H (c : Ctx) (t0 : AV) (t1 : AV) (t2 : AV) (t3 : AV) (h : List AObj) (K : AOut → List AObj → Prop) : Prop :=
 aJ (fun (J1 : AV → List AObj → Prop) =>
 dC [true, false] [(.sl true (.pairs [])), (.int .i64 0)] h fun lv h => cF.L1 c J1 K (AV.norms h.length h lv) (cJ h.length h) h.length (AV.norm h.length h t0) (AV.norm h.length h t1) (AV.norm h.length h t2) (AV.norm h.length h t3))
 (fun t9 h => K (.ret t9) h)
theorem cR.eq (F : List (FuncId × aE)) (S : List (FuncId × Con)) (t0 t1 t2 : AV) (h : List AObj) (K : AOut → List AObj → Prop) : funW (ctx F S cR.loops) Tryz.f21 [t0, t1, t2] h K = cR.H (ctx F S cR.loops) t0 t1 t2 h K := by kernel_rfl
theorem cF.eq (F : List (FuncId × aE)) (S : List (FuncId × Con)) (t0 t1 t2 t3 : AV) (h : List AObj) (K : AOut → List AObj → Prop) : funW (ctx F S cF.loops) Tryz.f30 [t0, t1, t2, t3] h K = cF.H (ctx F S cF.loops) t0 t1 t2 t3 h K := by kernel_rfl
theorem cR.at : Tryz.prog.funcs[21]? = some Tryz.f21 := by kernel_rfl
theorem cR.nm : (Tryz.f21.name == "runtime.NumGoroutine") = false := by kernel_rfl
theorem cR.bd : Tryz.f21.body.isNone = false := by kernel_rfl
theorem cF.at : Tryz.prog.funcs[30]? = some Tryz.f30 := by kernel_rfl
theorem cF.nm : (Tryz.f30.name == "runtime.NumGoroutine") = false := by kernel_rfl
theorem cF.bd : Tryz.f30.body.isNone = false := by kernel_rfl
end Lam
namespace Lam
open Go Go.Proofs
def cR.C : aE
 | [.str k, .str lo, .str hi] => some (false, pD True (.bool (!ltB k lo && (decide (hi = []) || ltB k hi))))
 | _ => none
theorem cR.spec : bI Tryz.prog 21 cR.C := by
 refine bI.of (bR (F := []) (S := []) (by simp) (by simp) cR.loops) cR.at cR.nm cR.bd ?_
 intro vs b S v news e hS
 unfold cR.C at e
 split at e
 rotate_left
 · cases e
 cases e
 rw [cR.eq]
 unfold cR.H
 simp (maxSteps := 4000000) only [go_sem, reduceEqDiff, Nat.reduceLT, reduceAdd, reduceSub, reduceLeDiff, reduceReplicate, reduceToNat]
 rename_i k lo hi
 exact aG rfl rfl
def cF.C : aE
 | [.sl _ (.pairs l), .str lo, .str hi, .int .i64 limit] => some (false, pD (l.length ≤ 1000) (.sl false (.pairs (nJ l lo hi limit))))
 | _ => none
theorem cF.spec : bI Tryz.prog 30 cF.C := by
 refine bI.of (bR (F := [(21, cR.C)]) (S := []) (by simpa using cR.spec) (by simp) cF.loops) cF.at cF.nm cF.bd ?_
 intro vs b S v news e hS
 unfold cF.C at e
 split at e
 rotate_left
 · cases e
 cases e
 rw [cF.eq]
 unfold cF.H
 simp (maxSteps := 4000000) only [go_sem, reduceEqDiff, Nat.reduceLT, reduceAdd, reduceSub, reduceLeDiff, reduceReplicate, reduceToNat, cR.C]
 rename_i l lo hi limit
 rw [aA]
 unfold cF.L1
 refine oL (σ := Nat × Nat) (fun s => .sref false 0 s.2 0 (((l.take s.1).filter (inR lo hi)).take limit.toNat).length) (fun s => .int .i64 s.1) (fun s => [.row .own s.2 (.pairs (((l.take s.1).filter (inR lo hi)).take limit.toNat))]) (fun s => l.length - s.1) (fun s => s.1 ≤ l.length) (0, 0) (by simp) (by simp) (Nat.zero_le _) ?_
 rintro I back ⟨k, v⟩ hk
 simp only at hk ⊢
 by_cases hkl : k < l.length
 · have hb : ∀ v2 n lv1 lv h, _ := fun v2 n lv1 lv h => @back n (lv1 :: lv) h (k + 1, v2)
   clear back
   have d1 : decide ((k : Int) < (l.length : Int)) = true := decide_eq_true (by omega)
   have hlen : (((l.take k).filter (inR lo hi)).take limit.toNat).length ≤ 1000 := by
     rw [List.length_take]
     have := List.length_filter_le (inR lo hi) (l.take k)
     rw [List.length_take] at this
     omega
   have hnx : (l.take (k + 1)).filter (inR lo hi) = (l.take k).filter (inR lo hi) ++ if inR lo hi (l.getD k ⟨[], []⟩) = true then [l.getD k ⟨[], []⟩] else [] := by
     rw [gQ l k ⟨[], []⟩ hkl, List.filter_append, List.filter_cons, List.filter_nil]
   have hin : inR lo hi (l.getD k ⟨[], []⟩) = (!ltB (l.getD k ⟨[], []⟩).key lo && (decide (hi = []) || ltB (l.getD k ⟨[], []⟩).key hi)) := rfl
   have hstep : ((l.take (k + 1)).filter (inR lo hi)).take limit.toNat = if (inR lo hi (l.getD k ⟨[], []⟩) && decide (((((l.take k).filter (inR lo hi)).take limit.toNat).length : Int) < limit)) = true then ((l.take k).filter (inR lo hi)).take limit.toNat ++ [l.getD k ⟨[], []⟩] else ((l.take k).filter (inR lo hi)).take limit.toNat := by
     rw [hnx]
     generalize (l.take k).filter (inR lo hi) = F
     cases hx : inR lo hi (l.getD k ⟨[], []⟩) with
     | false =>
       rw [if_neg (by decide), List.append_nil, Bool.false_and, if_neg (by decide)]
     | true =>
       rw [if_pos rfl, Bool.true_and]
       by_cases hc : ((F.take limit.toNat).length : Int) < limit
       · rw [if_pos (decide_eq_true hc)]
         rw [List.length_take] at hc
         have h1 : F.length < limit.toNat := by omega
         rw [List.take_of_length_le (l := F ++ [l.getD k ⟨[], []⟩]) (by rw [List.length_append, List.length_singleton]; omega), List.take_of_length_le (l := F) (by omega)]
       · rw [if_neg (by rw [decide_eq_false hc]; decide)]
         rw [List.length_take] at hc
         rw [List.take_append_of_le_length (by omega)]
   rw [hin] at hstep
   simp only [hstep] at hb
   clear hstep hnx hin
   generalize ((l.take k).filter (inR lo hi)).take limit.toNat = O at *
   have hro : roomy (O ++ [l.getD k ⟨[], []⟩]).length := by
     unfold roomy; rw [List.length_append, List.length_singleton]; omega
   simp only [cR.C, d1, Int.toNat_natCast, aA, eH (show k < 4611686018427387904 by omega), aA, gq, reduceEq, reduceLT, reduceLE, implies_true, reduceCtorEq, if_true, if_false, go_sem, reduceEqDiff, Nat.reduceLT, reduceAdd, reduceSub, reduceLeDiff, reduceReplicate, reduceToNat]
   refine ⟨⟨by omega, by omega⟩, ?_⟩
   have het : (⟨(l.getD k ⟨[], []⟩).key, (l.getD k ⟨[], []⟩).val⟩ : iY) = l.getD k ⟨[], []⟩ := rfl
   rw [het]
   generalize (!ltB (l.getD k ⟨[], []⟩).key lo && (decide (hi = []) || ltB (l.getD k ⟨[], []⟩).key hi)) = c at *
   cases c with
   | false =>
     simp only [Bool.false_and, Bool.false_eq_true, if_false] at hb
     simp only [zB]
     exact hb v _ _ _ _ (by omega) rfl rfl (by omega)
   | true =>
     simp only [sR]
     refine ⟨fun hc => ⟨⟨by omega, by omega⟩, hro, ?_⟩, fun hc => ?_⟩
     · simp only [Bool.true_and, decide_eq_true hc, if_true] at hb
       exact hb (v + 1) _ _ _ _ (by omega) rfl rfl (by omega)
     · simp only [Bool.true_and, decide_eq_false hc, Bool.false_eq_true, if_false] at hb
       exact hb v _ _ _ _ (by omega) rfl rfl (by omega)
 · obtain rfl : k = l.length := by omega
   have d1 : decide ((l.length : Int) < (l.length : Int)) = false := decide_eq_false (by omega)
   clear back
   rw [List.take_length]
   simp only [d1, aA, aA, gq, reduceEq, reduceLT, reduceLE, implies_true, reduceCtorEq, if_true, if_false, go_sem, reduceEqDiff, Nat.reduceLT, reduceAdd, reduceSub, reduceLeDiff, reduceReplicate, reduceToNat]
   refine aG ?_ rfl
   unfold nJ
   simp only [go_sem, reduceEqDiff, Nat.reduceLT, reduceAdd, reduceSub, reduceLeDiff, reduceReplicate, reduceToNat]
end Lam
namespace Lam
open Go Go.Proofs
theorem aFm {w : List Int} (hw : w.length ≤ 1000) (hi : i64s w) (s : Sc) (h : FewC s) : (mB w w [] ∧ iE w ∧ s.seek.refs.length ≤ 200 ∧ s.out.length ≤ 1000) ∧ nY ⟨w, w, []⟩ s = (⟨w, w, []⟩, gX w s) :=
 ⟨⟨⟨by unfold roomy; omega, by unfold roomy; omega, by unfold roomy; decide⟩, ⟨by omega, hi⟩, Nat.le_trans h.1.1 (by decide), Nat.le_trans h.2.2 (by decide)⟩, aHV w s⟩
end Lam
namespace Lam
open Go Go.Proofs
def cC.loops : Nat → bX
 | 4 => ⟨[11], [false], [7, 9], [(3, none), (3, some [26, 29])], [], []⟩
 | _ => ⟨[], [], [], [], [], []⟩
def cC.L1 (c : Ctx) (J1 : AV → List AObj → Prop) (K : AOut → List AObj → Prop) (lv : List AV) (h0 : List AObj) (n0 : Nat) (c7 : AV) (c9 : AV) : Prop :=
 ∃ I : Nat → List AV → List AObj → Prop, (∃ n, I n lv h0) ∧ ∀ n h, ∀ t11, I n [t11] h →
 runD (binD aB .lss t11 (.int .i64 2000)) h fun t25 h =>
 aJ (fun (J2 : AV → AV → List AObj → Prop) =>
 aT t25 true
 (runD (aC aI c7 3) h fun t27 h =>
 runD (fitD aB (aD h t27)) h fun t28 h =>
 runD (binD aB .neq t28 (.int .i64 8)) h fun t29 h =>
 J2 (.bool true) t29 h)
 (J2 (.bool false) .und h))
 (fun t26 t29 h => runD (bK t26 t29 (.bool false)) h fun t30 h =>
 aW t30
 (runD (fitD aN (aD h c9)) h fun t34 h =>
 runD (fitD aI (aD h c7)) h fun t35 h =>
 aQ false c (.fn (.func 19) [] []) [t34, t35] h (fun t36 h =>
 runD (aV t36 0) h fun t37 h =>
 runD (aV t36 1) h fun t38 h =>
 runH (aO aN h c9 t37) h fun _ h =>
 runH (aO aI h c7 t38) h fun _ h =>
 runD (binD aB .add t11 (.int .i64 1)) h fun t32 h =>
 (∃ m, m < n ∧ I m (AV.norms n0 h [t32]) (cJ n0 h)) ∧ AV.norms n0 h [c7, c9] = [c7, c9])
 (fun v h => K (.pan v) h))
 (J1 c7 h))
def cC.H (c : Ctx) (t0 : AV) (t1 : AV) (t2 : AV) (h : List AObj) (K : AOut → List AObj → Prop) : Prop :=
 aQ false c (.fn (.func 18) [] []) [t0, t1, t2, (.int .i64 100)] h (fun t16 h =>
 runD (aV t16 0) h fun t17 h =>
 runD (aV t16 1) h fun t18 h =>
 cP aI h fun t7 h =>
 runH (aO aI h t7 t17) h fun _ h =>
 aQ false c (.fn (.func 28) [] []) [t0] h (fun t21 h =>
 runD (aV t21 0) h fun t22 h =>
 runD (aV t21 1) h fun t23 h =>
 cP aN h fun t9 h =>
 runH (aO aN h t9 t22) h fun _ h =>
 aJ (fun (J1 : AV → List AObj → Prop) =>
 dC [false] [(.int .i64 0)] h fun lv h => cC.L1 c J1 K (AV.norms h.length h lv) (cJ h.length h) h.length (AV.norm h.length h t7) (AV.norm h.length h t9))
 (fun t7 h => runD (aC aI t7 8) h fun t39 h =>
 runD (fitD bW (aD h t39)) h fun t40 h =>
 K (.ret t40) h))
 (fun v h => K (.pan v) h))
 (fun v h => K (.pan v) h)
theorem cC.eq (F : List (FuncId × aE)) (S : List (FuncId × Con)) (t0 t1 t2 : AV) (h : List AObj) (K : AOut → List AObj → Prop) : funW (ctx F S cC.loops) Tryz.f31 [t0, t1, t2] h K = cC.H (ctx F S cC.loops) t0 t1 t2 h K := by kernel_rfl
theorem cC.at : Tryz.prog.funcs[31]? = some Tryz.f31 := by kernel_rfl
theorem cC.nm : (Tryz.f31.name == "runtime.NumGoroutine") = false := by kernel_rfl
theorem cC.bd : Tryz.f31.body.isNone = false := by kernel_rfl
end Lam
namespace Lam
open Go Go.Proofs
def pT (w : List Int) (lo hi : aY) : List iY := (seqC w (sc0 w lo hi 100) 2000).out
theorem wB {w l : List Int} {lo hi : aY} (hw : w.length ≤ 1000) (h : iF (eA w) w = some l) (hl : sB w lo ≠ 0) : pT w lo hi = nJ (allP w l) lo hi 100 := by
 have hll := (lU (nZ h).1).2.2.2.1
 exact (aDO h (by omega) (aDM h hl) (by decide) 2000 (by omega)).2
theorem wV (w : List Int) (lo hi : aY) : (pT w lo hi).length ≤ 100 := (zM (aEk w lo hi (by decide)) 2000).2.2
def cC.C : aE
 | [.sl _ (.ints .i64 w), .str lo, .str hi] => some (false, pD (w.length ≤ 1000 ∧ w.length % 16 = 0 ∧ i64s w ∧ lo.length ≤ 21 ∧ hi.length ≤ 21) (.sl false (.pairs (pT w lo hi))))
 | _ => none
theorem cC.spec : bI Tryz.prog 31 cC.C := by
 refine bI.of (bR (F := [(18, eE.C), (28, fV.C), (19, eK.C)]) (S := []) (by simpa using ⟨eE.spec, fV.spec, eK.spec⟩) (by simp) cC.loops) cC.at cC.nm cC.bd ?_
 intro vs b S v news e hS
 unfold cC.C at e
 split at e
 rotate_left
 · cases e
 cases e
 rw [cC.eq]
 unfold cC.H
 simp (maxSteps := 4000000) only [go_sem, reduceEqDiff, Nat.reduceLT, reduceAdd, reduceSub, reduceLeDiff, reduceReplicate, reduceToNat, eE.C, fV.C, eK.C]
 rename_i w lo hi
 obtain ⟨hw, h16, hi64, hl1, hl2⟩ := hS
 have hr : roomy w.length := by unfold roomy; omega
 have hbg : jW w lo hi 100 = .tup [(sc0 w lo hi 100).V, .int .i64 0] := by unfold jW; rw [if_neg (by omega), if_neg (by decide)]
 have hfew := aEk w lo hi (limit := 100) (by decide)
 have hst : ∀ k, _ := fun k => aFm hw hi64 _ (zM (w := w) hfew k)
 have hnx : ∀ k, gX w (seqC w (sc0 w lo hi 100) k) = seqC w (sc0 w lo hi 100) (k + 1) := fun _ => rfl
 unfold pT
 obtain ⟨N, hN⟩ : ∃ N : Nat, N = 2000 := ⟨_, rfl⟩
 rw [← hN]
 have hend : ∀ k, k ≤ N → (seqC w (sc0 w lo hi 100) k).phase = 8 → seqC w (sc0 w lo hi 100) N = seqC w (sc0 w lo hi 100) k := fun k hk h => zL h hk
 have h0 : seqC w (sc0 w lo hi 100) 0 = sc0 w lo hi 100 := rfl
 have hnm := aIA hw h16
 generalize seqC w (sc0 w lo hi 100) = f at *
 obtain ⟨Z, hZ⟩ : ∃ Z, f N = Z := ⟨_, rfl⟩
 rw [hZ] at hend ⊢
 generalize sc0 w lo hi 100 = r0 at *
 clear hfew
 obtain ⟨z1, z2, z3, z4, z5, z6, ⟨v1, v2, v3, v4, v5⟩, z7, z8⟩ := Z
 simp only [hbg, hnm, memV, aA, gq, reduceEq, reduceLT, reduceLE, implies_true, reduceCtorEq, if_true, if_false, go_sem, reduceEqDiff, Nat.reduceLT, reduceAdd, reduceSub, reduceLeDiff, reduceReplicate, reduceToNat]
 obtain ⟨r1, r2, r3, r4, r5, r6, ⟨s1, s2, s3, s4, s5⟩, r7, r8⟩ := r0
 simp only [Sc.V, Sk.V, aA, gq, reduceEq, reduceLT, reduceLE, implies_true, reduceCtorEq, if_true, if_false, go_sem, reduceEqDiff, Nat.reduceLT, reduceAdd, reduceSub, reduceLeDiff, reduceReplicate, reduceToNat]
 refine ⟨hr, hr, ?_⟩
 unfold cC.L1
 refine kV (σ := Nat) (fun k => .int .i64 k) (fun k => [.box (f k).V, .box (memV w w [])]) (fun k => N - k) (fun k => k ≤ N) 0 rfl (by rw [h0]; rfl) (Nat.zero_le _) ?_
 intro I back k hk
 simp only
 obtain ⟨hst, hsv⟩ := hst k
 have hb : k < N → _ := fun h => @back (N - k) _ _ (k + 1) (by omega) rfl rfl (by omega)
 have hend := hend k hk
 rw [hnx] at hsv
 clear back hnx
 by_cases hkN : k < N
 · have d1 : decide ((k : Int) < 2000) = true := decide_eq_true (by omega)
   generalize f (k + 1) = y at *
   generalize f k = x at *
   obtain ⟨x1, x2, x3, x4, x5, x6, ⟨y1, y2, y3, y4, y5⟩, x7, x8⟩ := x
   simp only at hst hend
   by_cases h8 : x4 = 8
   · subst h8
     have hend := hend rfl
     clear hb hst hsv
     simp only [Sc.mk.injEq, Sk.mk.injEq] at hend
     obtain ⟨rfl, rfl, rfl, rfl, rfl, rfl, ⟨rfl, rfl, rfl, rfl, rfl⟩, rfl, rfl⟩ := hend
     simp only [Sc.V, Sk.V, memV, d1, decide_false, decide_true, aA, aA, gq, reduceEq, reduceLT, reduceLE, implies_true, reduceCtorEq, if_true, if_false, go_sem, reduceEqDiff, Nat.reduceLT, reduceAdd, reduceSub, reduceLeDiff, reduceReplicate, reduceToNat]
     exact aG rfl rfl
   · have hb := hb hkN
     obtain ⟨a1, a2, a3, a4, a5, a6, ⟨b1, b2, b3, b4, b5⟩, a7, a8⟩ := y
     simp only [eK.C, hsv, Mm.V, Sc.V, Sk.V, memV, d1, h8, eH (show k < 4611686018427387904 by omega), decide_false, decide_true, aA, aA, gq, reduceEq, reduceLT, reduceLE, implies_true, reduceCtorEq, if_true, if_false, go_sem, reduceEqDiff, Nat.reduceLT, reduceAdd, reduceSub, reduceLeDiff, reduceReplicate, reduceToNat] at hb ⊢
     exact ⟨hst, hb⟩
 · obtain rfl : k = N := by omega
   have d1 : decide ((k : Int) < 2000) = false := decide_eq_false (by omega)
   clear hb hend hst hsv
   rw [hZ]
   simp only [Sc.V, Sk.V, memV, d1, decide_false, decide_true, aA, aA, gq, reduceEq, reduceLT, reduceLE, implies_true, reduceCtorEq, if_true, if_false, go_sem, reduceEqDiff, Nat.reduceLT, reduceAdd, reduceSub, reduceLeDiff, reduceReplicate, reduceToNat]
   exact aG rfl rfl
/-! ### Ranges -/
theorem xG {L : List iY} (h : L.length ≤ 100) (lo hi : aY) : nJ L lo hi 100 = L.filter (inR lo hi) := by
 unfold nJ
 have := List.length_filter_le (inR lo hi) L
 exact List.take_of_length_le (by show _ ≤ 100; omega)
theorem aLv {L : List iY} (h : L.length ≤ 100) : nJ L [] [] 100 = L := by
 rw [xG h, List.filter_eq_self]
 intro x _
 unfold inR
 rw [aIw]; rfl
theorem aJQ {w l : List Int} (h : iF (eA w) w = some l) : (allP w l).Pairwise (fun a b => ltB a.key b.key = true) := by
 unfold allP
 rw [List.pairwise_flatMap]
 refine ⟨fun b hb => ?_, ?_⟩
 · obtain ⟨i, hi, rfl⟩ := List.getElem_of_mem hb
   have e : l[i] = l.getD i 0 := by rw [List.getD_eq_getElem?_getD, List.getElem?_eq_getElem hi]; rfl
   rw [e]
   obtain ⟨hz, n, hn, hlev, hnx, hlow, hsl, _, _⟩ := mC h hi
   have hnz : mV w (l.getD i 0) = n := by unfold mV; rw [hn]; rfl
   unfold ownP ownL
   rw [hnz, List.pairwise_map]
   have h1 := (uW hsl).1
   have h2 : ((plain n.slots).map (recZ w)).Pairwise (fun a b => ltB a.key b.key = true) := by
     rw [List.pairwise_map] at h1 ⊢
     exact h1
   exact h2.sublist (List.takeWhile_sublist _)
 · rw [List.pairwise_iff_getElem]
   intro i j hi hj hij x hx y hy
   have ei : l[i] = l.getD i 0 := by rw [List.getD_eq_getElem?_getD, List.getElem?_eq_getElem hi]; rfl
   have ej : l[j] = l.getD j 0 := by rw [List.getD_eq_getElem?_getD, List.getElem?_eq_getElem hj]; rfl
   rw [ei] at hx
   rw [ej] at hy
   have h1 := aCw h (show i + 1 ≤ j by omega) hj ((tV h hi hx).2 (by omega))
   have h2 := (tV h hj hy).1
   rcases yA x.key y.key with e | e | e
   · exact e
   · rw [e, h2] at h1; cases h1
   · have := jG e h1; rw [h2] at this; cases this
theorem aBR {a b c : aY} (hab : ltB b a = false) (hbc : ltB c b = false) (hb : b ≠ []) : ∀ {L : List iY}, L.Pairwise (fun x y => ltB x.key y.key = true) → L.filter (inR a b) ++ L.filter (inR b c) = L.filter (inR a c)
 | [], _ => rfl
 | x :: r, h => by
   rw [List.pairwise_cons] at h
   have ih := aBR hab hbc hb h.2
   have hc : c ≠ [] := fun e => by
     rw [e] at hbc
     cases b with
     | nil => exact hb rfl
     | cons p q => cases hbc
   cases hxb : ltB x.key b with
   | true =>
     have h2 : inR b c x = false := by unfold inR; rw [hxb]; rfl
     have h1 : inR a b x = inR a c x := by
       unfold inR
       rw [decide_eq_false hb, decide_eq_false hc, hxb]
       have : ltB x.key c = true := by
         cases e : ltB x.key c with
         | true => rfl
         | false =>
           exfalso
           have h4 := lV (a := b) (b := c) (c := x.key) hbc e
           unfold leB at h4
           rw [hxb] at h4; cases h4
       rw [this]
     simp only [List.filter_cons, h2, h1]
     cases inR a c x with
     | true => simp only [if_true, List.cons_append]; rw [← ih]; rfl
     | false => simpa using ih
   | false =>
     have hnone : (x :: r).filter (inR a b) = [] := by
       rw [List.filter_eq_nil_iff]
       intro y hy
       have hyb : ltB y.key b = false := by
         rcases List.mem_cons.1 hy with rfl | hy
         · exact hxb
         · cases e : ltB y.key b with
           | false => rfl
           | true => have := jG (h.1 y hy) e; rw [hxb] at this; cases this
       unfold inR
       rw [hyb, decide_eq_false hb]; simp
     rw [hnone, List.nil_append]
     refine List.filter_congr fun y hy => ?_
     have hyb : ltB y.key b = false := by
       rcases List.mem_cons.1 hy with rfl | hy
       · exact hxb
       · cases e : ltB y.key b with
         | false => rfl
         | true => have := jG (h.1 y hy) e; rw [hxb] at this; cases this
     have hya : ltB y.key a = false := lV (a := a) (b := b) (c := y.key) hab hyb
     unfold inR
     rw [hyb, hya]
end Lam
