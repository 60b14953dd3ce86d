/- What functions of the program come to, each proved from its code. -/
import Derived.Test.YtmbmfnmjjelmkabGreatLm4
set_option linter.unusedVariables false
set_option linter.unusedSimpArgs false
set_option linter.unnecessarySimpa false
set_option linter.unusedSectionVars false
open Nat (reduceEqDiff reduceAdd reduceSub reduceLeDiff)
open Int (reduceToNat reduceEq reduceLE reduceLT)
open List (reduceReplicate)
set_option maxRecDepth 20000
namespace Lam
open Go Go.Proofs
def gR.C : aE
 | [.agg [.int .i64 k, .int .i64 a, .int .i64 w], .int .i64 n] => some (false, pD True (.bool (mmay ⟨k, a, w⟩ n)))
 | _ => none
theorem gR.spec : bI Tryz.prog 138 gR.C := by
 refine bI.of (bR (F := []) (S := []) (by simp) (by simp) gR.loops) gR.at gR.nm gR.bd ?_
 intro vs b S v news e hS
 unfold gR.C at e
 split at e
 rotate_left
 · cases e
 cases e
 rw [gR.eq]
 unfold gR.H
 simp (maxSteps := 4000000) only [go_sem, reduceEqDiff, Nat.reduceLT, reduceAdd, reduceSub, reduceLeDiff, reduceReplicate, reduceToNat]
 refine ⟨by decide, ?_⟩
 exact aG rfl rfl
def dN.K : Con := fun args h K => match args with
 | [a0, a1] => dN.H (ctx [(138, gR.C)] [] dN.loops) a0 a1 h K
 | _ => False
theorem dN.spec : dH Tryz.prog 137 dN.K := by
 refine dH.of (bR (F := [(138, gR.C)]) (S := []) (by simpa using gR.spec) (by simp) dN.loops) dN.at dN.nm dN.bd ?_
 intro args h K hC
 unfold dN.K at hC
 split at hC
 · rw [dN.eq]; exact hC
 · exact hC.elim
def aP.K : Con := fun args h K => match args with
 | [a0, a1] => aP.H (ctx [] [(137, dN.K)] aP.loops) a0 a1 h K
 | _ => False
theorem aP.spec : dH Tryz.prog 147 aP.K := by
 refine dH.of (bR (F := []) (S := [(137, dN.K)]) (by simp) (by simpa using dN.spec) aP.loops) aP.at aP.nm aP.bd ?_
 intro args h K hC
 unfold aP.K at hC
 split at hC
 · rw [aP.eq]; exact hC
 · exact hC.elim
def aS.K : Con := fun args h K => match args with
 | [a0, a1] => aS.H (ctx [] [(147, aP.K)] aS.loops) a0 a1 h K
 | _ => False
theorem aS.spec : dH Tryz.prog 136 aS.K := by
 refine dH.of (bR (F := []) (S := [(147, aP.K)]) (by simp) (by simpa using aP.spec) aS.loops) aS.at aS.nm aS.bd ?_
 intro args h K hC
 unfold aS.K at hC
 split at hC
 · rw [aS.eq]; exact hC
 · exact hC.elim

theorem aCo (x : Mic) (n : Int) (h : List AObj) (K : AOut → List AObj → Prop) (id : Nat) (hid : h[id]? = some (.box (.int .i64 n)))
   (hK : K (.ret (.bool (!mmay x n))) (h ++ [.box (aJR x)])) : dN.K [.agg [.int .i64 x.kind, .int .i64 x.at_, .int .i64 x.val], .ptr id []] h K := by
 have hlt : id < h.length := (List.getElem?_eq_some_iff.1 hid).1
 have hid' : ∀ r, (h ++ r)[id]? = some (.box (.int .i64 n)) := fun r => by rw [List.getElem?_append_left hlt]; exact hid
 have hlen : ∀ o r, (h ++ o :: r)[h.length]? = some o := fun o r => by simp
 unfold dN.K
 simp only
 unfold dN.H
 simp only [go_sem, reduceEqDiff, Nat.reduceLT, reduceAdd, reduceSub, reduceLeDiff, reduceReplicate, reduceToNat, hid', hlen, gR.C]
 exact hK

theorem aMd (l : List Mic) (n : Int) (K : AOut → List AObj → Prop) (x : Bool) (hr : roomy l.length) (h : List AObj) (hh : h = [.box (.int .i64 n)])
   (hK : ∀ r h', (r = -1 ∧ (∀ y ∈ l, mmay y n = true)) ∨ (0 ≤ r ∧ ∃ y ∈ l, mmay y n = false) → K (.ret (.int .i64 r)) h') :
   aP.K [.sl x (.mics l), .fn (.func 137) [] [.ptr 0 []]] h K := by
 unfold roomy at hr
 unfold aP.K
 simp only
 unfold aP.H
 subst hh
 simp only [go_sem, reduceEqDiff, Nat.reduceLT, reduceAdd, reduceSub, reduceLeDiff, reduceReplicate, reduceToNat, aA]
 unfold aP.L1
 refine ⟨fun m lv h' => ∃ k : Nat, k + m = l.length ∧ lv = [.int .i64 k] ∧ h' = [.box (.int .i64 n)] ∧ ∀ y ∈ l.take k, mmay y n = true, ⟨l.length, 0, by omega, rfl, rfl, by simp⟩, ?_⟩
 rintro m h' t8 ⟨k, hk, hlv, rfl, hall⟩
 simp only [List.cons.injEq, and_true] at hlv
 subst hlv
 simp only [go_sem, reduceEqDiff, Nat.reduceLT, reduceAdd, reduceSub, reduceLeDiff, reduceReplicate, reduceToNat]
 refine ⟨fun hlt => ⟨by omega, ?_⟩, fun hge => ?_⟩
 · have hkl : k < l.length := by omega
   apply aCo _ n _ _ 0 rfl
   simp only [go_sem, reduceEqDiff, Nat.reduceLT, reduceAdd, reduceSub, reduceLeDiff, reduceReplicate, reduceToNat]
   refine ⟨fun h => hK _ _ (.inr ⟨by omega, _, lK l k _ hkl, by simpa using h⟩), fun h => ?_⟩
   refine ⟨m - 1, by omega, k + 1, by omega, by rw [w64 (by omega) (by omega)]; rfl, ?_⟩
   intro y hy
   rw [gQ l k ⟨0, 0, 0⟩ hkl] at hy
   rcases List.mem_append.1 hy with hy | hy
   · exact hall y hy
   · rw [List.mem_singleton.1 hy]; simpa using h
 · have : k = l.length := by omega
   subst this
   rw [List.take_length] at hall
   exact hK _ _ (.inl ⟨rfl, hall⟩)

theorem aHQ (l : List Mic) (n : Int) (K : AOut → List AObj → Prop) (x : Bool) (hr : roomy l.length) (h : List AObj) (hh : h = [.box (.int .i64 n)])
   (hK : ∀ h', K (.ret (.bool (!l.all (mmay · n)))) h') :
   aS.K [.sl x (.mics l), .fn (.func 137) [] [.ptr 0 []]] h K := by
 unfold aS.K
 simp only
 unfold aS.H
 subst hh
 simp only [go_sem, reduceEqDiff, Nat.reduceLT, reduceAdd, reduceSub, reduceLeDiff, reduceReplicate, reduceToNat]
 apply aMd l n _ x hr _ rfl
 intro r h' hcase
 simp only [go_sem, reduceEqDiff, Nat.reduceLT, reduceAdd, reduceSub, reduceLeDiff, reduceReplicate, reduceToNat]
 have : decide (0 ≤ r) = !l.all (mmay · n) := by
   rcases hcase with ⟨rfl, h⟩ | ⟨h0, y, hy, h⟩
   · have : l.all (mmay · n) = true := List.all_eq_true.2 h
     rw [this]; rfl
   · have : l.all (mmay · n) = false := by
       rw [List.all_eq_false]; exact ⟨y, hy, by simp [h]⟩
     rw [this]; simpa using h0
 rw [this]; exact hK h'

def fP.C : aE
 | [.sl _ (.mics l), .int .i64 n] => some (false, pD (roomy l.length) (.bool (aAE n && l.all (mmay · n))))
 | _ => none
theorem fP.spec : bI Tryz.prog 123 fP.C := by
 refine bI.of (bR (F := []) (S := [(136, aS.K)]) (by simp) (by simpa using aS.spec) fP.loops) fP.at fP.nm fP.bd ?_
 intro vs b S v news e hS
 unfold fP.C at e
 split at e
 rotate_left
 · cases e
 cases e
 rw [fP.eq]
 unfold fP.H
 simp (maxSteps := 4000000) only [go_sem, reduceEqDiff, Nat.reduceLT, reduceAdd, reduceSub, reduceLeDiff, reduceReplicate, reduceToNat]
 refine ⟨by simp, ?_⟩
 rw [aA]
 simp only [oH]
 refine ⟨fun hs => ?_, fun hs => ?_⟩
 · apply aHQ _ _ _ _ hS _ rfl
   intro h'
   simp only [go_sem, reduceEqDiff, Nat.reduceLT, reduceAdd, reduceSub, reduceLeDiff, reduceReplicate, reduceToNat, Bool.not_not]
   exact aG (by rw [show aAE _ = true from hs, Bool.true_and]; rfl) rfl
 · simp only [go_sem, reduceEqDiff, Nat.reduceLT, reduceAdd, reduceSub, reduceLeDiff, reduceReplicate, reduceToNat]
   exact aG (by rw [show aAE _ = false from hs, Bool.false_and]; rfl) rfl


def cY.K : Con := fun args h K => match args with
 | [a0, a1] => cY.H (ctx [(148, iG.C)] [] cY.loops) a0 a1 h K
 | _ => False
theorem cY.spec : dH Tryz.prog 139 cY.K := by
 refine dH.of (bR (F := [(148, iG.C)]) (S := []) (by simpa using iG.spec) (by simp) cY.loops) cY.at cY.nm cY.bd ?_
 intro args h K hC
 unfold cY.K at hC
 split at hC
 · rw [cY.eq]; exact hC
 · exact hC.elim
def cS.K : Con := fun args h K => match args with
 | [a0, a1] => cS.H (ctx [(149, fX.C), (150, fY.C)] [] cS.loops) a0 a1 h K
 | _ => False
theorem cS.spec : dH Tryz.prog 140 cS.K := by
 refine dH.of (bR (F := [(149, fX.C), (150, fY.C)]) (S := []) (by simpa using ⟨fX.spec, fY.spec⟩) (by simp) cS.loops) cS.at cS.nm cS.bd ?_
 intro args h K hC
 unfold cS.K at hC
 split at hC
 · rw [cS.eq]; exact hC
 · exact hC.elim
def eS.K : Con := fun args h K => match args with
 | [] => eS.H (ctx [] [] eS.loops)  h K
 | _ => False
theorem eS.spec : dH Tryz.prog 124 eS.K := by
 refine dH.of (bR (F := []) (S := []) (by simp) (by simp) eS.loops) eS.at eS.nm eS.bd ?_
 intro args h K hC
 unfold eS.K at hC
 split at hC
 · rw [eS.eq]; exact hC
 · exact hC.elim
def eO.C : aE
 | [.agg [.sl false (.ints .i64 vol), .sl false (.ints .i64 per), .sl false (.pends pend)], .sl _ (.mics l), .int .i64 n] => some (false, pD (Mm.ok ⟨vol, per, pend⟩ ∧ (∀ x ∈ l, MayN x vol.length) ∧ pend.length + l.length ≤ 1000000 ∧ 0 ≤ n ∧ n ≤ (l.length : Int)) (runS ⟨vol, per, pend⟩ (l.take n.toNat)).V)
 | _ => none
theorem eO.spec : bI Tryz.prog 114 eO.C := by
 refine bI.of (bR (F := []) (S := [(124, eS.K), (139, cY.K), (140, cS.K)]) (by simp) (by simpa using ⟨eS.spec, cY.spec, cS.spec⟩) eO.loops) eO.at eO.nm eO.bd ?_
 intro vs b S v news e hS
 unfold eO.C at e
 split at e
 rotate_left
 · cases e
 cases e
 rw [eO.eq]
 unfold eO.H
 simp (maxSteps := 4000000) only [go_sem, reduceEqDiff, Nat.reduceLT, reduceAdd, reduceSub, reduceLeDiff, reduceReplicate, reduceToNat, eS.K, eS.H]
 rename_i vol per pend _ l n
 obtain ⟨ok, hl, hsz, hn0, hn1⟩ := hS
 rw [aA]
 unfold eO.L1
 refine kV (σ := Nat) (fun k => .int .i64 k) (fun k => [.box (memV vol per pend), .box (memV [] [] []), .box (.agg [(runS ⟨vol, per, pend⟩ (l.take k)).V]), .map (.ifn fun j => if j = 2 then some 140 else if j = 1 then some 139 else none)]) (fun k => n.toNat - k) (fun k => k ≤ n.toNat) 0 rfl rfl (Nat.zero_le _) ?_
 intro I back k hk
 have okk := aIm (l.take k) ok fun x hx => hl x ((List.take_sublist _ _).subset hx)
 have lenk := aGA (l.take k) ⟨vol, per, pend⟩
 have pendk := aAG (l.take k) ⟨vol, per, pend⟩
 rw [List.length_take] at pendk
 simp only [] at lenk pendk
 simp only [go_sem, reduceEqDiff, Nat.reduceLT, reduceAdd, reduceSub, reduceLeDiff, reduceReplicate, reduceToNat]
 refine ⟨fun hlt => ?_, fun hge => ?_⟩
 · have hkl : k < l.length := by omega
   have hnx : runS ⟨vol, per, pend⟩ (l.take (k + 1)) = jP (runS ⟨vol, per, pend⟩ (l.take k)) (l.getD k ⟨0, 0, 0⟩) := by
     rw [gQ l k ⟨0, 0, 0⟩ hkl, aHI]; rfl
   have hx := hl _ (lK l k ⟨0, 0, 0⟩ hkl)
   generalize l.getD k ⟨0, 0, 0⟩ = x at *
   generalize runS ⟨vol, per, pend⟩ (l.take k) = m at *
   have hsm : mB m.vol m.per m.pend := OkM.small okk (by omega)
   refine ⟨by omega, ?_⟩
   rcases hx with ⟨hkd, h0, h1⟩ | ⟨hkd, h0, h1, _⟩
   · have hp : mU m.vol m.per m.pend x.at_ = true := aEU.2 ⟨⟨h0, by omega⟩, okk⟩
     have hst : jP m x = store m x.at_ x.val := by unfold jP; rw [if_pos hkd]
     have e : (if x.kind = 2 then some 140 else if x.kind = 1 then some 139 else none : Option Nat) = some 139 := by rw [if_neg (by omega), if_pos hkd]
     simp only [e, cY.K, cY.H, iG.C, aNc hp, go_sem, reduceEqDiff, Nat.reduceLT, reduceAdd, reduceSub, reduceLeDiff, reduceReplicate, reduceToNat]
     refine ⟨by omega, ⟨hsm, by unfold roomy; omega⟩, back (k + 1) (by omega) (by rw [eH (by omega)]) ?_ (by omega)⟩
     rw [hnx, hst]; rfl
   · have hp : mU m.vol m.per m.pend (oY m.vol x.at_) = true := (OkM.first okk h0 (by omega)).2
     have hst : jP m x = vF m x.at_ := by unfold jP; rw [if_neg (by omega)]
     have e : (if x.kind = 2 then some 140 else if x.kind = 1 then some 139 else none : Option Nat) = some 140 := by rw [if_pos hkd]
     have okf := okk.flush x.at_
     simp only [e, cS.K, cS.H, fX.C, aKF hp, aKG, aAD.2 okf, fY.C, go_sem, reduceEqDiff, Nat.reduceLT, reduceAdd, reduceSub, reduceLeDiff, reduceReplicate, reduceToNat]
     refine ⟨by omega, hsm, OkM.small okf (by rw [aJj]; omega), back (k + 1) (by omega) (by rw [eH (by omega)]) ?_ (by omega)⟩
     rw [hnx, hst]; rfl
 · have : k = n.toNat := by omega
   subst this
   refine aG ?_ rfl
   simp only [go_sem, reduceEqDiff, Nat.reduceLT, reduceAdd, reduceSub, reduceLeDiff, reduceReplicate, reduceToNat]

def yG (m : Mm) (l : List Mic) : Bool := m.okB && aKH l m.vol.length
def fO.C : aE
 | [.agg [.sl false (.ints .i64 vol), .sl false (.ints .i64 per), .sl false (.pends pend)], .sl _ (.mics l)] => some (false, pD (mB vol per pend ∧ roomy l.length) (.bool (yG ⟨vol, per, pend⟩ l)))
 | _ => none
theorem fO.spec : bI Tryz.prog 113 fO.C := by
 refine bI.of (bR (F := [(13, dT.C), (123, fP.C)]) (S := []) (by simpa using ⟨dT.spec, fP.spec⟩) (by simp) fO.loops) fO.at fO.nm fO.bd ?_
 intro vs b S v news e hS
 unfold fO.C at e
 split at e
 rotate_left
 · cases e
 cases e
 rw [fO.eq]
 unfold fO.H
 simp (maxSteps := 4000000) only [go_sem, reduceEqDiff, Nat.reduceLT, reduceAdd, reduceSub, reduceLeDiff, reduceReplicate, reduceToNat, dT.C, fP.C]
 exact ⟨hS.1, fun _ => hS.2, aG rfl rfl⟩
theorem aKX {m : Mm} {l : List Mic} : yG m l = true ↔ m.ok ∧ ∀ x ∈ l, MayN x m.vol.length := by
 unfold yG aKH
 rw [Bool.and_eq_true, Bool.and_eq_true, Mm.ok_iff, List.all_eq_true]
 constructor
 · rintro ⟨h1, _, h2⟩
   exact ⟨h1, fun x hx => (aGz h1.sz).1 (h2 x hx)⟩
 · rintro ⟨h1, h2⟩
   have hmd := h1.md
   have hsz := h1.sz
   refine ⟨h1, ?_, fun x hx => (aGz h1.sz).2 (h2 x hx)⟩
   unfold aAE
   simp only [Bool.and_eq_true, decide_eq_true_eq]
   refine ⟨⟨by omega, by omega⟩, ?_⟩
   rw [Int.tmod_eq_emod_of_nonneg (by omega)]; omega
def runV (m : Mm) (l : List Mic) : AV := if yG m l = true then .tup [(runS m l).V, .int .i64 0] else .tup [m.V, .int .i64 40]
def hG.C : aE
 | [.agg [.sl false (.ints .i64 vol), .sl false (.ints .i64 per), .sl false (.pends pend)], .sl _ (.mics l)] => some (false, pD (mB vol per pend ∧ pend.length + l.length ≤ 1000000) (runV ⟨vol, per, pend⟩ l))
 | _ => none
theorem hG.spec : bI Tryz.prog 96 hG.C := by
 refine bI.of (bR (F := [(113, fO.C), (114, eO.C)]) (S := []) (by simpa using ⟨fO.spec, eO.spec⟩) (by simp) hG.loops) hG.at hG.nm hG.bd ?_
 intro vs b S v news e hS
 unfold hG.C at e
 split at e
 rotate_left
 · cases e
 cases e
 rw [hG.eq]
 unfold hG.H
 simp (maxSteps := 4000000) only [go_sem, reduceEqDiff, Nat.reduceLT, reduceAdd, reduceSub, reduceLeDiff, reduceReplicate, reduceToNat, fO.C, eO.C]
 rename_i vol per pend _ l
 obtain ⟨hs, hz⟩ := hS
 refine ⟨⟨hs, by unfold roomy; omega⟩, fun h => ?_, fun h => ?_⟩
 · unfold runV; rw [h]; exact aG rfl rfl
 · obtain ⟨ok, hl⟩ := aKX.1 h
   refine ⟨⟨ok, hl, hz, by omega, by omega⟩, ?_⟩
   unfold runV; simp only [h, if_true]
   refine aG ?_ rfl
   simp only [go_sem, reduceEqDiff, Nat.reduceLT, reduceAdd, reduceSub, reduceLeDiff, reduceReplicate, reduceToNat, Int.toNat_natCast, List.take_length]
def iH.C : aE
 | [.agg [.sl false (.ints .i64 vol), .sl false (.ints .i64 per), .sl false (.pends pend)], .agg [.int .i64 a, .int .i64 b, .int .i64 c]] => some (false, pD (mB vol per pend ∧ pend.length + 1 ≤ 1000000) (runV ⟨vol, per, pend⟩ [⟨a, b, c⟩]))
 | _ => none
theorem iH.spec : bI Tryz.prog 74 iH.C := by
 refine bI.of (bR (F := [(96, hG.C)]) (S := []) (by simpa using hG.spec) (by simp) iH.loops) iH.at iH.nm iH.bd ?_
 intro vs b S v news e hS
 unfold iH.C at e
 split at e
 rotate_left
 · cases e
 cases e
 rw [iH.eq]
 unfold iH.H
 simp (maxSteps := 4000000) only [go_sem, reduceEqDiff, Nat.reduceLT, reduceAdd, reduceSub, reduceLeDiff, reduceReplicate, reduceToNat, hG.C]
 rename_i vol per pend a b c
 unfold runV
 cases h : yG ⟨vol, per, pend⟩ [⟨a, b, c⟩]
 · simp only [aA, gq, reduceEq, reduceLT, reduceLE, implies_true, reduceCtorEq, if_true, if_false, go_sem, reduceEqDiff, Nat.reduceLT, reduceAdd, reduceSub, reduceLeDiff, reduceReplicate, reduceToNat]
   exact ⟨⟨hS.1, by omega⟩, aG rfl rfl⟩
 · simp only [aA, gq, reduceEq, reduceLT, reduceLE, implies_true, reduceCtorEq, if_true, if_false, go_sem, reduceEqDiff, Nat.reduceLT, reduceAdd, reduceSub, reduceLeDiff, reduceReplicate, reduceToNat]
   exact ⟨⟨hS.1, by omega⟩, aG rfl rfl⟩
end Lam
namespace Lam
open Go Go.Proofs
def dU.loops : Nat → bX
 | 6 => ⟨[47], [false], [5, 45, 46], [], [], []⟩
 | _ => ⟨[], [], [], [], [], []⟩
def dU.L1 (c : Ctx) (J1 : List AObj → Prop) (J4 : AV → List AObj → Prop) (K : AOut → List AObj → Prop) (lv : List AV) (h0 : List AObj) (n0 : Nat) (c5 : AV) (c45 : AV) (c46 : AV) : Prop :=
 ∃ I : Nat → List AV → List AObj → Prop, (∃ n, I n lv h0) ∧ ∀ n h, ∀ t47, I n [t47] h →
 runD (binD aB .lss t47 c46) h fun t48 h =>
 aW t48
 (runD (aH aM h c45 t47) h fun t49 h =>
 runD (fitD aB (aD h t49)) h fun t50 h =>
 runD (binD aB .neq t50 (.int .i64 0)) h fun t52 h =>
 aW t52
 (J1 h)
 (runD (binD aB .add t47 (.int .i64 1)) h fun t53 h =>
 (∃ m, m < n ∧ I m (AV.norms n0 h [t53]) (cJ n0 h)) ∧ AV.norms n0 h [c5, c45, c46] = [c5, c45, c46]))
 (J4 c5 h)
def dU.H (c : Ctx) (t0 : AV) (h : List AObj) (K : AOut → List AObj → Prop) : Prop :=
 aJ (fun (J1 : List AObj → Prop) =>
 cP dA h fun t5 h =>
 runD (lenD aM h t0) h fun t9 h =>
 runD (binD aB .lss t9 (.int .i64 32)) h fun t10 h =>
 aW t10
 (J1 h)
 (runD (aH aM h t0 (.int .i64 0)) h fun t12 h =>
 runD (fitD aB (aD h t12)) h fun t13 h =>
 runD (aH aM h t0 (.int .i64 1)) h fun t15 h =>
 runD (fitD aB (aD h t15)) h fun t16 h =>
 runD (aH aM h t0 (.int .i64 2)) h fun t18 h =>
 runD (fitD aB (aD h t18)) h fun t19 h =>
 runD (aH aM h t0 (.int .i64 3)) h fun t21 h =>
 runD (fitD aB (aD h t21)) h fun t22 h =>
 runD (gT dA [(0, t13), (1, t16), (2, t19), (3, t22)]) h fun t23 h =>
 runH (aO dA h t5 t23) h fun _ h =>
 runD (fitD dA (aD h t5)) h fun t24 h =>
 runD (aC dA t5 1) h fun t25 h =>
 runD (fitD aB (aD h t25)) h fun t26 h =>
 runD (aC dA t5 3) h fun t27 h =>
 runD (fitD aB (aD h t27)) h fun t28 h =>
 aQ false c.noS (.fn (.func 65) [] []) [t26, t28] h (fun t29 h =>
 runD (binD dA .neq t24 t29) h fun t30 h =>
 aJ (fun (J2 : AV → AV → List AObj → Prop) =>
 aT t30 false
 (runD (fitD dA (aD h t5)) h fun t32 h =>
 aQ false c.noS (.fn (.func 66) [] []) [t32] h (fun t33 h =>
 runD (unD .not t33) h fun t34 h =>
 J2 (.bool false) t34 h)
 (fun _ _ => False))
 (J2 (.bool true) .und h))
 (fun t31 t34 h => runD (bK t31 (.bool true) t34) h fun t35 h =>
 aJ (fun (J3 : AV → AV → List AObj → Prop) =>
 aT t35 false
 (runD (aC dA t5 1) h fun t37 h =>
 runD (fitD aB (aD h t37)) h fun t38 h =>
 runD (lenD aM h t0) h fun t40 h =>
 runD (binD aB .quo t40 (.int .i64 16)) h fun t41 h =>
 runD (binD aB .neq t38 t41) h fun t42 h =>
 J3 (.bool false) t42 h)
 (J3 (.bool true) .und h))
 (fun t36 t42 h => runD (bK t36 (.bool true) t42) h fun t43 h =>
 aW t43
 (J1 h)
 (runD (dX aM h t0 (some (.int .i64 4)) (some (.int .i64 16)) none) h fun t45 h =>
 runD (lenD aM h t45) h fun t46 h =>
 aJ (fun (J4 : AV → List AObj → Prop) =>
 dC [false] [(.int .i64 0)] h fun lv h => dU.L1 c J1 J4 K (AV.norms h.length h lv) (cJ h.length h) h.length (AV.norm h.length h t5) (AV.norm h.length h t45) (AV.norm h.length h t46))
 (fun t5 h => runD (aC dA t5 1) h fun t54 h =>
 runD (fitD aB (aD h t54)) h fun t55 h =>
 runD (aC dA t5 3) h fun t56 h =>
 runD (fitD aB (aD h t56)) h fun t57 h =>
 K (.ret (.tup [t55, t57, (.int .i64 0)])) h)))))
 (fun _ _ => False)))
 (fun h => K (.ret (.tup [(.int .i64 0), (.int .i64 0), (.int .i64 80)])) h)
def fQ.loops : Nat → bX
 | _ => ⟨[], [], [], [], [], []⟩
def fQ.H (c : Ctx) (t0 : AV) (t1 : AV) (h : List AObj) (K : AOut → List AObj → Prop) : Prop :=
 aQ false c (.fn (.func 65) [] []) [t0, t1] h (fun t10 h =>
 cP dA h fun t6 h =>
 runH (aO dA h t6 t10) h fun _ h =>
 runD (fitD dA (aD h t6)) h fun t11 h =>
 aQ false c (.fn (.func 66) [] []) [t11] h (fun t12 h =>
 runD (unD .not t12) h fun t13 h =>
 aW t13
 (K (.ret (.tup [(.sl true (.ints .i64 [])), (.int .i64 1)])) h)
 (runD (kC aM (.int .i64 16) (.int .i64 16) h.length) h fun t14 h =>
 runD (aC dA t6 0) h fun t16 h =>
 runD (fitD aB (aD h t16)) h fun t17 h =>
 runD (aC dA t6 1) h fun t18 h =>
 runD (fitD aB (aD h t18)) h fun t19 h =>
 runD (aC dA t6 2) h fun t20 h =>
 runD (fitD aB (aD h t20)) h fun t21 h =>
 runD (aC dA t6 3) h fun t22 h =>
 runD (fitD aB (aD h t22)) h fun t23 h =>
 runD (eN aM 4 [(0, t17), (1, t19), (2, t21), (3, t23)] h.length) h fun t24 h =>
 runM (mD aM h t14 t24) h fun t25 h =>
 K (.ret (.tup [t14, (.int .i64 0)])) h))
 (fun v h => K (.pan v) h))
 (fun v h => K (.pan v) h)
def gW.loops : Nat → bX
 | _ => ⟨[], [], [], [], [], []⟩
def gW.H (c : Ctx) (t0 : AV) (t1 : AV) (h : List AObj) (K : AOut → List AObj → Prop) : Prop :=
 cP dA h fun t4 h =>
 runD (eN aM 2 [(0, (.int .i64 7015)), (1, t0)] h.length) h fun t7 h =>
 aQ false c (.fn (.func 93) [] []) [t7] h (fun t8 h =>
 runD (gT dA [(0, (.int .i64 7015)), (1, t0), (2, t8), (3, t1)]) h fun t10 h =>
 runH (aO dA h t4 t10) h fun _ h =>
 cT (fitD dA (aD h t4)) fun r0 => K (.ret r0) h)
 (fun v h => K (.pan v) h)
def dK.loops : Nat → bX
 | 1 => ⟨[], [], [], [(4, none), (3, some [6, 9]), (2, none), (3, some [11, 14]), (2, none), (5, some [16, 21])], [], []⟩
 | _ => ⟨[], [], [], [], [], []⟩
def dK.H (c : Ctx) (t0 : AV) (h : List AObj) (K : AOut → List AObj → Prop) : Prop :=
 boxW dA t0 h fun t1 h =>
 runD (aC dA t1 1) h fun t3 h =>
 runD (fitD aB (aD h t3)) h fun t4 h =>
 runD (binD aB .geq t4 (.int .i64 2)) h fun t5 h =>
 aJ (fun (J1 : AV → AV → List AObj → Prop) =>
 aT t5 true
 (runD (aC dA t1 1) h fun t7 h =>
 runD (fitD aB (aD h t7)) h fun t8 h =>
 runD (binD aB .leq t8 (.int .i64 256)) h fun t9 h =>
 J1 (.bool true) t9 h)
 (J1 (.bool false) .und h))
 (fun t6 t9 h => runD (bK t6 t9 (.bool false)) h fun t10 h =>
 aJ (fun (J2 : AV → AV → List AObj → Prop) =>
 aT t10 true
 (runD (aC dA t1 3) h fun t12 h =>
 runD (fitD aB (aD h t12)) h fun t13 h =>
 runD (binD aB .geq t13 (.int .i64 1)) h fun t14 h =>
 J2 (.bool true) t14 h)
 (J2 (.bool false) .und h))
 (fun t11 t14 h => runD (bK t11 t14 (.bool false)) h fun t15 h =>
 aJ (fun (J3 : AV → AV → List AObj → Prop) =>
 aT t15 true
 (runD (aC dA t1 3) h fun t17 h =>
 runD (fitD aB (aD h t17)) h fun t18 h =>
 runD (aC dA t1 1) h fun t19 h =>
 runD (fitD aB (aD h t19)) h fun t20 h =>
 runD (binD aB .lss t18 t20) h fun t21 h =>
 J3 (.bool true) t21 h)
 (J3 (.bool false) .und h))
 (fun t16 t21 h => runD (bK t16 t21 (.bool false)) h fun t22 h =>
 K (.ret t22) h)))
theorem dU.eq (F : List (FuncId × aE)) (S : List (FuncId × Con)) (t0 : AV) (h : List AObj) (K : AOut → List AObj → Prop) : funW (ctx F S dU.loops) Tryz.f38 [t0] h K = dU.H (ctx F S dU.loops) t0 h K := by kernel_rfl
theorem fQ.eq (F : List (FuncId × aE)) (S : List (FuncId × Con)) (t0 t1 : AV) (h : List AObj) (K : AOut → List AObj → Prop) : funW (ctx F S fQ.loops) Tryz.f56 [t0, t1] h K = fQ.H (ctx F S fQ.loops) t0 t1 h K := by kernel_rfl
theorem gW.eq (F : List (FuncId × aE)) (S : List (FuncId × Con)) (t0 t1 : AV) (h : List AObj) (K : AOut → List AObj → Prop) : funW (ctx F S gW.loops) Tryz.f65 [t0, t1] h K = gW.H (ctx F S gW.loops) t0 t1 h K := by kernel_rfl
theorem dK.eq (F : List (FuncId × aE)) (S : List (FuncId × Con)) (t0 : AV) (h : List AObj) (K : AOut → List AObj → Prop) : funW (ctx F S dK.loops) Tryz.f66 [t0] h K = dK.H (ctx F S dK.loops) t0 h K := by kernel_rfl
theorem dU.at : Tryz.prog.funcs[38]? = some Tryz.f38 := by kernel_rfl
theorem dU.nm : (Tryz.f38.name == "runtime.NumGoroutine") = false := by kernel_rfl
theorem dU.bd : Tryz.f38.body.isNone = false := by kernel_rfl
theorem fQ.at : Tryz.prog.funcs[56]? = some Tryz.f56 := by kernel_rfl
theorem fQ.nm : (Tryz.f56.name == "runtime.NumGoroutine") = false := by kernel_rfl
theorem fQ.bd : Tryz.f56.body.isNone = false := by kernel_rfl
theorem gW.at : Tryz.prog.funcs[65]? = some Tryz.f65 := by kernel_rfl
theorem gW.nm : (Tryz.f65.name == "runtime.NumGoroutine") = false := by kernel_rfl
theorem gW.bd : Tryz.f65.body.isNone = false := by kernel_rfl
theorem dK.at : Tryz.prog.funcs[66]? = some Tryz.f66 := by kernel_rfl
theorem dK.nm : (Tryz.f66.name == "runtime.NumGoroutine") = false := by kernel_rfl
theorem dK.bd : Tryz.f66.body.isNone = false := by kernel_rfl
end Lam
namespace Lam
open Go Go.Proofs
def aJA (b r : Int) : AV := .agg [.int .i64 7015, .int .i64 b, .int .i64 (aBj [7015, b]), .int .i64 r]
def gW.C : aE
 | [.int .i64 b, .int .i64 r] => some (false, pD True (aJA b r))
 | _ => none
theorem gW.spec : bI Tryz.prog 65 gW.C := by
 refine bI.of (bR (F := [(93, iM.C)]) (S := []) (by simpa using iM.spec) (by simp) gW.loops) gW.at gW.nm gW.bd ?_
 intro vs b S v news e hS
 unfold gW.C at e
 split at e
 rotate_left
 · cases e
 cases e
 rw [gW.eq]
 unfold gW.H
 simp (maxSteps := 4000000) only [go_sem, reduceEqDiff, Nat.reduceLT, reduceAdd, reduceSub, reduceLeDiff, reduceReplicate, reduceToNat, iM.C]
 exact ⟨by unfold roomy; decide, aG rfl rfl⟩
def mayB (b r : Int) : Bool := decide (2 ≤ b) && decide (b ≤ 256) && decide (1 ≤ r) && decide (r < b)
def dK.C : aE
 | [.agg [.int .i64 _, .int .i64 b, .int .i64 _, .int .i64 r]] => some (false, pD True (.bool (mayB b r)))
 | _ => none
theorem dK.spec : bI Tryz.prog 66 dK.C := by
 refine bI.of (bR (F := []) (S := []) (by simp) (by simp) dK.loops) dK.at dK.nm dK.bd ?_
 intro vs b S v news e hS
 unfold dK.C at e
 split at e
 rotate_left
 · cases e
 cases e
 rw [dK.eq]
 unfold dK.H
 simp (maxSteps := 4000000) only [go_sem, reduceEqDiff, Nat.reduceLT, reduceAdd, reduceSub, reduceLeDiff, reduceReplicate, reduceToNat]
 exact aG rfl rfl
def qF (b r : Int) : List Int := [7015, b, aBj [7015, b], r] ++ List.replicate 12 0
def fQ.C : aE
 | [.int .i64 b, .int .i64 r] => some (false, pD True (if mayB b r = true then .tup [.sl false (.ints .i64 (qF b r)), .int .i64 0] else .tup [.sl false (.ints .i64 []), .int .i64 1]))
 | _ => none
theorem fQ.spec : bI Tryz.prog 56 fQ.C := by
 refine bI.of (bR (F := [(65, gW.C), (66, dK.C)]) (S := []) (by simpa using ⟨gW.spec, dK.spec⟩) (by simp) fQ.loops) fQ.at fQ.nm fQ.bd ?_
 intro vs b S v news e hS
 unfold fQ.C at e
 split at e
 rotate_left
 · cases e
 cases e
 rw [fQ.eq]
 unfold fQ.H
 simp (maxSteps := 4000000) only [go_sem, reduceEqDiff, Nat.reduceLT, reduceAdd, reduceSub, reduceLeDiff, reduceReplicate, reduceToNat, gW.C, dK.C, aJA]
 refine ⟨fun h => ?_, fun h => ?_⟩
 · simp only [h, Bool.false_eq_true, if_false]; exact aG rfl rfl
 · refine ⟨by unfold roomy; decide, ?_⟩
   simp only [h, if_true]; exact aG rfl rfl

def aJB (l : List Int) : Bool := decide (l.getD 0 0 = 7015) && decide (l.getD 2 0 = aBj [7015, l.getD 1 0]) && mayB (l.getD 1 0) (l.getD 3 0) && decide (l.getD 1 0 = ((l.length / 16 : Nat) : Int))
def eA (l : List Int) : Bool := decide (32 ≤ l.length) && aJB l && ((l.drop 4).take 12).all (fun w => decide (w = 0))
theorem aSl (a b m d : Bool) : (!(a && b) || !m || !d) = !(a && b && m && d) := by cases a <;> cases b <;> cases m <;> cases d <;> rfl
def kP (l : List Int) : AV := if eA l = true then .tup [.int .i64 (l.getD 1 0), .int .i64 (l.getD 3 0), .int .i64 0] else .tup [.int .i64 0, .int .i64 0, .int .i64 80]
@[go_sem] theorem aPt (l : List Int) : (kP l).noSl = true := by unfold kP; split <;> rfl
def dU.C : aE
 | [.sl _ (.ints .i64 l)] => some (false, pD (roomy l.length) (kP l))
 | _ => none
theorem aCp (l : List Int) (hb : eA l = false) (h : List AObj) : Post false (kP l) [] (.ret (.tup [.int .i64 0, .int .i64 0, .int .i64 80])) h := by
 unfold kP; rw [hb]; exact aG rfl rfl
theorem dU.spec : bI Tryz.prog 38 dU.C := by
 refine bI.of (bR (F := [(65, gW.C), (66, dK.C)]) (S := []) (by simpa using ⟨gW.spec, dK.spec⟩) (by simp) dU.loops) dU.at dU.nm dU.bd ?_
 intro vs b S v news e hS
 unfold dU.C at e
 split at e
 rotate_left
 · cases e
 cases e
 rw [dU.eq]
 unfold dU.H
 simp (maxSteps := 4000000) only [go_sem, reduceEqDiff, Nat.reduceLT, reduceAdd, reduceSub, reduceLeDiff, reduceReplicate, reduceToNat, gW.C, dK.C, aJA]
 rename_i l
 unfold roomy at hS
 have hw : IntKind.i64.wrap ((l.length : Int).tdiv 16) = ((l.length / 16 : Nat) : Int) := by rw [aNR]; apply w64 <;> omega
 rw [aA]
 refine ⟨fun h => ?_, fun h => ?_⟩
 · apply aCp
   have : ¬ 32 ≤ l.length := by omega
   simp [eA, this]
 refine ⟨by omega, by omega, by omega, by omega, by simp, ?_⟩
 rw [hw, aSl]
 refine ⟨fun hc => aCp l ?_ _, fun hc => ⟨by omega, ?_⟩⟩
 · have hc : aJB l = false := by rw [Bool.not_eq_true'] at hc; exact hc
   simp [eA, hc]
 · have hc : aJB l = true := by rw [Bool.not_eq_false'] at hc; exact hc
   have h32 : 32 ≤ l.length := by omega
   have hlen : ((l.drop 4).take 12).length = 12 := by simp; omega
   rw [aA]
   unfold dU.L1
   generalize hz : (l.drop 4).take 12 = z at *
   refine ⟨fun m lv h' => ∃ k : Nat, k + m = z.length ∧ lv = [.int .i64 k] ∧ h' = [.box (.agg [.int .i64 (l.getD 0 0), .int .i64 (l.getD 1 0), .int .i64 (l.getD 2 0), .int .i64 (l.getD 3 0)])] ∧ ∀ y ∈ z.take k, y = 0, ⟨z.length, 0, by omega, rfl, rfl, by simp⟩, ?_⟩
   rintro m h' t8 ⟨k, hk, hlv, rfl, hall⟩
   simp only [List.cons.injEq, and_true] at hlv
   subst hlv
   simp only [go_sem, reduceEqDiff, Nat.reduceLT, reduceAdd, reduceSub, reduceLeDiff, reduceReplicate, reduceToNat]
   refine ⟨fun hlt => ⟨by omega, fun h0 => ?_, fun h0 => ?_⟩, fun hge => ?_⟩
   · apply aCp
     have hkz : k < z.length := by omega
     have : z.all (fun w => decide (w = 0)) = false := by
       rw [List.all_eq_false]; exact ⟨_, lK z k 0 hkz, by simpa using h0⟩
     simp [eA, hz, this]
   · have hkz : k < z.length := by omega
     refine ⟨m - 1, by omega, k + 1, by omega, by rw [w64 (by omega) (by omega)]; rfl, ?_⟩
     intro y hy
     rw [gQ z k 0 hkz] at hy
     rcases List.mem_append.1 hy with hy | hy
     · exact hall y hy
     · rw [List.mem_singleton.1 hy]; exact h0
   · have : k = z.length := by omega
     subst this
     rw [List.take_length] at hall
     have ha : z.all (fun w => decide (w = 0)) = true := by
       rw [List.all_eq_true]; intro y hy; simpa using hall y hy
     have hb : eA l = true := by simp [eA, hz, ha, hc, h32]
     unfold kP
     rw [if_pos hb]
     exact aG rfl rfl

end Lam
namespace Lam
open Go Go.Proofs
def gA.C : aE
 | [.int .i64 b] => some (false, pD True (.bool (rO b)))
 | _ => none
theorem gA.spec : bI Tryz.prog 94 gA.C := by
 refine bI.of (bR (F := []) (S := []) (by simp) (by simp) gA.loops) gA.at gA.nm gA.bd ?_
 intro vs b S v news e hS
 unfold gA.C at e
 split at e
 rotate_left
 · cases e
 cases e
 rw [gA.eq]
 unfold gA.H
 simp (maxSteps := 4000000) only [go_sem, reduceEqDiff, Nat.reduceLT, reduceAdd, reduceSub, reduceLeDiff, reduceReplicate, reduceToNat]
 exact ⟨fun _ => by decide, aG rfl rfl⟩
def gC.C : aE
 | [.int .i64 b, .int .i64 s] => some (false, pD True (.int .i64 (pA b s)))
 | _ => none
theorem gC.spec : bI Tryz.prog 68 gC.C := by
 refine bI.of (bR (F := [(94, gA.C)]) (S := []) (by simpa using gA.spec) (by simp) gC.loops) gC.at gC.nm gC.bd ?_
 intro vs b S v news e hS
 unfold gC.C at e
 split at e
 rotate_left
 · cases e
 cases e
 rw [gC.eq]
 unfold gC.H
 simp (maxSteps := 4000000) only [go_sem, reduceEqDiff, Nat.reduceLT, reduceAdd, reduceSub, reduceLeDiff, reduceReplicate, reduceToNat, gA.C]
 rename_i b s
 have e : (!rO b || decide (s < 0) || decide (13 ≤ s)) = !(rO b && decide (0 ≤ s) && decide (s < 13)) := by
   cases rO b
   · rfl
   · rw [Bool.eq_iff_iff]; simp only [Bool.and_eq_true, Bool.or_eq_true, Bool.not_eq_true', Bool.not_eq_false', Bool.not_eq_true, decide_eq_true_eq, decide_eq_false_iff_not, Bool.or_eq_false_iff, Bool.and_eq_false_iff, beq_iff_eq]; simp <;> omega
 rw [e]
 unfold pA
 refine ⟨fun h => ?_, fun h => ?_⟩
 · rw [Bool.not_eq_true'] at h
   rw [h]; exact aG rfl rfl
 · rw [Bool.not_eq_false'] at h
   rw [h]; exact aG rfl rfl
def gD.C : aE
 | [.sl _ (.ints .i64 l), .int .i64 b] => some (false, pD (roomy l.length ∧ b ≤ 1099511627776) (.sl false (.ints .i64 (mL l b))))
 | _ => none
theorem gD.spec : bI Tryz.prog 80 gD.C := by
 refine bI.of (bR (F := [(94, gA.C), (102, bN.C), (34, bA.C)]) (S := []) (by simpa using ⟨gA.spec, bN.spec, bA.spec⟩) (by simp) gD.loops) gD.at gD.nm gD.bd ?_
 intro vs b S v news e hS
 unfold gD.C at e
 split at e
 rotate_left
 · cases e
 cases e
 rw [gD.eq]
 unfold gD.H
 simp (maxSteps := 4000000) only [go_sem, reduceEqDiff, Nat.reduceLT, reduceAdd, reduceSub, reduceLeDiff, reduceReplicate, reduceToNat, gA.C, bN.C, bA.C]
 rename_i _ l b
 obtain ⟨hr, hb⟩ := hS
 unfold roomy at hr
 cases hn : rO b with
 | false =>
   refine ⟨fun h => ?_, fun h => by simp at h⟩
   unfold mL; rw [hn]; exact aG rfl rfl
 | true =>
   have hbb := (zE hb).1 hn
   have e1 : IntKind.i64.wrap (b + 16) = b + 16 := w64 (by omega) (by omega)
   have e2 : IntKind.i64.wrap (b + 3) = b + 3 := w64 (by omega) (by omega)
   rw [e1, e2]
   by_cases hlt : (l.length : Int) < b + 16
   · refine ⟨fun h => ?_, fun h => by simp at h; omega⟩
     unfold mL; rw [hn, decide_eq_false (by omega)]; exact aG rfl rfl
   · refine ⟨fun h => by simp at h; omega, fun h => ⟨by omega, ?_⟩⟩
     have e3 : (b + 16).toNat - (b + 3).toNat = 13 := by omega
     have e4 : (b + 3).toNat = b.toNat + 3 := by omega
     have hsl : mL l b = upTo ((l.drop (b.toNat + 3)).take 13) := by
       unfold mL; rw [hn, decide_eq_true (by omega)]; rfl
     rw [e3, e4, hsl]
     have hlen : ((l.drop (b.toNat + 3)).take 13).length = 13 := by simp; omega
     generalize (l.drop (b.toNat + 3)).take 13 = z at *
     have hu := aLR z
     have hir := aJm lt1 z
     have hul : (upTo z).length ≤ z.length := by rw [← hu]; exact List.length_take_le' _ _
     refine ⟨by unfold roomy; omega, ?_⟩
     rw [aA]
     refine ⟨fun h => ?_, fun h => ?_⟩
     · rw [if_pos h] at hu
       rw [Int.toNat_natCast, List.take_length] at hu
       simp only [bA.C, Int.toNat_natCast, List.take_length, go_sem, reduceEqDiff, Nat.reduceLT, reduceAdd, reduceSub, reduceLeDiff, reduceReplicate, reduceToNat]
       refine ⟨by omega, by unfold roomy; omega, aG ?_ rfl⟩
       simp only [go_sem, reduceEqDiff, Nat.reduceLT, reduceAdd, reduceSub, reduceLeDiff, reduceReplicate, reduceToNat, List.take_length]
       rw [← hu]
     · rw [if_neg h] at hu
       simp only [bA.C, hu, go_sem, reduceEqDiff, Nat.reduceLT, reduceAdd, reduceSub, reduceLeDiff, reduceReplicate, reduceToNat]
       refine ⟨by omega, by unfold roomy; omega, aG ?_ rfl⟩
       simp only [go_sem, reduceEqDiff, Nat.reduceLT, reduceAdd, reduceSub, reduceLeDiff, reduceReplicate, reduceToNat, List.take_length]
def bO.K : Con := fun args h K => match args with
 | [a0] => bO.H (ctx [] [] bO.loops) a0 h K
 | _ => False
theorem bO.spec : dH Tryz.prog 98 bO.K := by
 refine dH.of (bR (F := []) (S := []) (by simp) (by simp) bO.loops) bO.at bO.nm bO.bd ?_
 intro args h K hC
 unfold bO.K at hC
 split at hC
 · rw [bO.eq]; exact hC
 · exact hC.elim
theorem aJC (l : List Int) (hr : roomy l.length) (K : AOut → List AObj → Prop)
   (hK : ∀ x v l' k, k ≤ l'.length → l'.take k = plain l → K (.ret (.sref x 0 v 0 k)) [.row .own v (.ints .i64 l')]) :
   bO.K [.sref false 0 0 0 l.length] [.row .own 0 (.ints .i64 l)] K := by
 unfold roomy at hr
 unfold bO.K
 simp only
 unfold bO.H
 simp only [go_sem, reduceEqDiff, Nat.reduceLT, reduceAdd, reduceSub, reduceLeDiff, reduceReplicate, reduceToNat]
 refine ⟨fun h => ?_, fun h => ?_⟩
 · refine hK _ _ _ _ (Nat.le_refl _) ?_
   rw [List.take_length]
   rcases l with _ | ⟨a, _ | ⟨b, r⟩⟩
   · rfl
   · rfl
   · simp at h; omega
 rw [aA]
 unfold bO.L1
 refine kV (σ := Nat) (fun k => .int .i64 k) (fun k => [.row .own 0 (.ints .i64 l)]) (fun k => l.length - k) (fun k => 0 < k ∧ k ≤ l.length ∧ ∀ i, 0 < i → i < k → l.getD i 0 ≠ l.getD (i - 1) 0) 1 rfl rfl ⟨by omega, by omega, fun i h1 h2 => by omega⟩ ?_
 rintro I back k ⟨h0, hk, hall⟩
 simp only [go_sem, reduceEqDiff, Nat.reduceLT, reduceAdd, reduceSub, reduceLeDiff, reduceReplicate, reduceToNat]
 refine ⟨fun hlt => ?_, fun hge => ?_⟩
 · have e1 : IntKind.i64.wrap ((k : Int) - 1) = ((k - 1 : Nat) : Int) := by rw [w64 (by omega) (by omega)]; omega
   rw [aA, e1, Int.toNat_natCast]
   refine ⟨by omega, by omega, by omega, by omega, fun heq => ⟨by omega, ?_⟩, fun hne => ?_⟩
   · rw [aA]
     unfold bO.L2
     have hp0 : plain (l.take (k + 1)) = l.take k := by
       rw [aDv h0 (by omega), if_pos heq, zF]
       intro i hi0 hi
       rw [List.length_take] at hi
       have := hall i hi0 (by omega)
       rw [List.getD_eq_getElem?_getD, List.getD_eq_getElem?_getD, List.getElem?_take, List.getElem?_take, if_pos (by omega), if_pos (by omega), ← List.getD_eq_getElem?_getD, ← List.getD_eq_getElem?_getD]
       exact this
     refine oL (σ := Nat × Nat × List Int) (fun s => .int .i64 s.1) (fun s => .int .i64 s.2.1) (fun s => [.row .own 0 (.ints .i64 s.2.2)]) (fun s => l.length - k - s.2.1)
       (fun s => k ≤ s.1 ∧ s.1 ≤ k + s.2.1 - 1 ∧ 1 ≤ s.2.1 ∧ s.2.1 ≤ l.length - k ∧ s.2.2.length = l.length ∧ s.2.2.take s.1 = plain (l.take (k + s.2.1)) ∧ ∀ j, k + s.2.1 - 1 ≤ j → s.2.2.getD j 0 = l.getD j 0) (k, 1, l) rfl rfl
       ⟨Nat.le_refl _, by simp, Nat.le_refl _, by simp only; omega, rfl, hp0.symm, fun j _ => rfl⟩ ?_
     rintro I2 back2 ⟨w, q, R⟩ ⟨hw0, hw1, hq0, hq1, hRl, hRt, hRd⟩
     simp only [] at hw0 hw1 hq0 hq1 hRl hRt hRd ⊢
     simp only [go_sem, reduceEqDiff, Nat.reduceLT, reduceAdd, reduceSub, reduceLeDiff, reduceReplicate, reduceToNat, hRl]
     have e2 : IntKind.i64.wrap ((q : Int) - 1) = ((q - 1 : Nat) : Int) := by rw [w64 (by omega) (by omega)]; omega
     refine ⟨fun hql => ?_, fun hql => ?_⟩
     · have hnext := aDv (l := l) (k := k + q) (by omega) (by omega)
       rw [e2, Int.toNat_natCast, hRd (k + q) (by omega), hRd (k + (q - 1)) (by omega)]
       have e3 : k + q - 1 = k + (q - 1) := by omega
       rw [e3] at hnext
       refine ⟨by omega, by omega, by omega, by omega, ?_⟩
       rw [aA]
       refine ⟨fun hc => ⟨by omega, by omega, by omega, by omega, ?_⟩, fun hc => ?_⟩
       · simp only [go_sem, reduceEqDiff, Nat.reduceLT, reduceAdd, reduceSub, reduceLeDiff, reduceReplicate, reduceToNat]
         rw [if_neg hc] at hnext
         refine back2 (w + 1, q + 1, R.set w (l.getD (k + q) 0)) (by show _ - (q + 1) < _ - q; omega) (by rw [eH (by omega), eH (by omega)]) rfl ⟨by show k ≤ w + 1; omega, by show w + 1 ≤ k + (q + 1) - 1; omega, by show 1 ≤ q + 1; omega, by show q + 1 ≤ _; omega, by show (R.set _ _).length = _; rw [List.length_set]; exact hRl, ?_, fun j hj => ?_⟩
         · show (R.set w _).take (w + 1) = plain (l.take (k + (q + 1)))
           rw [show k + (q + 1) = k + q + 1 from by omega, hnext, ← hRt, gQ _ w 0 (by rw [List.length_set]; omega), aCm, if_pos ⟨rfl, by omega⟩, List.take_set_of_le (Nat.le_refl _)]
         · show (R.set w _).getD j 0 = _
           have hj : k + (q + 1) - 1 ≤ j := hj
           rw [aCm, if_neg (by omega), hRd j (by omega)]
       · simp only [go_sem, reduceEqDiff, Nat.reduceLT, reduceAdd, reduceSub, reduceLeDiff, reduceReplicate, reduceToNat]
         rw [if_pos hc] at hnext
         refine back2 (w, q + 1, R) (by show _ - (q + 1) < _ - q; omega) (by rw [eH (by omega)]) rfl ⟨hw0, by show w ≤ k + (q + 1) - 1; omega, by show 1 ≤ q + 1; omega, by show q + 1 ≤ _; omega, hRl, ?_, fun j hj => hRd j (by have hj : k + (q + 1) - 1 ≤ j := hj; omega)⟩
         show R.take w = plain (l.take (k + (q + 1)))
         rw [show k + (q + 1) = k + q + 1 from by omega, hnext, hRt]
     · obtain rfl : q = l.length - k := by omega
       rw [show k + (l.length - k) = l.length from by omega, List.take_length] at hRt
       have hov : oA (.slice (.int .i64)) [.row .own 0 (.ints .i64 R)] (.sref false 0 0 w (l.length - w)) = some (True, .tup [], 0, .row .own 0 (.ints .i64 (R.take w ++ List.replicate (l.length - w) 0))) := by
         have e4 : l.length - (w + (l.length - w)) = 0 := by omega
         simp [oA, aCy, Lst.over, Lst.cut, Lst.app, LK.zeros, Lst.kind, jB, TyD.fitsRow, Lst.len, hRl, e4]
       rw [hov]
       simp only [go_sem, reduceEqDiff, Nat.reduceLT, reduceAdd, reduceSub, reduceLeDiff, reduceReplicate, reduceToNat]
       have hl2 : (R.take w ++ List.replicate (l.length - w) 0).length = l.length := by simp [hRl]; omega
       refine ⟨⟨by omega, by omega⟩, ⟨by omega, by omega⟩, ?_⟩
       refine hK _ _ _ _ (by omega) ?_
       rw [List.take_append_of_le_length (by rw [List.length_take]; omega), List.take_take, Nat.min_self, hRt]
   · simp only [go_sem, reduceEqDiff, Nat.reduceLT, reduceAdd, reduceSub, reduceLeDiff, reduceReplicate, reduceToNat]
     refine back (k + 1) (by omega) (by rw [eH (by omega)]) rfl ⟨by omega, by omega, fun i hi0 hi => ?_⟩
     by_cases e : i = k
     · subst e; exact hne
     · exact hall i hi0 (by omega)
 · obtain rfl : k = l.length := by omega
   refine hK _ _ _ _ (Nat.le_refl _) ?_
   rw [List.take_length, zF l hall]
def eD.C : aE
 | [.sl _ (.ints .i64 l)] => some (false, pD (roomy l.length) (.sl false (.ints .i64 (plain l))))
 | _ => none
theorem eD.spec : bI Tryz.prog 78 eD.C := by
 refine bI.of (bR (F := [(34, bA.C)]) (S := [(98, bO.K)]) (by simpa using bA.spec) (by simpa using bO.spec) eD.loops) eD.at eD.nm eD.bd ?_
 intro vs b S v news e hS
 unfold eD.C at e
 split at e
 rotate_left
 · cases e
 cases e
 rw [eD.eq]
 unfold eD.H
 simp (maxSteps := 4000000) only [go_sem, reduceEqDiff, Nat.reduceLT, reduceAdd, reduceSub, reduceLeDiff, reduceReplicate, reduceToNat, bA.C]
 rename_i _ l
 refine ⟨hS, aJC l hS _ fun x v l' k hk he => ?_⟩
 simp only [go_sem, reduceEqDiff, Nat.reduceLT, reduceAdd, reduceSub, reduceLeDiff, reduceReplicate, reduceToNat]
 refine aG ?_ rfl
 simp only [go_sem, reduceEqDiff, Nat.reduceLT, reduceAdd, reduceSub, reduceLeDiff, reduceReplicate, reduceToNat, he]
end Lam
namespace Lam
open Go Go.Proofs
def gE.C : aE
 | [.agg [.int .i64 a, .int .i64 b, .int .i64 c, .int .i64 d, .sl false (.ints .i64 l)]] => some (false, pD True (.bool (ndB ⟨a, b, c, d, l⟩)))
 | _ => none
theorem gE.spec : bI Tryz.prog 86 gE.C := by
 refine bI.of (bR (F := [(105, eW.C), (106, bV.C)]) (S := []) (by simpa using ⟨eW.spec, bV.spec⟩) (by simp) gE.loops) gE.at gE.nm gE.bd ?_
 intro vs b S v news e hS
 unfold gE.C at e
 split at e
 rotate_left
 · cases e
 cases e
 rw [gE.eq]
 unfold gE.H
 simp (maxSteps := 4000000) only [go_sem, reduceEqDiff, Nat.reduceLT, reduceAdd, reduceSub, reduceLeDiff, reduceReplicate, reduceToNat, eW.C, bV.C]
 rename_i a b c d l
 have h1 : (a < 0 ∨ 9 < a ∨ b < 0 ∨ 1099511627776 < b ∨ rP c = false ∨ rP d = false ∨ 13 < (l.length : Int)) → ndB ⟨a, b, c, d, l⟩ = false := by
   intro h
   rw [Bool.eq_false_iff]
   intro hh
   obtain ⟨q1, q2, q3, q4, q5, q6, q7, q8⟩ := xY.1 hh
   simp only at q1 q2 q3 q4 q5 q6 q7 q8
   unfold rP at h
   simp only [Bool.and_eq_false_iff, decide_eq_false_iff_not] at h
   omega
 have h2 : ¬ (a < 0 ∨ 9 < a ∨ b < 0 ∨ 1099511627776 < b ∨ rP c = false ∨ rP d = false ∨ 13 < (l.length : Int)) → ndB ⟨a, b, c, d, l⟩ = !l.any vG := by
   intro h
   simp only [not_or, Bool.not_eq_false] at h
   obtain ⟨q1, q2, q3, q4, q5, q6, q7⟩ := h
   unfold ndB
   rw [decide_eq_true (show 0 ≤ a by omega), decide_eq_true (show a ≤ 9 by omega), decide_eq_true (show 0 ≤ b by omega), decide_eq_true (show b ≤ 1099511627776 by omega), q5, q6, decide_eq_true (show l.length ≤ 13 by omega)]
   rfl
 generalize ndB ⟨a, b, c, d, l⟩ = R at *
 simp only [eW.C, bV.C, aA, gq, reduceEq, reduceLT, reduceLE, implies_true, reduceCtorEq, if_true, if_false, go_sem, reduceEqDiff, Nat.reduceLT, reduceAdd, reduceSub, reduceLeDiff, reduceReplicate, reduceToNat]
 repeat' (first | (with_reducible apply And.intro) | (with_reducible intro _))
 all_goals first
   | omega
   | (unfold roomy; omega)
   | (exfalso; simp_all; done)
   | (rw [h1 (by grind)]; exact aG rfl rfl)
   | (rw [h2 (by grind)]; exact aG rfl rfl)
   | skip
 all_goals trace_state
def gF.C : aE
 | [.agg [.int .i64 a, .int .i64 b, .int .i64 c, .int .i64 d, .sl false (.ints .i64 l)]] => some (false, pD (0 ≤ a ∧ a ≤ 9 ∧ 0 ≤ b ∧ b ≤ 1099511627776) (.int .i64 (aAL ⟨a, b, c, d, l⟩)))
 | _ => none
theorem gF.spec : bI Tryz.prog 87 gF.C := by
 refine bI.of (bR (F := []) (S := []) (by simp) (by simp) gF.loops) gF.at gF.nm gF.bd ?_
 intro vs b S v news e hS
 unfold gF.C at e
 split at e
 rotate_left
 · cases e
 cases e
 rw [gF.eq]
 unfold gF.H
 simp (maxSteps := 4000000) only [go_sem, reduceEqDiff, Nat.reduceLT, reduceAdd, reduceSub, reduceLeDiff, reduceReplicate, reduceToNat]
 rename_i a b c d l
 rw [aJq hS.1 (by omega) hS.2.2.1 hS.2.2.2]
 exact ⟨by decide, aG rfl rfl⟩
def yH (n : Nd) : AV := if ndB n = true then .tup [.sl false (.ints .i64 (gK n)), .int .i64 0] else .tup [.sl false (.ints .i64 []), .int .i64 90]
def fE.C : aE
 | [.agg [.int .i64 a, .int .i64 b, .int .i64 c, .int .i64 d, .sl false (.ints .i64 l)]] => some (false, pD True (yH ⟨a, b, c, d, l⟩))
 | _ => none
theorem fE.spec : bI Tryz.prog 57 fE.C := by
 refine bI.of (bR (F := [(86, gE.C), (87, gF.C)]) (S := []) (by simpa using ⟨gE.spec, gF.spec⟩) (by simp) fE.loops) fE.at fE.nm fE.bd ?_
 intro vs b S v news e hS
 unfold fE.C at e
 split at e
 rotate_left
 · cases e
 cases e
 rw [fE.eq]
 unfold fE.H
 simp (maxSteps := 4000000) only [go_sem, reduceEqDiff, Nat.reduceLT, reduceAdd, reduceSub, reduceLeDiff, reduceReplicate, reduceToNat, gE.C, gF.C]
 rename_i a b c d l
 refine ⟨fun h => ?_, fun h => ?_⟩
 · unfold yH; rw [h]; exact aG rfl rfl
 · have hok := xY.1 h
   obtain ⟨q1, q2, q3, q4, _, _, q7, _⟩ := hok
   simp only at q1 q2 q3 q4 q7
   have hw : aAL ⟨a, b, c, d, l⟩ :: c :: d :: (l.take 13 ++ List.take (16 - (3 + min 13 l.length)) (List.drop (3 + min 13 l.length) [aAL ⟨a, b, c, d, l⟩, c, d, 0, 0, 0, 0, 0, 0, 0, 0, 0, 0, 0, 0, 0])) = gK ⟨a, b, c, d, l⟩ := by
     unfold gK
     simp only
     rw [qU l q7, Nat.min_eq_right q7]
     congr 4
     have : ∀ k, k ≤ 13 → List.take (16 - (3 + k)) (List.drop (3 + k) [aAL ⟨a, b, c, d, l⟩, c, d, 0, 0, 0, 0, 0, 0, 0, 0, 0, 0, 0, 0, 0]) = List.replicate (13 - k) 0 := by
       intro k hk
       rcases k with _|_|_|_|_|_|_|_|_|_|_|_|_|_|k <;> first | rfl | omega
     exact this _ q7
   rw [hw]
   unfold yH; simp only [h, if_true]
   refine ⟨⟨by decide, by decide, by unfold roomy; omega⟩, ⟨q1, q2, q3, q4⟩, ⟨by decide, by decide⟩, ⟨by decide, by decide⟩, ⟨by decide, by decide⟩, rfl, rfl, rfl, ⟨by decide, by decide⟩, aG ?_ rfl⟩
   simp only [go_sem, reduceEqDiff, Nat.reduceLT, reduceAdd, reduceSub, reduceLeDiff, reduceReplicate, reduceToNat]
   rw [qU _ (Nat.le_of_eq (aAM (xY.1 h)))]
def qM (words : List Int) (at_ : Int) : AV := if (decide (at_ < 0) || decide (((words.length / 16 : Nat) : Int) ≤ at_)) = true then .tup [jM.V, .int .i64 1] else match aDx (kS words at_.toNat) with
 | some n => .tup [n.V, .int .i64 0]
 | none => .tup [jM.V, .int .i64 90]
def cN.C : aE
 | [.sl _ (.ints .i64 l), .int .i64 k] => some (false, pD (roomy l.length) (qM l k))
 | _ => none
theorem cN.spec : bI Tryz.prog 46 cN.C := by
 refine bI.of (bR (F := [(80, gD.C), (57, fE.C), (35, bU.C)]) (S := []) (by simpa using ⟨gD.spec, fE.spec, bU.spec⟩) (by simp) cN.loops) cN.at cN.nm cN.bd ?_
 intro vs b S v news e hS
 unfold cN.C at e
 split at e
 rotate_left
 · cases e
 cases e
 rw [cN.eq]
 unfold cN.H
 simp (maxSteps := 4000000) only [go_sem, reduceEqDiff, Nat.reduceLT, reduceAdd, reduceSub, reduceLeDiff, reduceReplicate, reduceToNat, gD.C, fE.C, bU.C]
 rename_i l k
 have hrl := hS
 unfold roomy at hS
 have e0 : IntKind.i64.wrap ((l.length : Int).tdiv 16) = ((l.length / 16 : Nat) : Int) := by
   rw [Int.tdiv_eq_ediv_of_nonneg (by omega)]; exact w64 (by omega) (by omega)
 rw [e0]
 unfold qM
 refine ⟨fun _ => by decide, fun h => ?_, fun h => ?_⟩
 · rw [if_pos h]
   refine aG ?_ rfl
   simp only [jM, go_sem, reduceEqDiff, Nat.reduceLT, reduceAdd, reduceSub, reduceLeDiff, reduceReplicate, reduceToNat]
 · rw [h]
   simp only [Bool.or_eq_false_iff, decide_eq_false_iff_not] at h
   obtain ⟨k, rfl⟩ := Int.eq_ofNat_of_zero_le (show 0 ≤ k by omega)
   have hk : 16 * k + 16 ≤ l.length := by omega
   have e1 : IntKind.i64.wrap (16 * (k : Int)) = 16 * (k : Int) := w64 (by omega) (by omega)
   have e2 : IntKind.i64.wrap ((k : Int) + 1) = (k : Int) + 1 := w64 (by omega) (by omega)
   have e3 : IntKind.i64.wrap (16 * ((k : Int) + 1)) = 16 * ((k : Int) + 1) := w64 (by omega) (by omega)
   have e4 : (16 * ((k : Int) + 1)).toNat - (16 * (k : Int)).toNat = 16 := by omega
   have e5 : (16 * (k : Int)).toNat = 16 * k := by omega
   have eb : (l.drop (16 * k)).take 16 = kS l k := rfl
   have hbl : (kS l k).length = 16 := by unfold kS; simp; omega
   rw [e2, e1, e3, e4, e5, eb, Int.toNat_natCast]
   generalize kS l k = w at *
   have hdp : (⟨andI .i64 (w.getD 0 0) 15, (xX .i64 (w.getD 0 0) 1152921504606846976).fdiv (2 ^ min 4 64), w.getD 1 0, w.getD 2 0, mL w 0⟩ : Nd) = decP w := rfl
   have hV : (decP w).V = .agg [.int .i64 (andI .i64 (w.getD 0 0) 15), .int .i64 ((xX .i64 (w.getD 0 0) 1152921504606846976).fdiv (2 ^ min 4 64)), .int .i64 (w.getD 1 0), .int .i64 (w.getD 2 0), .sl false (.ints .i64 (mL w 0))] := rfl
   rw [hdp, hbl, ← aLU]
   have hsr := aFz w 0
   refine ⟨by omega, by omega, by omega, by decide, by omega, by omega, ⟨by unfold roomy; omega, by decide⟩, ?_⟩
   unfold pB yH
   cases hd : ndB (decP w) with
   | false =>
     simp only [Bool.false_eq_true, if_false, Bool.false_and, aA, aA, gq, reduceEq, reduceLT, reduceLE, implies_true, reduceCtorEq, if_true, if_false, go_sem, reduceEqDiff, Nat.reduceLT, reduceAdd, reduceSub, reduceLeDiff, reduceReplicate, reduceToNat]
     refine aG ?_ rfl
     simp only [jM, go_sem, reduceEqDiff, Nat.reduceLT, reduceAdd, reduceSub, reduceLeDiff, reduceReplicate, reduceToNat]
   | true =>
     have hok := xY.1 hd
     have hwl := aAM hok
     simp only [if_true, Bool.true_and, bU.C, hwl, hbl, aA, gq, reduceEq, reduceLT, reduceLE, implies_true, reduceCtorEq, if_true, if_false, go_sem, reduceEqDiff, Nat.reduceLT, reduceAdd, reduceSub, reduceLeDiff, reduceReplicate, reduceToNat]
     refine ⟨by unfold roomy; omega, fun h => ?_, fun h => ?_⟩
     · rw [if_neg h]
       refine aG ?_ rfl
       simp only [jM, go_sem, reduceEqDiff, Nat.reduceLT, reduceAdd, reduceSub, reduceLeDiff, reduceReplicate, reduceToNat]
     · rw [if_pos h]
       exact aG rfl rfl
end Lam
namespace Lam
open Go Go.Proofs
def hH.loops : Nat → bX
 | 1 => ⟨[], [], [], [(3, none), (3, some [5, 8])], [], []⟩
 | _ => ⟨[], [], [], [], [], []⟩
def hH.H (c : Ctx) (t0 : AV) (h : List AObj) (K : AOut → List AObj → Prop) : Prop :=
 runD (binD bP .neq t0 (.str [])) h fun t4 h =>
 aJ (fun (J1 : AV → AV → List AObj → Prop) =>
 aT t4 true
 (runD (lenD bP h t0) h fun t7 h =>
 runD (binD aB .leq t7 (.int .i64 21)) h fun t8 h =>
 J1 (.bool true) t8 h)
 (J1 (.bool false) .und h))
 (fun t5 t8 h => runD (bK t5 t8 (.bool false)) h fun t9 h =>
 K (.ret t9) h)
def eP.loops : Nat → bX
 | 1 => ⟨[], [], [], [(3, none), (9, some [14, 23])], [], []⟩
 | 5 => ⟨[6, 31], [true, false], [1, 29, 30], [], [], []⟩
 | 7 => ⟨[], [], [], [(3, none), (2, some [37, 39])], [], []⟩
 | 10 => ⟨[6, 41], [true, false], [1, 8, 29, 30, 31], [], [], []⟩
 | 16 => ⟨[59], [false], [1, 6, 57, 58], [], [], []⟩
 | _ => ⟨[], [], [], [], [], []⟩
def eP.L2 (c : Ctx) (J5 : AV → AV → AV → AV → AV → List AObj → Prop) (K : AOut → List AObj → Prop) (lv : List AV) (h0 : List AObj) (n0 : Nat) (c1 : AV) (c8 : AV) (c29 : AV) (c30 : AV) (c31 : AV) : Prop :=
 ∃ I : Nat → List AV → List AObj → Prop, (∃ n, I n lv h0) ∧ ∀ n h, ∀ t6, ∀ t41, I n [t6, t41] h →
 runD (binD aB .lss t41 (.int .i64 7)) h fun t42 h =>
 aW t42
 (runD (binD aB .sub (.int .i64 6) t41) h fun t47 h =>
 runD (binD aB .mul (.int .i64 8) t47) h fun t48 h =>
 runD (binD aB .shr c8 t48) h fun t49 h =>
 runD (jK h aB lX t49) h fun t50 h =>
 runD (eN kF 1 [(0, t50)] h.length) h fun t51 h =>
 jC (fI kF h t6 t51 h.length) (fW kF h t6 t51) h fun t52 h =>
 runD (binD aB .add t41 (.int .i64 1)) h fun t53 h =>
 (∃ m, m < n ∧ I m (AV.norms n0 h [t52, t53]) (cJ n0 h)) ∧ AV.norms n0 h [c1, c8, c29, c30, c31] = [c1, c8, c29, c30, c31])
 (J5 c1 t6 c29 c30 c31 h)
def eP.L1 (c : Ctx) (J2 : AV → AV → List AObj → Prop) (K : AOut → List AObj → Prop) (lv : List AV) (h0 : List AObj) (n0 : Nat) (c1 : AV) (c29 : AV) (c30 : AV) : Prop :=
 ∃ I : Nat → List AV → List AObj → Prop, (∃ n, I n lv h0) ∧ ∀ n h, ∀ t6, ∀ t31, I n [t6, t31] h →
 runD (binD aB .lss t31 c30) h fun t32 h =>
 aW t32
 (aJ (fun (J3 : AV → AV → AV → AV → AV → List AObj → Prop) =>
 runD (aH aM h c29 t31) h fun t33 h =>
 runD (fitD aB (aD h t33)) h fun t34 h =>
 runD (binD aB .lss t34 (.int .i64 0)) h fun t36 h =>
 aJ (fun (J4 : AV → AV → List AObj → Prop) =>
 aT t36 false
 (runD (binD aB .geq t34 (.int .i64 72057594037927936)) h fun t39 h =>
 J4 (.bool false) t39 h)
 (J4 (.bool true) .und h))
 (fun t37 t39 h => runD (bK t37 (.bool true) t39) h fun t40 h =>
 aW t40
 (K (.ret (.tup [(.str []), (.int .i64 20)])) h)
 (aJ (fun (J5 : AV → AV → AV → AV → AV → List AObj → Prop) =>
 dC [true, false] [t6, (.int .i64 0)] h fun lv h => eP.L2 c J5 K (AV.norms h.length h lv) (cJ h.length h) h.length (AV.norm h.length h c1) (AV.norm h.length h t34) (AV.norm h.length h c29) (AV.norm h.length h c30) (AV.norm h.length h t31))
 (fun t1 t6 t29 t30 t31 h => J3 t1 t6 t29 t30 t31 h))))
 (fun t1 t6 t29 t30 t31 h => runD (binD aB .add t31 (.int .i64 1)) h fun t54 h =>
 (∃ m, m < n ∧ I m (AV.norms n0 h [t6, t54]) (cJ n0 h)) ∧ AV.norms n0 h [t1, t29, t30] = [c1, c29, c30]))
 (J2 c1 t6 h)
def eP.L3 (c : Ctx) (J6 : AV → AV → List AObj → Prop) (K : AOut → List AObj → Prop) (lv : List AV) (h0 : List AObj) (n0 : Nat) (c1 : AV) (c6 : AV) (c57 : AV) (c58 : AV) : Prop :=
 ∃ I : Nat → List AV → List AObj → Prop, (∃ n, I n lv h0) ∧ ∀ n h, ∀ t59, I n [t59] h →
 runD (binD aB .lss t59 c58) h fun t60 h =>
 aW t60
 (runD (aH kF h c57 t59) h fun t61 h =>
 runD (fitD lX (aD h t61)) h fun t62 h =>
 runD (binD lX .neq t62 (.int .u8 0)) h fun t64 h =>
 aW t64
 (K (.ret (.tup [(.str []), (.int .i64 20)])) h)
 (runD (binD aB .add t59 (.int .i64 1)) h fun t65 h =>
 (∃ m, m < n ∧ I m (AV.norms n0 h [t65]) (cJ n0 h)) ∧ AV.norms n0 h [c1, c6, c57, c58] = [c1, c6, c57, c58]))
 (J6 c1 c6 h)
def eP.H (c : Ctx) (t0 : AV) (t1 : AV) (h : List AObj) (K : AOut → List AObj → Prop) : Prop :=
 runD (binD aB .lss t1 (.int .i64 0)) h fun t13 h =>
 aJ (fun (J1 : AV → AV → List AObj → Prop) =>
 aT t13 false
 (runD (lenD aM h t0) h fun t16 h =>
 runD (binD aB .quo t1 (.int .i64 7)) h fun t18 h =>
 runD (binD aB .rem t1 (.int .i64 7)) h fun t20 h =>
 runD (minD (.int .i64 1) t20) h fun t21 h =>
 runD (binD aB .add t18 t21) h fun t22 h =>
 runD (binD aB .neq t16 t22) h fun t23 h =>
 J1 (.bool false) t23 h)
 (J1 (.bool true) .und h))
 (fun t14 t23 h => runD (bK t14 (.bool true) t23) h fun t24 h =>
 aW t24
 (K (.ret (.tup [(.str []), (.int .i64 20)])) h)
 (runD (lenD aM h t0) h fun t26 h =>
 runD (binD aB .mul (.int .i64 7) t26) h fun t27 h =>
 runD (kC kF (.int .i64 0) t27 h.length) h fun t28 h =>
 runD (lenD aM h t0) h fun t30 h =>
 aJ (fun (J2 : AV → AV → List AObj → Prop) =>
 dC [true, false] [t28, (.int .i64 0)] h fun lv h => eP.L1 c J2 K (AV.norms h.length h lv) (cJ h.length h) h.length (AV.norm h.length h t1) (AV.norm h.length h t0) (AV.norm h.length h t30))
 (fun t1 t6 h => runD (dX kF h t6 (some t1) none none) h fun t57 h =>
 runD (lenD kF h t57) h fun t58 h =>
 aJ (fun (J6 : AV → AV → List AObj → Prop) =>
 dC [false] [(.int .i64 0)] h fun lv h => eP.L3 c J6 K (AV.norms h.length h lv) (cJ h.length h) h.length (AV.norm h.length h t1) (AV.norm h.length h t6) (AV.norm h.length h t57) (AV.norm h.length h t58))
 (fun t1 t6 h => runD (dX kF h t6 none (some t1) none) h fun t68 h =>
 runD (jK h kF bP t68) h fun t69 h =>
 K (.ret (.tup [t69, (.int .i64 0)])) h))))
def eT.loops : Nat → bX
 | _ => ⟨[], [], [], [], [], []⟩
def eT.H (c : Ctx) (t0 : AV) (h : List AObj) (K : AOut → List AObj → Prop) : Prop :=
 runD (lenD bP h t0) h fun t4 h =>
 runD (binD aB .leq t4 (.int .i64 21)) h fun t5 h =>
 K (.ret t5) h
def fL.loops : Nat → bX
 | 2 => ⟨[], [], [], [], [2], []⟩
 | 5 => ⟨[4, 11], [false, false], [2, 3, 10], [], [], []⟩
 | _ => ⟨[], [], [], [], [], []⟩
def fL.L1 (c : Ctx) (id : Nat) (r : Loop) (J3 : AV → AV → List AObj → Prop) (K : AOut → List AObj → Prop) (lv : List AV) (h0 : List AObj) (n0 : Nat) (c2 : AV) (c3 : AV) (c10 : AV) : Prop :=
 ∃ I : Nat → List AV → List AObj → Prop, (∃ n, I n lv h0) ∧ ∀ n h, ∀ t4, ∀ t11, I n [t4, t11] h →
 runD (binD aB .lss t11 c10) h fun t12 h =>
 aW t12
 (runD (tB bP c3 t11) h fun t17 h =>
 runD (jK h lX aB t17) h fun t18 h =>
 runD (binD aB .sub (.int .i64 6) t11) h fun t20 h =>
 runD (binD aB .mul (.int .i64 8) t20) h fun t21 h =>
 runD (binD aB .shl t18 t21) h fun t22 h =>
 runD (binD aB .or t4 t22) h fun t23 h =>
 runD (binD aB .add t11 (.int .i64 1)) h fun t24 h =>
 (∃ m, m < n ∧ I m (AV.norms n0 h [t23, t24]) (cJ n0 h)) ∧ AV.norms n0 h [c2, c3, c10] = [c2, c3, c10])
 (J3 c2 t4 h)
def fL.H (c : Ctx) (t0 : AV) (h : List AObj) (K : AOut → List AObj → Prop) : Prop :=
 cP aM h fun t2 h =>
 aQ false c (.fn (.func 125) [] []) [t0] h (fun t7 h =>
 aJ (fun (J1 : AV → List AObj → Prop) =>
 vI c.iterS t7 (boxH [t2] h)
 (fun id r args h K => lpIs h id .ready r ∧ yM args fun t8 =>
 lpIs h id .ready r ∧
 aJ (fun (J2 : List AObj → Prop) =>
 runD (lenD bP (List.set h id (.lp .busy none r)) t8) (List.set h id (.lp .busy none r)) fun t10 h =>
 aJ (fun (J3 : AV → AV → List AObj → Prop) =>
 dC [false, false] [(.int .i64 0), (.int .i64 0)] h fun lv h => fL.L1 c id r J3 K (AV.norms h.length h lv) (cJ h.length h) h.length (AV.norm h.length h t2) (AV.norm h.length h t8) (AV.norm h.length h t10))
 (fun t2 t4 h => runD (fitD aM (aD h t2)) h fun t25 h =>
 runD (eN aM 1 [(0, t4)] h.length) h fun t27 h =>
 jC (fI aM h t25 t27 h.length) (fW aM h t25 t27) h fun t28 h =>
 runH (aO aM h t2 t28) h fun _ h =>
 J2 h))
 (fun h => lpIs h id .busy r ∧ K (.ret (.bool true)) (List.set h id (.lp .ready none r))))
 (fun id r ao h => endX id r ao h
 (fun h => J1 t2 h)
 (fun h => cT (fitD aM (aD h t2)) fun r0 => K (.ret r0) h)
 (fun i h => aCD i 0 (J1 t2 h) (False))
 (fun l h => False)
 (fun v h => K (.pan v) h)))
 (fun t2 h => runD (fitD aM (aD h t2)) h fun t29 h =>
 runH (aO aM h t2 t29) h fun _ h =>
 cT (fitD aM (aD h t2)) fun r0 => K (.ret r0) h))
 (fun v h => K (.pan v) h)
def fR.loops : Nat → bX
 | _ => ⟨[], [], [], [], [], []⟩
def fR.H (c : Ctx) (t0 : AV) (h : List AObj) (K : AOut → List AObj → Prop) : Prop :=
 boxW bP t0 h fun t1 h =>
 K (.ret (.fn (.func 141) [] [t1])) h
def dR.loops : Nat → bX
 | 0 => ⟨[], [], [0, 1], [], [], []⟩
 | _ => ⟨[], [], [], [], [], []⟩
def dR.L1 (c : Ctx) (J1 : List AObj → Prop) (K : AOut → List AObj → Prop) (lv : List AV) (h0 : List AObj) (n0 : Nat) (c0 : AV) (c1 : AV) : Prop :=
 ∃ I : Nat → List AV → List AObj → Prop, (∃ n, I n lv h0) ∧ ∀ n h, I n [] h →
 runD (fitD bP (aD h c1)) h fun t4 h =>
 runD (lenD bP h t4) h fun t5 h =>
 runD (binD aB .gtr t5 (.int .i64 0)) h fun t6 h =>
 aW t6
 (runD (fitD bP (aD h c1)) h fun t7 h =>
 runD (lenD bP h t7) h fun t8 h =>
 runD (minD (.int .i64 7) t8) h fun t9 h =>
 runD (fitD bP (aD h c1)) h fun t11 h =>
 runD (dX bP h t11 none (some t9) none) h fun t13 h =>
 aQ false c c0 [t13] h (fun t14 h =>
 runD (unD .not t14) h fun t15 h =>
 aW t15
 (K (.ret (.tup [])) h)
 (runD (fitD bP (aD h c1)) h fun t16 h =>
 runD (dX bP h t16 (some t9) none none) h fun t18 h =>
 runH (aO bP h c1 t18) h fun _ h =>
 (∃ m, m < n ∧ I m (AV.norms n0 h []) (cJ n0 h)) ∧ AV.norms n0 h [c0, c1] = [c0, c1]))
 (fun v h => K (.pan v) h))
 (J1 h)
def dR.H (c : Ctx) (t0 : AV) (t1 : AV) (h : List AObj) (K : AOut → List AObj → Prop) : Prop :=
 aJ (fun (J1 : List AObj → Prop) =>
 dC [] [] h fun lv h => dR.L1 c J1 K (AV.norms h.length h lv) (cJ h.length h) h.length (AV.norm h.length h t0) (AV.norm h.length h t1))
 (fun h => K (.ret (.tup [])) h)
theorem hH.eq (F : List (FuncId × aE)) (S : List (FuncId × Con)) (t0 : AV) (h : List AObj) (K : AOut → List AObj → Prop) : funW (ctx F S hH.loops) Tryz.f53 [t0] h K = hH.H (ctx F S hH.loops) t0 h K := by kernel_rfl
theorem eP.eq (F : List (FuncId × aE)) (S : List (FuncId × Con)) (t0 t1 : AV) (h : List AObj) (K : AOut → List AObj → Prop) : funW (ctx F S eP.loops) Tryz.f115 [t0, t1] h K = eP.H (ctx F S eP.loops) t0 t1 h K := by kernel_rfl
theorem eT.eq (F : List (FuncId × aE)) (S : List (FuncId × Con)) (t0 : AV) (h : List AObj) (K : AOut → List AObj → Prop) : funW (ctx F S eT.loops) Tryz.f116 [t0] h K = eT.H (ctx F S eT.loops) t0 h K := by kernel_rfl
theorem fL.eq (F : List (FuncId × aE)) (S : List (FuncId × Con)) (Is : List (FuncId × (Con → Con))) (t0 : AV) (h : List AObj) (K : AOut → List AObj → Prop) : funW (ctxI F S Is fL.loops) Tryz.f117 [t0] h K = fL.H (ctxI F S Is fL.loops) t0 h K := by kernel_rfl
theorem fR.eq (F : List (FuncId × aE)) (S : List (FuncId × Con)) (t0 : AV) (h : List AObj) (K : AOut → List AObj → Prop) : funW (ctx F S fR.loops) Tryz.f125 [t0] h K = fR.H (ctx F S fR.loops) t0 h K := by kernel_rfl
theorem dR.eq (F : List (FuncId × aE)) (S : List (FuncId × Con)) (l : Nat) (Y : Con) (t0 t1 : AV) (h : List AObj) (K : AOut → List AObj → Prop) : funW ((ctx F S dR.loops).withY l Y) Tryz.f141 [t0, t1] h K = dR.H ((ctx F S dR.loops).withY l Y) t0 t1 h K := by kernel_rfl
theorem hH.at : Tryz.prog.funcs[53]? = some Tryz.f53 := by kernel_rfl
theorem hH.nm : (Tryz.f53.name == "runtime.NumGoroutine") = false := by kernel_rfl
theorem hH.bd : Tryz.f53.body.isNone = false := by kernel_rfl
theorem eP.at : Tryz.prog.funcs[115]? = some Tryz.f115 := by kernel_rfl
theorem eP.nm : (Tryz.f115.name == "runtime.NumGoroutine") = false := by kernel_rfl
theorem eP.bd : Tryz.f115.body.isNone = false := by kernel_rfl
theorem eT.at : Tryz.prog.funcs[116]? = some Tryz.f116 := by kernel_rfl
theorem eT.nm : (Tryz.f116.name == "runtime.NumGoroutine") = false := by kernel_rfl
theorem eT.bd : Tryz.f116.body.isNone = false := by kernel_rfl
theorem fL.at : Tryz.prog.funcs[117]? = some Tryz.f117 := by kernel_rfl
theorem fL.nm : (Tryz.f117.name == "runtime.NumGoroutine") = false := by kernel_rfl
theorem fL.bd : Tryz.f117.body.isNone = false := by kernel_rfl
theorem fR.at : Tryz.prog.funcs[125]? = some Tryz.f125 := by kernel_rfl
theorem fR.nm : (Tryz.f125.name == "runtime.NumGoroutine") = false := by kernel_rfl
theorem fR.bd : Tryz.f125.body.isNone = false := by kernel_rfl
theorem dR.at : Tryz.prog.funcs[141]? = some Tryz.f141 := by kernel_rfl
theorem dR.nm : (Tryz.f141.name == "runtime.NumGoroutine") = false := by kernel_rfl
theorem dR.bd : Tryz.f141.body.isNone = false := by kernel_rfl
end Lam
namespace Lam
open Go Go.Proofs
theorem aGN (c : Ctx) (id : Nat) (r : Loop) (J : AV → AV → List AObj → Prop) (K : AOut → List AObj → Prop) (p : aY) (hp : p.length ≤ 7) (v k : Nat) (s : aY) (xs : List Int)
   (hJ : J (.ptr 0 []) (.int .i64 (pw p : Nat)) [.box (.sref false 2 v 0 k), .box (.str s), .row .own v (.ints .i64 xs), .lp .busy none r]) :
   fL.L1 c id r J K [.int .i64 0, .int .i64 0] [.box (.sref false 2 v 0 k), .box (.str s), .row .own v (.ints .i64 xs), .lp .busy none r] 4 (.ptr 0 []) (.str p) (.int .i64 p.length) := by
 unfold fL.L1
 refine ⟨fun m lv h' => ∃ j : Nat, j + m = p.length ∧ lv = [.int .i64 (pv (p.take j) * 256 ^ (7 - j) : Nat), .int .i64 j] ∧ h' = [.box (.sref false 2 v 0 k), .box (.str s), .row .own v (.ints .i64 xs), .lp .busy none r],
   ⟨p.length, 0, by omega, by simp [pv], rfl⟩, ?_⟩
 rintro m h' t4 t11 ⟨j, hj, hlv, rfl⟩
 simp only [List.cons.injEq, and_true] at hlv
 obtain ⟨rfl, rfl⟩ := hlv
 simp only [go_sem, reduceEqDiff, Nat.reduceLT, reduceAdd, reduceSub, reduceLeDiff, reduceReplicate, reduceToNat]
 refine ⟨fun hlt => ?_, fun hge => ?_⟩
 · have hjp : j < p.length := by omega
   have e1 : IntKind.i64.wrap (6 - (j : Int)) = 6 - j := w64 (by omega) (by omega)
   refine ⟨by omega, by rw [e1, w64 (by omega) (by omega)]; omega, m - 1, by omega, j + 1, by omega, ?_⟩
   rw [aNd p hp hjp, w64 (by omega) (by omega)]
   rfl
 · have : j = p.length := by omega
   subst this
   rw [List.take_length] at *
   exact hJ

def dR.I : Con → Con := fun Y args h K => match args with
 | [.fn (.yield l) [] [], a0] => dR.H ((ctx [] [] dR.loops).withY l Y) (.fn (.yield l) [] []) a0 h K
 | _ => False
theorem dR.spec : qK Tryz.prog 141 dR.I := by
 refine qK.of (bR (F := []) (S := []) (by simp) (by simp) dR.loops).toOkI dR.at dR.nm dR.bd ?_
 intro Yc l cap h K hC
 unfold dR.I at hC
 split at hC
 · rename_i e
   simp only [List.cons.injEq, AV.fn.injEq, Fn.yield.injEq, and_true, true_and] at e
   obtain ⟨rfl, rfl⟩ := e
   rw [dR.eq]; exact hC
 · exact hC.elim
def fR.K : Con := fun args h K => match args with
 | [a0] => fR.H (ctx [] [] fR.loops) a0 h K
 | _ => False
theorem fR.spec : dH Tryz.prog 125 fR.K := by
 refine dH.of (bR (F := []) (S := []) (by simp) (by simp) fR.loops) fR.at fR.nm fR.bd ?_
 intro args h K hC
 unfold fR.K at hC
 split at hC
 · rw [fR.eq]; exact hC
 · exact hC.elim
def fL.C : aE
 | [.str s] => some (false, pD (roomy s.length) (.sl false (.ints .i64 (keyW s))))
 | _ => none
theorem fL.spec : bI Tryz.prog 117 fL.C := by
 refine bI.of (aBm (F := []) (S := [(125, fR.K)]) (Is := [(141, dR.I)]) (by simp) (by simpa using fR.spec) (by simpa using dR.spec) fL.loops) fL.at fL.nm fL.bd ?_
 intro vs b S v news e hS
 unfold fL.C at e
 split at e
 rotate_left
 · cases e
 cases e
 rw [fL.eq]
 unfold fL.H
 simp (maxSteps := 4000000) only [go_sem, reduceEqDiff, Nat.reduceLT, reduceAdd, reduceSub, reduceLeDiff, reduceReplicate, reduceToNat, fR.K, fR.H, dR.I, dR.H, aA]
 rename_i s
 unfold roomy at hS
 intro l r
 unfold dR.L1
 refine ⟨fun m lv h' => ∃ k v : Nat, k + m = iK s ∧ h' = [.box (.sref false 2 v 0 k), .box (.str (s.drop (7*k))), .row .own v (.ints .i64 ((keyW s).take k)), .lp .ready none r], ⟨iK s, 0, 0, by omega, by simp⟩, ?_⟩
 rintro m h' ⟨k, v, hk, rfl⟩
 have hwl : (keyW s).length = iK s := by simp [keyW]
 have hnp : iK s = (s.length + 6) / 7 := rfl
 have hacc : ((keyW s).take k).length = k := by simp; omega
 simp only [go_sem, reduceEqDiff, Nat.reduceLT, reduceAdd, reduceSub, reduceLeDiff, reduceReplicate, reduceToNat, List.length_drop]
 refine ⟨fun hlt => ?_, fun hge => ?_⟩
 · have hn : (if ((s.length - 7 * k : Nat) : Int) < 7 then ((s.length - 7 * k : Nat) : Int) else 7) = ((min 7 (s.length - 7 * k) : Nat) : Int) := by split <;> omega
   simp only [hn, Int.toNat_natCast]
   have hpc : (s.drop (7 * k)).take (min 7 (s.length - 7 * k)) = pC s k := by
     unfold pC
     rcases Nat.lt_or_ge (s.length - 7 * k) 7 with h | h
     · rw [Nat.min_eq_right (by omega), List.take_of_length_le (by simp), List.take_of_length_le (by simp; omega)]
     · rw [Nat.min_eq_left (by omega)]
   rw [hpc]
   have hpl : (pC s k).length ≤ 7 := by unfold pC; simp; omega
   refine ⟨by omega, aGN _ _ _ _ _ _ hpl _ _ _ _ ?_⟩
   simp only [go_sem, reduceEqDiff, Nat.reduceLT, reduceAdd, reduceSub, reduceLeDiff, reduceReplicate, reduceToNat, hacc]
   have hkn : k < iK s := by omega
   have hnext : (keyW s).take (k + 1) = (keyW s).take k ++ [(pw (pC s k) : Int)] := by
     rw [gQ _ k 0 (by omega), aJu s hkn]
   have hd : (s.drop (7 * k)).drop (min 7 (s.length - 7 * k)) = s.drop (7 * (k + 1)) := by
     rw [List.drop_drop]
     rcases Nat.lt_or_ge (s.length - 7 * k) 7 with h | h
     · rw [List.drop_eq_nil_of_le (by omega), List.drop_eq_nil_of_le (by omega)]
     · congr 1; omega
   have hl1 : ((keyW s).take (k + 1)).length = k + 1 := by simp; omega
   rw [← hnext, hd, hl1]
   refine ⟨by unfold roomy; omega, by simp; omega, m - 1, by omega, k + 1, v + 1, by omega, rfl⟩
 · have : k = iK s := by omega
   subst this
   rw [List.take_of_length_le (by omega)]
   refine aG ?_ rfl
   have := hacc
   rw [List.take_of_length_le (by omega)] at this
   simp only [go_sem, reduceEqDiff, Nat.reduceLT, reduceAdd, reduceSub, reduceLeDiff, reduceReplicate, reduceToNat, List.take_of_length_le (Nat.le_of_eq hwl)]
def aBn (l : List Int) (n : Int) : AV := .tup [.str (if nU l n = true then wO l n else []), .int .i64 (if nU l n = true then 0 else 20)]
@[go_sem] theorem aSm (l : List Int) (n : Int) : (aBn l n).noSl = true := (rfl)
theorem aCq {l : List Int} {n : Int} (hb : nU l n = false) (h : List AObj) : Post false (aBn l n) [] (.ret (.tup [.str [], .int .i64 20])) h := by
 unfold aBn; rw [hb]; exact aG rfl rfl
def eP.C : aE
 | [.sl _ (.ints .i64 l), .int .i64 n] => some (false, pD (roomy (7 * l.length) ∧ n < 9223372036854775808) (aBn l n))
 | _ => none
theorem aHR (c : Ctx) (J : AV → AV → AV → AV → AV → List AObj → Prop) (K : AOut → List AObj → Prop) (n w : Int) (l pre : List Int) (v k len : Nat) (hr : pre.length + 7 ≤ 1099511627776)
   (hJ : J (.int .i64 n) (.sref false 0 (v + 7) 0 (pre.length + 7)) (.sl false (.ints .i64 l)) (.int .i64 len) (.int .i64 k) [.row .own (v + 7) (.ints .u8 (pre ++ rR w))]) :
   eP.L2 c J K [.sref false 0 v 0 pre.length, .int .i64 0] [.row .own v (.ints .u8 pre)] 1 (.int .i64 n) (.int .i64 w) (.sl false (.ints .i64 l)) (.int .i64 len) (.int .i64 k) := by
 unfold eP.L2
 refine ⟨fun m lv h' => ∃ j : Nat, j + m = 7 ∧ lv = [.sref false 0 (v + j) 0 (pre.length + j), .int .i64 j] ∧ h' = [.row .own (v + j) (.ints .u8 (pre ++ (List.range j).map (rQ w)))],
   ⟨7, 0, by omega, by simp, by simp⟩, ?_⟩
 rintro m h' t6 t41 ⟨j, hj, hlv, rfl⟩
 simp only [List.cons.injEq, and_true] at hlv
 obtain ⟨rfl, rfl⟩ := hlv
 have hlen : (pre ++ (List.range j).map (rQ w)).length = pre.length + j := by simp
 simp only [go_sem, reduceEqDiff, Nat.reduceLT, reduceAdd, reduceSub, reduceLeDiff, reduceReplicate, reduceToNat, hlen]
 refine ⟨fun hlt => ?_, fun hge => ?_⟩
 · have e1 : IntKind.i64.wrap (6 - (j : Int)) = 6 - j := w64 (by omega) (by omega)
   have e2 : IntKind.i64.wrap (8 * (6 - (j : Int))) = 8 * (6 - j) := w64 (by omega) (by omega)
   have e3 : (8 * (6 - (j : Int))).toNat = 8 * (6 - j) := by omega
   have e4 : min (8 * (6 - j)) 64 = 8 * (6 - j) := by omega
   simp only [e1, e2, e3, e4]
   have hz : (List.range j).map (rQ w) ++ [IntKind.u8.wrap (w.fdiv (2 ^ (8 * (6 - j))))] = (List.range (j + 1)).map (rQ w) := by rw [List.range_succ]; simp [rQ]
   have hl2 : (pre ++ (List.range (j + 1)).map (rQ w)).length = pre.length + (j + 1) := by simp
   rw [hz, hl2, w64 (by omega) (by omega)]
   exact ⟨by omega, by unfold roomy; omega, m - 1, by omega, j + 1, by omega, rfl, rfl⟩
 · have : j = 7 := by omega
   subst this
   exact hJ

theorem eP.spec : bI Tryz.prog 115 eP.C := by
 refine bI.of (bR (F := []) (S := []) (by simp) (by simp) eP.loops) eP.at eP.nm eP.bd ?_
 intro vs b S v news e hS
 unfold eP.C at e
 split at e
 rotate_left
 · cases e
 cases e
 rw [eP.eq]
 unfold eP.H
 simp (maxSteps := 4000000) only [go_sem, reduceEqDiff, Nat.reduceLT, reduceAdd, reduceSub, reduceLeDiff, reduceReplicate, reduceToNat]
 rename_i l n
 unfold roomy at hS
 obtain ⟨hS, hn63⟩ := hS
 refine ⟨fun _ => by decide, fun hb => aCq ?_ _, fun hb => ?_⟩
 · have hb : (!decide (n < 0) && decide ((l.length : Int) = lenT n)) = false := by
     unfold lenT
     revert hb
     cases decide (n < 0) <;> simp
   unfold nU
   rw [hb]; rfl
 have hb1 : ¬ n < 0 := by intro h; simp [h] at hb
 have hb2 : (l.length : Int) = lenT n := by
   rw [decide_eq_false hb1, Bool.false_or, Bool.not_eq_false', decide_eq_true_eq] at hb
   exact hb
 have e7 : IntKind.i64.wrap (7 * (l.length : Int)) = ((7 * l.length : Nat) : Int) := by rw [w64 (by omega) (by omega)]; omega
 refine ⟨⟨by omega, by rw [e7]; omega, by rw [e7, Int.toNat_natCast]; exact hS⟩, ?_⟩
 rw [aA]
 unfold eP.L1
 refine ⟨fun m lv h' => ∃ k v : Nat, k + m = l.length ∧ lv = [.sref false 0 v 0 (7 * k), .int .i64 k] ∧ h' = [.row .own v (.ints .u8 (jV (l.take k)))] ∧ (l.take k).all wMay = true,
   ⟨l.length, 0, 0, by omega, rfl, rfl, rfl⟩, ?_⟩
 rintro m h' t6 t31 ⟨k, v, hk, hlv, rfl, hall⟩
 simp only [List.cons.injEq, and_true] at hlv
 obtain ⟨rfl, rfl⟩ := hlv
 have hfl : (jV (l.take k)).length = 7 * k := by rw [aKM, List.length_take, Nat.min_eq_left (by omega)]
 simp only [go_sem, reduceEqDiff, Nat.reduceLT, reduceAdd, reduceSub, reduceLeDiff, reduceReplicate, reduceToNat, hfl]
 refine ⟨fun hlt => ?_, fun hge => ?_⟩
 · have hkl : k < l.length := by omega
   rw [aA]
   refine ⟨by omega, fun hbad => aCq ?_ _, fun hok => ?_⟩
   · have : l.all wMay = false := by
       rw [List.all_eq_false]
       refine ⟨_, lK l k 0 hkl, fun h => ?_⟩
       simp only [wMay, Bool.and_eq_true, decide_eq_true_eq] at h
       simp only [Bool.or_eq_true, decide_eq_true_eq] at hbad
       omega
     simp [nU, this]
   · have hw : wMay (l.getD k 0) = true := by
       simp only [Bool.or_eq_false_iff, decide_eq_false_iff_not] at hok
       simp only [wMay, Bool.and_eq_true, decide_eq_true_eq]; omega
     rw [aA]
     have hL2 := aHR (ctx [] [] eP.loops)
     rw [← hfl]
     refine hL2 _ _ _ _ _ _ _ _ _ (by rw [hfl]; omega) ?_
     have hnx : jV (l.take k) ++ rR (l.getD k 0) = jV (l.take (k + 1)) := by
       rw [gQ l k 0 hkl]; simp [jV]
     rw [hnx, hfl]
     simp only [go_sem, reduceEqDiff, Nat.reduceLT, reduceAdd, reduceSub, reduceLeDiff, reduceReplicate, reduceToNat]
     have hmx : ¬ (False) := id
     refine ⟨m - 1, by omega, k + 1, v + 7, by omega, by rw [w64 (by omega) (by omega)]; rfl, rfl, ?_⟩
     rw [gQ l k 0 hkl, List.all_append, hall, Bool.true_and, List.all_cons, hw]
     rfl
 · have : k = l.length := by omega
   subst this
   rw [List.take_length] at *
   obtain ⟨N, rfl⟩ : ∃ N : Nat, n = N := ⟨n.toNat, by omega⟩
   have hN : (l.length : Int) = ((N + 6) / 7 : Nat) := by rw [hb2, aGC N (by omega)]
   refine ⟨by omega, ?_⟩
   rw [aA, Int.toNat_natCast]
   unfold eP.L3
   refine ⟨fun m lv h' => ∃ j : Nat, j + m = 7 * l.length - N ∧ lv = [.int .i64 j] ∧ h' = [.row .own v (.ints .u8 (jV l))] ∧ ∀ i, i < j → (jV l).getD (N + i) 0 = 0,
     ⟨_, 0, Nat.zero_add _, rfl, rfl, fun i hi => by omega⟩, ?_⟩
   rintro m h' t59 ⟨j, hj, hlv, rfl, hz⟩
   simp only [List.cons.injEq, and_true] at hlv
   subst hlv
   simp only [go_sem, reduceEqDiff, Nat.reduceLT, reduceAdd, reduceSub, reduceLeDiff, reduceReplicate, reduceToNat, hfl]
   refine ⟨fun hlt => ⟨by omega, by omega, fun h0 => aCq ?_ _, fun h0 => ?_⟩, fun hge => ⟨by omega, ?_⟩⟩
   · have : ((jV l).drop N).all (fun b => decide (b = 0)) = false := by
       rw [List.all_eq_false]
       have hjl : j < ((jV l).drop N).length := by rw [List.length_drop, hfl]; omega
       have e : ((jV l).drop N).getD j 0 = (jV l).getD (N + j) 0 := by rw [List.getD_eq_getElem?_getD, List.getD_eq_getElem?_getD, List.getElem?_drop]
       exact ⟨_, lK _ j 0 hjl, by rw [e]; simpa using h0⟩
     simp [nU, this]
   · refine ⟨m - 1, by omega, j + 1, by omega, by rw [w64 (by omega) (by omega)]; rfl, fun i hi => ?_⟩
     by_cases e : i = j
     · subst e; exact h0
     · exact hz i (by omega)
   · have hj2 : j = 7 * l.length - N := by omega
     have hzero : ((jV l).drop N).all (fun b => decide (b = 0)) = true := by
       rw [List.all_eq_true]
       intro b hb
       obtain ⟨i, hi, rfl⟩ := List.getElem_of_mem hb
       rw [List.length_drop, hfl] at hi
       have := hz i (by omega)
       rw [List.getD_eq_getElem?_getD, List.getElem?_eq_getElem (by rw [hfl]; omega)] at this
       rw [List.getElem_drop]
       simpa using this
     have hB : nU l N = true := by
       unfold nU
       rw [hall, Int.toNat_natCast, hzero, decide_eq_false hb1, decide_eq_true hb2]; rfl
     unfold aBn wO
     simp only [hB, if_true]
     exact aG rfl rfl
def hH.C : aE
 | [.str s] => some (false, pD True (.bool (decide (s ≠ []) && decide ((s.length : Int) ≤ 21))))
 | _ => none
theorem hH.spec : bI Tryz.prog 53 hH.C := by
 refine bI.of (bR (F := []) (S := []) (by simp) (by simp) hH.loops) hH.at hH.nm hH.bd ?_
 intro vs b S v news e hS
 unfold hH.C at e
 split at e
 rotate_left
 · cases e
 cases e
 rw [hH.eq]
 unfold hH.H
 simp (maxSteps := 4000000) only [go_sem, reduceEqDiff, Nat.reduceLT, reduceAdd, reduceSub, reduceLeDiff, reduceReplicate, reduceToNat]
 rename_i s
 have : (decide ¬s = []) = !decide (s = []) := by by_cases h : s = [] <;> simp [h]
 rw [this]
 exact aG rfl rfl
def eT.C : aE
 | [.str s] => some (false, pD True (.bool (decide ((s.length : Int) ≤ 21))))
 | _ => none
theorem eT.spec : bI Tryz.prog 116 eT.C := by
 refine bI.of (bR (F := []) (S := []) (by simp) (by simp) eT.loops) eT.at eT.nm eT.bd ?_
 intro vs b S v news e hS
 unfold eT.C at e
 split at e
 rotate_left
 · cases e
 cases e
 rw [eT.eq]
 unfold eT.H
 simp (maxSteps := 4000000) only [go_sem, reduceEqDiff, Nat.reduceLT, reduceAdd, reduceSub, reduceLeDiff, reduceReplicate, reduceToNat]
 exact aG rfl rfl
end Lam
namespace Lam
open Go Go.Proofs
def dO.loops : Nat → bX
 | 1 => ⟨[], [], [], [(3, none), (5, some [11, 16])], [], []⟩
 | _ => ⟨[], [], [], [], [], []⟩
def dO.H (c : Ctx) (t0 : AV) (t1 : AV) (h : List AObj) (K : AOut → List AObj → Prop) : Prop :=
 cP aK h fun t4 h =>
 runD (binD aB .lss t1 (.int .i64 0)) h fun t10 h =>
 aJ (fun (J1 : AV → AV → List AObj → Prop) =>
 aT t10 false
 (runD (lenD aM h t0) h fun t14 h =>
 runD (binD aB .quo t14 (.int .i64 16)) h fun t15 h =>
 runD (binD aB .geq t1 t15) h fun t16 h =>
 J1 (.bool false) t16 h)
 (J1 (.bool true) .und h))
 (fun t11 t16 h => runD (bK t11 (.bool true) t16) h fun t17 h =>
 aW t17
 (runD (gT aK []) h fun t18 h =>
 runH (aO aK h t4 t18) h fun _ h =>
 cT (fitD aK (aD h t4)) fun r0 => K (.ret (.tup [r0, (.int .i64 1)])) h)
 (cP dL h fun t6 h =>
 runD (dX dL h t6 none none none) h fun t19 h =>
 runD (binD aB .mul (.int .i64 16) t1) h fun t22 h =>
 runD (dX aM h t0 (some t22) none none) h fun t23 h =>
 runM (mD aM h t19 t23) h fun t24 h =>
 runD (aH dL h t6 (.int .i64 0)) h fun t25 h =>
 runD (fitD aB (aD h t25)) h fun t26 h =>
 runD (gT aK [(0, t26)]) h fun t27 h =>
 cP aK h fun t7 h =>
 runH (aO aK h t7 t27) h fun _ h =>
 runD (fitD dL (aD h t6)) h fun t29 h =>
 runD (aH dL h t6 (.int .i64 1)) h fun t30 h =>
 runD (fitD aB (aD h t30)) h fun t31 h =>
 runD (binD aB .quo t31 (.int .i64 32)) h fun t32 h =>
 aQ false c (.fn (.func 99) [] []) [t29, (.int .i64 3), t32] h (fun t33 h =>
 runD (aV t33 0) h fun t34 h =>
 runD (aV t33 1) h fun t35 h =>
 runD (aC aK t7 1) h fun t36 h =>
 runH (aO bP h t36 t34) h fun _ h =>
 runD (unD .not t35) h fun t38 h =>
 aW t38
 (runD (gT aK []) h fun t39 h =>
 runH (aO aK h t4 t39) h fun _ h =>
 cT (fitD aK (aD h t4)) fun r0 => K (.ret (.tup [r0, (.int .i64 70)])) h)
 (runD (aC aK t7 0) h fun t40 h =>
 runD (fitD aB (aD h t40)) h fun t41 h =>
 runD (binD aB .eql t41 (.int .i64 1)) h fun t43 h =>
 aJ (fun (J2 : AV → List AObj → Prop) =>
 aW t43
 (runD (fitD dL (aD h t6)) h fun t45 h =>
 runD (aH dL h t6 (.int .i64 1)) h fun t46 h =>
 runD (fitD aB (aD h t46)) h fun t47 h =>
 runD (binD aB .rem t47 (.int .i64 32)) h fun t48 h =>
 aQ false c (.fn (.func 99) [] []) [t45, (.int .i64 6), t48] h (fun t49 h =>
 runD (aV t49 0) h fun t50 h =>
 runD (aV t49 1) h fun t51 h =>
 runD (aC aK t7 2) h fun t52 h =>
 runH (aO bP h t52 t50) h fun _ h =>
 J2 t51 h)
 (fun v h => K (.pan v) h))
 (runD (binD aB .eql t41 (.int .i64 2)) h fun t54 h =>
 aJ (fun (J3 : List AObj → Prop) =>
 aW t54
 (runD (aH dL h t6 (.int .i64 6)) h fun t55 h =>
 runD (fitD aB (aD h t55)) h fun t56 h =>
 runD (aC aK t7 3) h fun t57 h =>
 runH (aO aB h t57 t56) h fun _ h =>
 J3 h)
 (J3 h))
 (fun h => J2 t35 h)))
 (fun t8 h => runD (unD .not t8) h fun t59 h =>
 aJ (fun (J4 : AV → AV → List AObj → Prop) =>
 aT t59 false
 (runD (fitD aK (aD h t7)) h fun t61 h =>
 aQ false c.noS (.fn (.func 100) [] []) [t61] h (fun t62 h =>
 runD (unD .not t62) h fun t63 h =>
 J4 (.bool false) t63 h)
 (fun _ _ => False))
 (J4 (.bool true) .und h))
 (fun t60 t63 h => runD (bK t60 (.bool true) t63) h fun t64 h =>
 aJ (fun (J5 : AV → AV → List AObj → Prop) =>
 aT t64 false
 (runD (fitD aK (aD h t7)) h fun t66 h =>
 aQ false c.noS (.fn (.func 101) [] []) [t66] h (fun t67 h =>
 runD (fitD dL (aD h t6)) h fun t68 h =>
 runD (binD dL .neq t67 t68) h fun t69 h =>
 J5 (.bool false) t69 h)
 (fun _ _ => False))
 (J5 (.bool true) .und h))
 (fun t65 t69 h => runD (bK t65 (.bool true) t69) h fun t70 h =>
 aW t70
 (runD (gT aK []) h fun t71 h =>
 runH (aO aK h t4 t71) h fun _ h =>
 cT (fitD aK (aD h t4)) fun r0 => K (.ret (.tup [r0, (.int .i64 70)])) h)
 (runD (fitD aK (aD h t7)) h fun t72 h =>
 runH (aO aK h t4 t72) h fun _ h =>
 cT (fitD aK (aD h t4)) fun r0 => K (.ret (.tup [r0, (.int .i64 0)])) h))))))
 (fun v h => K (.pan v) h)))
def iI.loops : Nat → bX
 | 1 => ⟨[], [], [], [(3, none), (2, some [12, 14])], [], []⟩
 | _ => ⟨[], [], [], [], [], []⟩
def iI.H (c : Ctx) (t0 : AV) (t1 : AV) (t2 : AV) (h : List AObj) (K : AOut → List AObj → Prop) : Prop :=
 boxW dL t0 h fun t3 h =>
 runD (binD aB .lss t2 (.int .i64 0)) h fun t11 h =>
 aJ (fun (J1 : AV → AV → List AObj → Prop) =>
 aT t11 false
 (runD (binD aB .gtr t2 (.int .i64 21)) h fun t14 h =>
 J1 (.bool false) t14 h)
 (J1 (.bool true) .und h))
 (fun t12 t14 h => runD (bK t12 (.bool true) t14) h fun t15 h =>
 aW t15
 (K (.ret (.tup [(.str []), (.bool false)])) h)
 (runD (binD aB .add t2 (.int .i64 6)) h fun t20 h =>
 runD (binD aB .quo t20 (.int .i64 7)) h fun t21 h =>
 runD (binD aB .add t1 t21) h fun t22 h =>
 runD (dX dL h t3 (some t1) (some t22) none) h fun t23 h =>
 aQ false c (.fn (.func 115) [] []) [t23, t2] h (fun t25 h =>
 runD (aV t25 0) h fun t26 h =>
 runD (aV t25 1) h fun t27 h =>
 runD (binD cM .eql t27 (.int .i64 0)) h fun t30 h =>
 K (.ret (.tup [t26, t30])) h)
 (fun v h => K (.pan v) h)))
def fC.loops : Nat → bX
 | 3 => ⟨[], [], [], [(4, none), (3, some [10, 13]), (2, none), (3, some [15, 18])], [], []⟩
 | 5 => ⟨[], [], [], [(4, none), (3, some [25, 28]), (2, none), (3, some [30, 33]), (2, none), (3, some [35, 38]), (2, none), (3, some [40, 43])], [], []⟩
 | _ => ⟨[], [], [], [], [], []⟩
def fC.H (c : Ctx) (t0 : AV) (h : List AObj) (K : AOut → List AObj → Prop) : Prop :=
 boxW aK t0 h fun t1 h =>
 runD (aC aK t1 0) h fun t3 h =>
 runD (fitD aB (aD h t3)) h fun t4 h =>
 runD (binD aB .eql t4 (.int .i64 1)) h fun t6 h =>
 aW t6
 (runD (aC aK t1 1) h fun t7 h =>
 runD (fitD bP (aD h t7)) h fun t8 h =>
 aQ false c (.fn (.func 53) [] []) [t8] h (fun t9 h =>
 aJ (fun (J1 : AV → AV → List AObj → Prop) =>
 aT t9 true
 (runD (aC aK t1 2) h fun t11 h =>
 runD (fitD bP (aD h t11)) h fun t12 h =>
 aQ false c (.fn (.func 116) [] []) [t12] h (fun t13 h =>
 J1 (.bool true) t13 h)
 (fun v h => K (.pan v) h))
 (J1 (.bool false) .und h))
 (fun t10 t13 h => runD (bK t10 t13 (.bool false)) h fun t14 h =>
 aJ (fun (J2 : AV → AV → List AObj → Prop) =>
 aT t14 true
 (runD (aC aK t1 3) h fun t16 h =>
 runD (fitD aB (aD h t16)) h fun t17 h =>
 runD (binD aB .eql t17 (.int .i64 0)) h fun t18 h =>
 J2 (.bool true) t18 h)
 (J2 (.bool false) .und h))
 (fun t15 t18 h => runD (bK t15 t18 (.bool false)) h fun t19 h =>
 K (.ret t19) h)))
 (fun v h => K (.pan v) h))
 (runD (binD aB .eql t4 (.int .i64 2)) h fun t21 h =>
 aW t21
 (runD (aC aK t1 1) h fun t22 h =>
 runD (fitD bP (aD h t22)) h fun t23 h =>
 runD (binD bP .eql t23 (.str [])) h fun t24 h =>
 aJ (fun (J3 : AV → AV → List AObj → Prop) =>
 aT t24 false
 (runD (aC aK t1 1) h fun t26 h =>
 runD (fitD bP (aD h t26)) h fun t27 h =>
 aQ false c (.fn (.func 53) [] []) [t27] h (fun t28 h =>
 J3 (.bool false) t28 h)
 (fun v h => K (.pan v) h))
 (J3 (.bool true) .und h))
 (fun t25 t28 h => runD (bK t25 (.bool true) t28) h fun t29 h =>
 aJ (fun (J4 : AV → AV → List AObj → Prop) =>
 aT t29 true
 (runD (aC aK t1 2) h fun t31 h =>
 runD (fitD bP (aD h t31)) h fun t32 h =>
 runD (binD bP .eql t32 (.str [])) h fun t33 h =>
 J4 (.bool true) t33 h)
 (J4 (.bool false) .und h))
 (fun t30 t33 h => runD (bK t30 t33 (.bool false)) h fun t34 h =>
 aJ (fun (J5 : AV → AV → List AObj → Prop) =>
 aT t34 true
 (runD (aC aK t1 3) h fun t36 h =>
 runD (fitD aB (aD h t36)) h fun t37 h =>
 runD (binD aB .gtr t37 (.int .i64 0)) h fun t38 h =>
 J5 (.bool true) t38 h)
 (J5 (.bool false) .und h))
 (fun t35 t38 h => runD (bK t35 t38 (.bool false)) h fun t39 h =>
 aJ (fun (J6 : AV → AV → List AObj → Prop) =>
 aT t39 true
 (runD (aC aK t1 3) h fun t41 h =>
 runD (fitD aB (aD h t41)) h fun t42 h =>
 runD (binD aB .lss t42 (.int .i64 256)) h fun t43 h =>
 J6 (.bool true) t43 h)
 (J6 (.bool false) .und h))
 (fun t40 t43 h => runD (bK t40 t43 (.bool false)) h fun t44 h =>
 K (.ret t44) h)))))
 (K (.ret (.bool false)) h))
def iZ.loops : Nat → bX
 | _ => ⟨[], [], [], [], [], []⟩
def iZ.H (c : Ctx) (t0 : AV) (h : List AObj) (K : AOut → List AObj → Prop) : Prop :=
 boxW aK t0 h fun t1 h =>
 cP dL h fun t2 h =>
 runD (aC aK t1 0) h fun t4 h =>
 runD (fitD aB (aD h t4)) h fun t5 h =>
 runD (aC aK t1 1) h fun t6 h =>
 runD (fitD bP (aD h t6)) h fun t7 h =>
 runD (lenD bP h t7) h fun t8 h =>
 runD (binD aB .mul (.int .i64 32) t8) h fun t9 h =>
 runD (aC aK t1 2) h fun t10 h =>
 runD (fitD bP (aD h t10)) h fun t11 h =>
 runD (lenD bP h t11) h fun t12 h =>
 runD (binD aB .add t9 t12) h fun t13 h =>
 runD (gT dL [(0, t5), (1, t13)]) h fun t14 h =>
 cP dL h fun t3 h =>
 runH (aO dL h t3 t14) h fun _ h =>
 runD (dX dL h t3 (some (.int .i64 3)) none none) h fun t15 h =>
 runD (aC aK t1 1) h fun t16 h =>
 runD (fitD bP (aD h t16)) h fun t17 h =>
 aQ false c.noS (.fn (.func 117) [] []) [t17] h (fun t18 h =>
 runM (mD aM h t15 t18) h fun t19 h =>
 runD (dX dL h t3 (some (.int .i64 6)) none none) h fun t20 h =>
 runD (aC aK t1 2) h fun t21 h =>
 runD (fitD bP (aD h t21)) h fun t22 h =>
 aQ false c.noS (.fn (.func 117) [] []) [t22] h (fun t23 h =>
 runM (mD aM h t20 t23) h fun t24 h =>
 runD (aC aK t1 0) h fun t25 h =>
 runD (fitD aB (aD h t25)) h fun t26 h =>
 runD (binD aB .eql t26 (.int .i64 2)) h fun t27 h =>
 aJ (fun (J1 : List AObj → Prop) =>
 aW t27
 (runD (aC aK t1 3) h fun t28 h =>
 runD (fitD aB (aD h t28)) h fun t29 h =>
 runD (aH dL h t3 (.int .i64 6)) h fun t30 h =>
 runH (aO aB h t30 t29) h fun _ h =>
 J1 h)
 (J1 h))
 (fun h => runD (fitD dL (aD h t3)) h fun t31 h =>
 aQ false c (.fn (.func 118) [] []) [t31] h (fun t32 h =>
 runH (aO dL h t2 t32) h fun _ h =>
 cT (fitD dL (aD h t2)) fun r0 => K (.ret r0) h)
 (fun v h => K (.pan v) h)))
 (fun _ _ => False))
 (fun _ _ => False)
def fZ.loops : Nat → bX
 | _ => ⟨[], [], [], [], [], []⟩
def fZ.H (c : Ctx) (t0 : AV) (h : List AObj) (K : AOut → List AObj → Prop) : Prop :=
 boxW dL t0 h fun t1 h =>
 cP dL h fun t2 h =>
 runD (aH dL h t1 (.int .i64 0)) h fun t4 h =>
 runD (fitD aB (aD h t4)) h fun t5 h =>
 runD (aH dL h t1 (.int .i64 1)) h fun t6 h =>
 runD (fitD aB (aD h t6)) h fun t7 h =>
 runD (eN aM 2 [(0, t5), (1, t7)] h.length) h fun t8 h =>
 runD (dX dL h t1 (some (.int .i64 3)) none none) h fun t9 h =>
 jC (fI aM h t8 t9 h.length) (fW aM h t8 t9) h fun t10 h =>
 aQ false c (.fn (.func 93) [] []) [t10] h (fun t12 h =>
 runD (aH dL h t1 (.int .i64 2)) h fun t13 h =>
 runH (aO aB h t13 t12) h fun _ h =>
 runD (fitD dL (aD h t1)) h fun t14 h =>
 runH (aO dL h t2 t14) h fun _ h =>
 cT (fitD dL (aD h t2)) fun r0 => K (.ret r0) h)
 (fun v h => K (.pan v) h)
theorem dO.eq (F : List (FuncId × aE)) (S : List (FuncId × Con)) (t0 t1 : AV) (h : List AObj) (K : AOut → List AObj → Prop) : funW (ctx F S dO.loops) Tryz.f79 [t0, t1] h K = dO.H (ctx F S dO.loops) t0 t1 h K := by kernel_rfl
theorem iI.eq (F : List (FuncId × aE)) (S : List (FuncId × Con)) (t0 t1 t2 : AV) (h : List AObj) (K : AOut → List AObj → Prop) : funW (ctx F S iI.loops) Tryz.f99 [t0, t1, t2] h K = iI.H (ctx F S iI.loops) t0 t1 t2 h K := by kernel_rfl
theorem fC.eq (F : List (FuncId × aE)) (S : List (FuncId × Con)) (t0 : AV) (h : List AObj) (K : AOut → List AObj → Prop) : funW (ctx F S fC.loops) Tryz.f100 [t0] h K = fC.H (ctx F S fC.loops) t0 h K := by kernel_rfl
theorem iZ.eq (F : List (FuncId × aE)) (S : List (FuncId × Con)) (t0 : AV) (h : List AObj) (K : AOut → List AObj → Prop) : funW (ctx F S iZ.loops) Tryz.f101 [t0] h K = iZ.H (ctx F S iZ.loops) t0 h K := by kernel_rfl
theorem fZ.eq (F : List (FuncId × aE)) (S : List (FuncId × Con)) (t0 : AV) (h : List AObj) (K : AOut → List AObj → Prop) : funW (ctx F S fZ.loops) Tryz.f118 [t0] h K = fZ.H (ctx F S fZ.loops) t0 h K := by kernel_rfl
theorem dO.at : Tryz.prog.funcs[79]? = some Tryz.f79 := by kernel_rfl
theorem dO.nm : (Tryz.f79.name == "runtime.NumGoroutine") = false := by kernel_rfl
theorem dO.bd : Tryz.f79.body.isNone = false := by kernel_rfl
theorem iI.at : Tryz.prog.funcs[99]? = some Tryz.f99 := by kernel_rfl
theorem iI.nm : (Tryz.f99.name == "runtime.NumGoroutine") = false := by kernel_rfl
theorem iI.bd : Tryz.f99.body.isNone = false := by kernel_rfl
theorem fC.at : Tryz.prog.funcs[100]? = some Tryz.f100 := by kernel_rfl
theorem fC.nm : (Tryz.f100.name == "runtime.NumGoroutine") = false := by kernel_rfl
theorem fC.bd : Tryz.f100.body.isNone = false := by kernel_rfl
theorem iZ.at : Tryz.prog.funcs[101]? = some Tryz.f101 := by kernel_rfl
theorem iZ.nm : (Tryz.f101.name == "runtime.NumGoroutine") = false := by kernel_rfl
theorem iZ.bd : Tryz.f101.body.isNone = false := by kernel_rfl
theorem fZ.at : Tryz.prog.funcs[118]? = some Tryz.f118 := by kernel_rfl
theorem fZ.nm : (Tryz.f118.name == "runtime.NumGoroutine") = false := by kernel_rfl
theorem fZ.bd : Tryz.f118.body.isNone = false := by kernel_rfl
end Lam
namespace Lam
open Go Go.Proofs
def fC.C : aE
 | [.agg [.int .i64 a, .str k, .str v, .int .i64 c]] => some (false, pD True (.bool (recB ⟨a, k, v, c⟩)))
 | _ => none
theorem fC.spec : bI Tryz.prog 100 fC.C := by
 refine bI.of (bR (F := [(53, hH.C), (116, eT.C)]) (S := []) (by simpa using ⟨hH.spec, eT.spec⟩) (by simp) fC.loops) fC.at fC.nm fC.bd ?_
 intro vs b S v news e hS
 unfold fC.C at e
 split at e
 rotate_left
 · cases e
 cases e
 rw [fC.eq]
 unfold fC.H
 simp (maxSteps := 4000000) only [go_sem, reduceEqDiff, Nat.reduceLT, reduceAdd, reduceSub, reduceLeDiff, reduceReplicate, reduceToNat, hH.C, eT.C]
 rename_i a k v c
 have r1 : a = 1 → recB ⟨a, k, v, c⟩ = (decide (¬ k = []) && decide ((List.length k : Int) ≤ 21) && decide ((List.length v : Int) ≤ 21) && decide (c = 0)) := by
   rintro rfl
   unfold recB keyB
   rw [Bool.eq_iff_iff]
   simp [and_assoc]
 have r2 : a = 2 → recB ⟨a, k, v, c⟩ = ((decide (k = []) || decide (¬ k = []) && decide ((List.length k : Int) ≤ 21)) && decide (v = []) && decide (0 < c) && decide (c < 256)) := by
   rintro rfl
   unfold recB keyB
   rw [Bool.eq_iff_iff]
   simp [and_assoc]
 have r3 : ¬ a = 1 → ¬ a = 2 → recB ⟨a, k, v, c⟩ = false := by
   intro h1 h2
   unfold recB
   rw [decide_eq_false h1, decide_eq_false h2]; rfl
 refine ⟨fun h => ?_, fun h => ⟨fun h2 => ?_, fun h2 => ?_⟩⟩
 · rw [r1 h]; exact aG rfl rfl
 · rw [r2 h2]; exact aG rfl rfl
 · rw [r3 h h2]; exact aG rfl rfl
def fZ.C : aE
 | [.arr (.ints .i64 l)] => some (false, pD (l.length = 16) (.arr (.ints .i64 (l.set 2 (aBj (l.getD 0 0 :: l.getD 1 0 :: l.drop 3))))))
 | _ => none
theorem fZ.spec : bI Tryz.prog 118 fZ.C := by
 refine bI.of (bR (F := [(93, iM.C)]) (S := []) (by simpa using iM.spec) (by simp) fZ.loops) fZ.at fZ.nm fZ.bd ?_
 intro vs b S v news e hS
 unfold fZ.C at e
 split at e
 rotate_left
 · cases e
 cases e
 rw [fZ.eq]
 unfold fZ.H
 simp (maxSteps := 4000000) only [go_sem, reduceEqDiff, Nat.reduceLT, reduceAdd, reduceSub, reduceLeDiff, reduceReplicate, reduceToNat, iM.C]
 rename_i l
 simp only [hS, iM.C, aA, gq, reduceEq, reduceLT, reduceLE, implies_true, reduceCtorEq, if_true, if_false, go_sem, reduceEqDiff, Nat.reduceLT, reduceAdd, reduceSub, reduceLeDiff, reduceReplicate, reduceToNat]
 have htk : (l.drop 3).take 13 = l.drop 3 := qU _ (by simp; omega)
 rw [htk]
 have : roomy ((l.drop 3).length + 1 + 1) := by unfold roomy; simp; omega
 exact ⟨this, this, aG rfl rfl⟩
def iZ.C : aE
 | [.agg [.int .i64 a, .str k, .str v, .int .i64 c]] => some (false, pD (Rc.ok ⟨a, k, v, c⟩) (.arr (.ints .i64 (jD ⟨a, k, v, c⟩))))
 | _ => none
theorem iZ.spec : bI Tryz.prog 101 iZ.C := by
 refine bI.of (bR (F := [(117, fL.C), (118, fZ.C)]) (S := []) (by simpa using ⟨fL.spec, fZ.spec⟩) (by simp) iZ.loops) iZ.at iZ.nm iZ.bd ?_
 intro vs b S v news e hS
 unfold iZ.C at e
 split at e
 rotate_left
 · cases e
 cases e
 rw [iZ.eq]
 unfold iZ.H
 simp (maxSteps := 4000000) only [go_sem, reduceEqDiff, Nat.reduceLT, reduceAdd, reduceSub, reduceLeDiff, reduceReplicate, reduceToNat, fL.C, fZ.C]
 rename_i a k v c
 have hok := hS
 have hk := pE hS.key
 have hkl : (keyW k).length = (k.length + 6) / 7 := vW k
 have hvl : (keyW v).length = (v.length + 6) / 7 := vW v
 have q1 := hS.key
 have q2 := hS.val
 simp only at q1 q2 hk
 have e1 : IntKind.i64.wrap (IntKind.i64.wrap (32 * (List.length k : Int)) + (List.length v : Int)) = nE ⟨a, k, v, c⟩ := by
   rw [w64 (n := 32 * (List.length k : Int)) (by omega) (by omega), w64 (by omega) (by omega)]; rfl
 rw [e1]
 generalize hm : nE ⟨a, k, v, c⟩ = m at *
 have pad : ∀ (t : List Int), t.length ≤ 3 → t.take 13 ++ List.take (16 - (3 + min 13 t.length)) (List.drop (3 + min 13 t.length) [a, m, 0, 0, 0, 0, 0, 0, 0, 0, 0, 0, 0, 0, 0, 0]) = t ++ List.replicate (13 - t.length) 0 := by
   intro t ht
   rw [qU t (by omega), Nat.min_eq_right (by omega)]
   congr 1
   have : ∀ n, n ≤ 3 → List.take (16 - (3 + n)) (List.drop (3 + n) [a, m, 0, 0, 0, 0, 0, 0, 0, 0, 0, 0, 0, 0, 0, 0]) = List.replicate (13 - n) 0 := by
     intro n hn
     rcases n with _|_|_|_|n <;> first | rfl | omega
   exact this _ ht
 have hkl3 : (keyW k).length ≤ 3 := by omega
 have hvl3 : (keyW v).length ≤ 3 := by omega
 rw [pad _ hkl3]
 have hL : (keyW k ++ List.replicate (13 - (keyW k).length) 0).length = 13 := by simp; omega
 simp only [hL, fL.C, aA, gq, reduceEq, reduceLT, reduceLE, implies_true, reduceCtorEq, if_true, if_false, go_sem, reduceEqDiff, Nat.reduceLT, reduceAdd, reduceSub, reduceLeDiff, reduceReplicate, reduceToNat]
 have hZ : List.take 3 (keyW k ++ List.replicate (13 - (keyW k).length) 0) = kA k := by
   unfold kA
   rw [List.take_append, qU (keyW k) hkl3, List.take_replicate, Nat.min_eq_left (by omega)]
 have hT : List.take 10 (keyW v) ++ List.take (16 - (6 + min 10 (keyW v).length)) (List.drop (6 + min 10 (keyW v).length) (a :: m :: 0 :: (keyW k ++ List.replicate (13 - (keyW k).length) 0))) = keyW v ++ List.replicate (10 - (keyW v).length) 0 := by
   rw [qU (keyW v) (by omega), Nat.min_eq_right (by omega)]
   congr 1
   rw [show 6 + (keyW v).length = (3 + (keyW v).length) + 1 + 1 + 1 from by omega, List.drop_succ_cons, List.drop_succ_cons, List.drop_succ_cons, List.drop_append, List.drop_eq_nil_of_le (by omega), List.nil_append, List.drop_replicate, List.take_replicate]
   congr 1; omega
 rw [hZ, hT]
 have hlen : (kA k ++ (keyW v ++ List.replicate (10 - (keyW v).length) 0)).length = 13 := by simp [hk]; omega
 have hr1 : a ≠ 2 → kA k ++ (keyW v ++ List.replicate (10 - (keyW v).length) 0) = wP ⟨a, k, v, c⟩ := by
   intro h
   unfold wP
   simp only [if_neg h]
   congr 1
   unfold kA
   rw [List.append_assoc, List.replicate_append_replicate]
   congr 2; omega
 have hr2 : a = 2 → (kA k ++ (keyW v ++ List.replicate (10 - (keyW v).length) 0)).set 3 c = wP ⟨a, k, v, c⟩ := by
   intro h
   have hv0 : v = [] := by
     rcases hok with h' | h'
     · have := h'.1; simp only at this; omega
     · exact h'.2.2.1
   subst hv0
   unfold wP
   simp only [if_pos h]
   rw [List.set_append_right _ _ (by omega), hk]
   rfl
 have hmr : m = nE ⟨a, k, v, c⟩ := hm.symm
 simp only [hlen, fZ.C, aA, gq, reduceEq, reduceLT, reduceLE, implies_true, reduceCtorEq, if_true, if_false, go_sem, reduceEqDiff, Nat.reduceLT, reduceAdd, reduceSub, reduceLeDiff, reduceReplicate, reduceToNat]
 have hd3 : ∀ R : List Int, List.drop 3 (a :: m :: 0 :: R) = R := fun R => rfl
 refine ⟨by unfold roomy; omega, by unfold roomy; omega, fun h2 => ?_, fun h2 => ?_⟩
 · rw [hr2 h2, hd3, hmr]; exact aG rfl rfl
 · rw [hr1 h2, hd3, hmr]; exact aG rfl rfl
def iI.C : aE
 | [.arr (.ints .i64 l), .int .i64 a, .int .i64 n] => some (false, pD (l.length = 16 ∧ 0 ≤ a ∧ a ≤ 6) (.tup [.str (txtS l a.toNat n), .bool (txtB l a.toNat n)]))
 | _ => none
theorem iI.spec : bI Tryz.prog 99 iI.C := by
 refine bI.of (bR (F := [(115, eP.C)]) (S := []) (by simpa using eP.spec) (by simp) iI.loops) iI.at iI.nm iI.bd ?_
 intro vs b S v news e hS
 unfold iI.C at e
 split at e
 rotate_left
 · cases e
 cases e
 rw [iI.eq]
 unfold iI.H
 simp (maxSteps := 4000000) only [go_sem, reduceEqDiff, Nat.reduceLT, reduceAdd, reduceSub, reduceLeDiff, reduceReplicate, reduceToNat, eP.C]
 rename_i l a n
 obtain ⟨hl, ha0, ha6⟩ := hS
 have eg : (decide (n < 0) || decide (21 < n)) = !(decide (0 ≤ n) && decide (n ≤ 21)) := by
   rw [Bool.eq_iff_iff]; simp only [Bool.or_eq_true, Bool.not_eq_true', Bool.and_eq_false_iff, decide_eq_true_eq, decide_eq_false_iff_not]; omega
 rw [eg]
 refine ⟨hl, fun h => ?_, fun h => ?_⟩
 · have hb : txtB l a.toNat n = false := by
     unfold txtB; rw [Bool.not_eq_true'] at h; rw [h]; rfl
   unfold txtS
   rw [hb]; exact aG rfl rfl
 · rw [Bool.not_eq_false'] at h
   have h' := h
   simp only [Bool.and_eq_true, decide_eq_true_eq] at h'
   obtain ⟨N, rfl⟩ := Int.eq_ofNat_of_zero_le h'.1
   obtain ⟨A, rfl⟩ := Int.eq_ofNat_of_zero_le ha0
   have hN : N ≤ 21 := by omega
   have q0 : (N + 6) / 7 ≤ 3 := by omega
   have e1 : IntKind.i64.wrap ((N : Int) + 6) = ((N + 6 : Nat) : Int) := by rw [w64 (by omega) (by omega)]; omega
   have e2 : IntKind.i64.wrap (((N + 6 : Nat) : Int).tdiv 7) = (((N + 6) / 7 : Nat) : Int) := by
     rw [Int.tdiv_eq_ediv_of_nonneg (by omega), w64 (by omega) (by omega)]; omega
   have e3 : IntKind.i64.wrap ((A : Int) + (((N + 6) / 7 : Nat) : Int)) = ((A + (N + 6) / 7 : Nat) : Int) := by rw [w64 (by omega) (by omega)]; omega
   have e4 : A + (N + 6) / 7 - A = (N + 6) / 7 := by omega
   rw [e1, e2, e3]
   simp only [hl, Int.toNat_natCast, e4, eP.C, aA, gq, reduceEq, reduceLT, reduceLE, implies_true, reduceCtorEq, if_true, if_false, go_sem, reduceEqDiff, Nat.reduceLT, reduceAdd, reduceSub, reduceLeDiff, reduceReplicate, reduceToNat]
   have hbt : txtB l A (N : Int) = nU ((l.drop A).take ((N + 6) / 7)) N := by
     unfold txtB
     rw [Int.toNat_natCast, h, Bool.true_and]
   have hst : txtS l A (N : Int) = if nU ((l.drop A).take ((N + 6) / 7)) N = true then wO ((l.drop A).take ((N + 6) / 7)) N else [] := by
     unfold txtS
     rw [hbt, Int.toNat_natCast]
   have hw : roomy (7 * (List.take ((N + 6) / 7) (List.drop A l)).length) := by rw [List.length_take]; unfold roomy; omega
   rw [hst, hbt]
   unfold aBn
   refine ⟨by omega, ⟨hw, by omega⟩, ?_⟩
   cases nU ((l.drop A).take ((N + 6) / 7)) N
   · simp only [aA, gq, reduceEq, reduceLT, reduceLE, implies_true, reduceCtorEq, if_true, if_false, go_sem, reduceEqDiff, Nat.reduceLT, reduceAdd, reduceSub, reduceLeDiff, reduceReplicate, reduceToNat]; exact aG rfl rfl
   · simp only [aA, gq, reduceEq, reduceLT, reduceLE, implies_true, reduceCtorEq, if_true, if_false, go_sem, reduceEqDiff, Nat.reduceLT, reduceAdd, reduceSub, reduceLeDiff, reduceReplicate, reduceToNat]; exact aG rfl rfl
def pG (words : List Int) (at_ : Int) : AV := if (decide (at_ < 0) || decide (((words.length / 16 : Nat) : Int) ≤ at_)) = true then .tup [kE.V, .int .i64 1] else match wQ (kS words at_.toNat) with
 | some n => .tup [n.V, .int .i64 0]
 | none => .tup [kE.V, .int .i64 70]
def pR (w : List Int) : Rc := ⟨w.getD 0 0, txtS w 3 (IntKind.i64.wrap ((w.getD 1 0).tdiv 32)), if w.getD 0 0 = 1 then txtS w 6 ((w.getD 1 0).tmod 32) else [], if w.getD 0 0 = 2 then w.getD 6 0 else 0⟩
theorem aGO {x : Rc} (h : x.ok) : IntKind.i64.wrap ((nE x).tdiv 32) = x.key.length ∧ (nE x).tmod 32 = x.val.length := by
 have hl := aAN h
 rw [Int.tdiv_eq_ediv_of_nonneg hl.2.2.1, Int.tmod_eq_emod_of_nonneg hl.2.2.1, w64 (by omega) (by omega)]
 exact ⟨hl.1, hl.2.1⟩
theorem aJD {x : Rc} (h : x.ok) : pR (jD x) = x := by
 have hd := aFa h
 have e1 : (jD x).getD 1 0 = nE x := rfl
 have hl := aAN h
 have hp := aGO h
 unfold decC at hd
 unfold pR
 rw [e1, hl.1, hl.2.1] at hd
 rw [e1, hp.1, hp.2]; exact hd
theorem aEi (w : List Int) : pQ pR w = wQ w := aLZ (fun n h => aJD h) (fun n h => aFa h) w
theorem aNX {w : List Int} (h : txtB w 3 (IntKind.i64.wrap ((w.getD 1 0).tdiv 32)) = false) : wQ w = none := by
 apply aDB
 rintro x hx rfl
 have e1 : (jD x).getD 1 0 = nE x := rfl
 rw [e1, (aGO hx).1, (aGE hx).1] at h
 cases h
theorem aNY {w : List Int} (h1 : w.getD 0 0 = 1) (h : txtB w 6 ((w.getD 1 0).tmod 32) = false) : wQ w = none := by
 apply aDB
 rintro x hx rfl
 have e1 : (jD x).getD 1 0 = nE x := rfl
 rw [e1, (aGO hx).2, (aGF hx h1).1] at h
 cases h
def dO.C : aE
 | [.sl _ (.ints .i64 l), .int .i64 k] => some (false, pD (roomy l.length) (pG l k))
 | _ => none
theorem dO.spec : bI Tryz.prog 79 dO.C := by
 refine bI.of (bR (F := [(99, iI.C), (100, fC.C), (101, iZ.C)]) (S := []) (by simpa using ⟨iI.spec, fC.spec, iZ.spec⟩) (by simp) dO.loops) dO.at dO.nm dO.bd ?_
 intro vs b S v news e hS
 unfold dO.C at e
 split at e
 rotate_left
 · cases e
 cases e
 rw [dO.eq]
 unfold dO.H
 simp (maxSteps := 4000000) only [go_sem, reduceEqDiff, Nat.reduceLT, reduceAdd, reduceSub, reduceLeDiff, reduceReplicate, reduceToNat, iI.C, fC.C, iZ.C]
 rename_i l k
 have hrl := hS
 unfold roomy at hS
 have e0 : IntKind.i64.wrap ((l.length : Int).tdiv 16) = ((l.length / 16 : Nat) : Int) := by
   rw [Int.tdiv_eq_ediv_of_nonneg (by omega)]; exact w64 (by omega) (by omega)
 rw [e0]
 unfold pG
 refine ⟨fun _ => by decide, fun h => ?_, fun h => ?_⟩
 · rw [if_pos h]
   refine aG ?_ rfl
   simp only [kE, go_sem, reduceEqDiff, Nat.reduceLT, reduceAdd, reduceSub, reduceLeDiff, reduceReplicate, reduceToNat]
 · rw [h]
   simp only [Bool.or_eq_false_iff, decide_eq_false_iff_not] at h
   obtain ⟨k, rfl⟩ := Int.eq_ofNat_of_zero_le (show 0 ≤ k by omega)
   have hk : 16 * k + 16 ≤ l.length := by omega
   have e1 : IntKind.i64.wrap (16 * (k : Int)) = 16 * (k : Int) := w64 (by omega) (by omega)
   have e5 : (16 * (k : Int)).toNat = 16 * k := by omega
   have hdl : (l.drop (16 * k)).length = l.length - 16 * k := by simp
   have et : (l.drop (16 * k)).take (l.length - 16 * k) = l.drop (16 * k) := qU _ (by omega)
   have hbl : (kS l k).length = 16 := by unfold kS; simp; omega
   rw [e1, e5, et, hdl, Nat.min_eq_left (by omega)]
   have ew : (l.drop (16 * k)).take 16 ++ List.take (16 - 16) (List.drop 16 [0, 0, 0, 0, 0, 0, 0, 0, 0, 0, 0, 0, 0, 0, 0, 0]) = kS l k := by
     show (l.drop (16 * k)).take 16 ++ [] = _
     rw [List.append_nil]; rfl
   rw [ew, Int.toNat_natCast]
   generalize kS l k = w at *
   have hV : (pR w).V = .agg [.int .i64 (w.getD 0 0), .str (txtS w 3 (IntKind.i64.wrap ((w.getD 1 0).tdiv 32))), .str (if w.getD 0 0 = 1 then txtS w 6 ((w.getD 1 0).tmod 32) else []), .int .i64 (if w.getD 0 0 = 2 then w.getD 6 0 else 0)] := rfl
   simp only [hbl, iI.C, aA, gq, reduceEq, reduceLT, reduceLE, implies_true, reduceCtorEq, if_true, if_false, go_sem, reduceEqDiff, Nat.reduceLT, reduceAdd, reduceSub, reduceLeDiff, reduceReplicate, reduceToNat]
   refine ⟨by omega, fun hT => ?_, fun hT => ⟨fun h1 => ?_, fun h1 => ⟨fun h2 => ?_, fun h2 => ?_⟩⟩⟩
   · rw [aNX hT]
     refine aG ?_ rfl
     simp only [kE, go_sem, reduceEqDiff, Nat.reduceLT, reduceAdd, reduceSub, reduceLeDiff, reduceReplicate, reduceToNat]
   · have hd1 : (⟨w.getD 0 0, txtS w 3 (IntKind.i64.wrap ((w.getD 1 0).tdiv 32)), txtS w 6 ((w.getD 1 0).tmod 32), 0⟩ : Rc) = pR w := by
       unfold pR; rw [if_pos h1, if_neg (by omega)]
     cases h6 : txtB w 6 ((w.getD 1 0).tmod 32) with
     | false =>
       simp only [Bool.not_false, zA]
       rw [aNY h1 h6]
       refine aG ?_ rfl
       simp only [kE, go_sem, reduceEqDiff, Nat.reduceLT, reduceAdd, reduceSub, reduceLeDiff, reduceReplicate, reduceToNat]
     | true =>
       rw [← aEi]
       unfold pQ
       cases hb : recB (pR w) with
       | false =>
         simp only [fC.C, hd1, hb, Bool.false_and, Bool.false_eq_true, if_false, aA, gq, reduceEq, reduceLT, reduceLE, implies_true, reduceCtorEq, if_true, if_false, go_sem, reduceEqDiff, Nat.reduceLT, reduceAdd, reduceSub, reduceLeDiff, reduceReplicate, reduceToNat]
         refine aG ?_ rfl
         simp only [kE, go_sem, reduceEqDiff, Nat.reduceLT, reduceAdd, reduceSub, reduceLeDiff, reduceReplicate, reduceToNat]
       | true =>
         have hok := xZ.1 hb
         have hfl := aCn hok
         simp only [fC.C, iZ.C, hd1, hb, hfl, hbl, Bool.true_and, aA, gq, reduceEq, reduceLT, reduceLE, implies_true, reduceCtorEq, if_true, if_false, go_sem, reduceEqDiff, Nat.reduceLT, reduceAdd, reduceSub, reduceLeDiff, reduceReplicate, reduceToNat]
         refine ⟨hok, fun h => ?_, fun h => ?_⟩
         · rw [if_neg h]
           refine aG ?_ rfl
           simp only [kE, go_sem, reduceEqDiff, Nat.reduceLT, reduceAdd, reduceSub, reduceLeDiff, reduceReplicate, reduceToNat]
         · rw [if_pos h, ← hd1]
           exact aG rfl rfl
   · have hd1 : (⟨w.getD 0 0, txtS w 3 (IntKind.i64.wrap ((w.getD 1 0).tdiv 32)), [], w.getD 6 0⟩ : Rc) = pR w := by
       unfold pR; rw [if_neg (by omega), if_pos h2]
     rw [← aEi]
     unfold pQ
     cases hb : recB (pR w) with
     | false =>
       simp only [hT, fC.C, hd1, hb, Bool.false_and, Bool.false_eq_true, if_false, aA, gq, reduceEq, reduceLT, reduceLE, implies_true, reduceCtorEq, if_true, if_false, go_sem, reduceEqDiff, Nat.reduceLT, reduceAdd, reduceSub, reduceLeDiff, reduceReplicate, reduceToNat]
       refine aG ?_ rfl
       simp only [kE, go_sem, reduceEqDiff, Nat.reduceLT, reduceAdd, reduceSub, reduceLeDiff, reduceReplicate, reduceToNat]
     | true =>
       have hok := xZ.1 hb
       have hfl := aCn hok
       simp only [hT, fC.C, iZ.C, hd1, hb, hfl, hbl, Bool.true_and, aA, gq, reduceEq, reduceLT, reduceLE, implies_true, reduceCtorEq, if_true, if_false, go_sem, reduceEqDiff, Nat.reduceLT, reduceAdd, reduceSub, reduceLeDiff, reduceReplicate, reduceToNat]
       refine ⟨hok, fun h => ?_, fun h => ?_⟩
       · rw [if_neg h]
         refine aG ?_ rfl
         simp only [kE, go_sem, reduceEqDiff, Nat.reduceLT, reduceAdd, reduceSub, reduceLeDiff, reduceReplicate, reduceToNat]
       · rw [if_pos h, ← hd1]
         exact aG rfl rfl
   · have hd1 : (⟨w.getD 0 0, txtS w 3 (IntKind.i64.wrap ((w.getD 1 0).tdiv 32)), [], 0⟩ : Rc) = pR w := by
       unfold pR; rw [if_neg (by omega), if_neg h2]
     rw [← aEi]
     unfold pQ
     cases hb : recB (pR w) with
     | false =>
       simp only [hT, fC.C, hd1, hb, Bool.false_and, Bool.false_eq_true, if_false, aA, gq, reduceEq, reduceLT, reduceLE, implies_true, reduceCtorEq, if_true, if_false, go_sem, reduceEqDiff, Nat.reduceLT, reduceAdd, reduceSub, reduceLeDiff, reduceReplicate, reduceToNat]
       refine aG ?_ rfl
       simp only [kE, go_sem, reduceEqDiff, Nat.reduceLT, reduceAdd, reduceSub, reduceLeDiff, reduceReplicate, reduceToNat]
     | true =>
       have hok := xZ.1 hb
       have hfl := aCn hok
       simp only [hT, fC.C, iZ.C, hd1, hb, hfl, hbl, Bool.true_and, aA, gq, reduceEq, reduceLT, reduceLE, implies_true, reduceCtorEq, if_true, if_false, go_sem, reduceEqDiff, Nat.reduceLT, reduceAdd, reduceSub, reduceLeDiff, reduceReplicate, reduceToNat]
       refine ⟨hok, fun h => ?_, fun h => ?_⟩
       · rw [if_neg h]
         refine aG ?_ rfl
         simp only [kE, go_sem, reduceEqDiff, Nat.reduceLT, reduceAdd, reduceSub, reduceLeDiff, reduceReplicate, reduceToNat]
       · rw [if_pos h, ← hd1]
         exact aG rfl rfl
end Lam
namespace Lam
open Go Go.Proofs
def uS : AV := .iface 128 (.agg [])
theorem iO {w : List Int} {b : Int} {n : Nd} (h : dF w b = some n) : qM w b = .tup [n.V, .int .i64 0] := by
 unfold dF at h
 unfold qM
 split at h
 · cases h
 · rename_i hb; rw [if_neg hb, h]
theorem nW {w : List Int} {b : Int} (h : dF w b = none) : ∃ e, e ≠ 0 ∧ qM w b = .tup [jM.V, .int .i64 e] := by
 unfold dF at h
 unfold qM
 split at h
 · rename_i hb; rw [if_pos hb]; exact ⟨1, by decide, rfl⟩
 · rename_i hb; rw [if_neg hb, h]; exact ⟨90, by decide, rfl⟩
theorem sZ {w : List Int} {b : Int} {n : Rc} (h : recO w b = some n) : pG w b = .tup [n.V, .int .i64 0] := by
 unfold recO at h
 unfold pG
 split at h
 · cases h
 · rename_i hb; rw [if_neg hb, h]
theorem tA {w : List Int} {b : Int} (h : recO w b = none) : ∃ e, e ≠ 0 ∧ pG w b = .tup [kE.V, .int .i64 e] := by
 unfold recO at h
 unfold pG
 split at h
 · rename_i hb; rw [if_pos hb]; exact ⟨1, by decide, rfl⟩
 · rename_i hb; rw [if_neg hb, h]; exact ⟨70, by decide, rfl⟩
theorem nO {v pv : AV} {b : Bool} {news : List AObj} {h : List AObj} : aDs true pv b v news (.pan pv) h := rfl
theorem pH {ao : AOut} {pv v : AV} {b : Bool} {news : List AObj} {h : List AObj} (p : Post b v news ao h) : aDs false pv b v news ao h := p
def cI.J : JCon
 | [.bool b] => some (True, !b, uS, false, .tup [], [])
 | _ => none
abbrev cI.K : Con := Jcon cI.J
set_option maxHeartbeats 1000000 in
theorem cI.jspec : nD Tryz.prog 77 cI.J := by
 refine nD.of (bR (F := []) (S := []) (by simp) (by simp) cI.loops) cI.at cI.nm cI.bd ?_ ?_
 · intro vs S pb pv b v news e
   unfold cI.J at e
   split at e
   rotate_left
   · cases e
   cases e
   rfl
 intro vs S pb pv b v news e hS
 unfold cI.J at e
 split at e
 rotate_left
 · cases e
 cases e
 rw [cI.eq]
 unfold cI.H
 simp (maxSteps := 4000000) only [go_sem, reduceEqDiff, Nat.reduceLT, reduceAdd, reduceSub, reduceLeDiff, reduceReplicate, reduceToNat]
 rename_i b
 rw [aA]
 exact ⟨fun h => by subst h; rfl, fun h => by subst h; exact pH (aG rfl rfl)⟩
def iE (w : List Int) : Prop := w.length ≤ 65536 ∧ i64s w
theorem iE.roomy {w : List Int} (h : iE w) : roomy w.length := by have := h.1; unfold Lam.roomy; omega
def cQ.J : JCon
 | [.sl _ (.ints .i64 w), .int .i64 b] => some (iE w, (dF w b).isNone, uS, false, ((dF w b).getD jM).V, [])
 | _ => none
abbrev cQ.K : Con := Jcon cQ.J
set_option maxHeartbeats 1000000 in
theorem cQ.jspec : nD Tryz.prog 75 cQ.J := by
 refine nD.of (bR (F := [(46, cN.C)]) (S := [(77, cI.K)]) (by simpa using cN.spec) (by simpa using cI.jspec.con) cQ.loops) cQ.at cQ.nm cQ.bd ?_ ?_
 · intro vs S pb pv b v news e
   unfold cQ.J at e
   split at e
   rotate_left
   · cases e
   cases e
   rfl
 intro vs S pb pv b v news e hS
 unfold cQ.J at e
 split at e
 rotate_left
 · cases e
 cases e
 rw [cQ.eq]
 unfold cQ.H
 simp (maxSteps := 4000000) only [go_sem, reduceEqDiff, Nat.reduceLT, reduceAdd, reduceSub, reduceLeDiff, reduceReplicate, reduceToNat, cN.C, cI.K, cI.J]
 rename_i _ w b
 refine ⟨hS.roomy, ?_⟩
 cases hn : dF w b with
 | none =>
   obtain ⟨e, he, hr⟩ := nW hn
   have hd : decide (e = 0) = false := decide_eq_false he
   simp only [hr, jM, cI.J, hd, aA, gq, reduceEq, reduceLT, reduceLE, implies_true, reduceCtorEq, if_true, if_false, go_sem, reduceEqDiff, Nat.reduceLT, reduceAdd, reduceSub, reduceLeDiff, reduceReplicate, reduceToNat]
   exact nO
 | some n =>
   simp only [iO hn, cI.J, aA, gq, reduceEq, reduceLT, reduceLE, implies_true, reduceCtorEq, if_true, if_false, go_sem, reduceEqDiff, Nat.reduceLT, reduceAdd, reduceSub, reduceLeDiff, reduceReplicate, reduceToNat]
   exact pH (aG rfl rfl)
def eF.J : JCon
 | [.sl _ (.ints .i64 w), .int .i64 b] => some (iE w, (recO w b).isNone, uS, false, .str ((recO w b).getD kE).key, [])
 | _ => none
abbrev eF.K : Con := Jcon eF.J
set_option maxHeartbeats 1000000 in
theorem eF.jspec : nD Tryz.prog 97 eF.J := by
 refine nD.of (bR (F := [(79, dO.C)]) (S := [(77, cI.K)]) (by simpa using dO.spec) (by simpa using cI.jspec.con) eF.loops) eF.at eF.nm eF.bd ?_ ?_
 · intro vs S pb pv b v news e
   unfold eF.J at e
   split at e
   rotate_left
   · cases e
   cases e
   rfl
 intro vs S pb pv b v news e hS
 unfold eF.J at e
 split at e
 rotate_left
 · cases e
 cases e
 rw [eF.eq]
 unfold eF.H
 simp (maxSteps := 4000000) only [go_sem, reduceEqDiff, Nat.reduceLT, reduceAdd, reduceSub, reduceLeDiff, reduceReplicate, reduceToNat, dO.C, cI.K, cI.J]
 rename_i _ w b
 refine ⟨hS.roomy, ?_⟩
 cases hn : recO w b with
 | none =>
   obtain ⟨e, he, hr⟩ := tA hn
   have hd : decide (e = 0) = false := decide_eq_false he
   simp only [hr, kE, cI.J, hd, aA, gq, reduceEq, reduceLT, reduceLE, implies_true, reduceCtorEq, if_true, if_false, go_sem, reduceEqDiff, Nat.reduceLT, reduceAdd, reduceSub, reduceLeDiff, reduceReplicate, reduceToNat]
   exact nO
 | some n =>
   simp only [sZ hn, cI.J, aA, gq, reduceEq, reduceLT, reduceLE, implies_true, reduceCtorEq, if_true, if_false, go_sem, reduceEqDiff, Nat.reduceLT, reduceAdd, reduceSub, reduceLeDiff, reduceReplicate, reduceToNat]
   exact pH (aG rfl rfl)
def dE.J : JCon
 | [.sl _ (.ints .i64 w), .agg [.int .i64 a, .int .i64 b, .int .i64 c, .int .i64 d, .sl _ (.ints .i64 l)]] => some (iE w, (lowO w ⟨a, b, c, d, l⟩).isNone, uS, false, .str ((lowO w ⟨a, b, c, d, l⟩).getD []), [])
 | _ => none
abbrev dE.K : Con := Jcon dE.J
set_option maxHeartbeats 1000000 in
theorem dE.jspec : nD Tryz.prog 76 dE.J := by
 refine nD.of (bR (F := []) (S := [(97, eF.K)]) (by simp) (by simpa using eF.jspec.con) dE.loops) dE.at dE.nm dE.bd ?_ ?_
 · intro vs S pb pv b v news e
   unfold dE.J at e
   split at e
   rotate_left
   · cases e
   cases e
   rfl
 intro vs S pb pv b v news e hS
 unfold dE.J at e
 split at e
 rotate_left
 · cases e
 cases e
 rw [dE.eq]
 unfold dE.H
 simp (maxSteps := 4000000) only [go_sem, reduceEqDiff, Nat.reduceLT, reduceAdd, reduceSub, reduceLeDiff, reduceReplicate, reduceToNat, eF.K, eF.J]
 rename_i _ w a b c d _ l
 refine ⟨fun h => ?_, fun h => ⟨hS, fun hp => ?_, fun hp => ?_⟩⟩
 · have : lowO w ⟨a, b, c, d, l⟩ = some [] := by unfold lowO; rw [if_pos h]
   rw [this]; exact pH (aG rfl rfl)
 · have : lowO w ⟨a, b, c, d, l⟩ = none := by
     unfold lowO; rw [if_neg h]
     rw [Option.isNone_iff_eq_none] at hp
     simp only [hp]; rfl
   rw [this]; exact nO
 · obtain ⟨x, hx⟩ : ∃ x, recO w d = some x := by cases hr : recO w d with
     | none => rw [hr] at hp; cases hp
     | some x => exact ⟨x, rfl⟩
   have : lowO w ⟨a, b, c, d, l⟩ = some x.key := by
     unfold lowO; rw [if_neg h]
     simp only [hx]; rfl
   rw [this, hx]; exact pH (aG rfl rfl)
def dD.J : JCon
 | [.sl _ (.ints .i64 w)] => some (iE w, (lA (eA w) w).isNone, uS, true, .sref false 0 0 0 ((lA (eA w) w).getD []).length, [.row .own 0 (.ints .i64 ((lA (eA w) w).getD []))])
 | _ => none
abbrev dD.K : Con := Jcon dD.J
set_option maxHeartbeats 1000000 in
theorem dD.jspec : nD Tryz.prog 50 dD.J := by
 refine nD.of (bR (F := [(38, dU.C), (83, cE.C)]) (S := [(77, cI.K), (75, cQ.K)]) (by simpa using ⟨dU.spec, cE.spec⟩) (by simpa using ⟨cI.jspec.con, cQ.jspec.con⟩) dD.loops) dD.at dD.nm dD.bd ?_ ?_
 · intro vs S pb pv b v news e
   unfold dD.J at e
   split at e
   rotate_left
   · cases e
   cases e
   rfl
 intro vs S pb pv b v news e hS
 unfold dD.J at e
 split at e
 rotate_left
 · cases e
 cases e
 rw [dD.eq]
 unfold dD.H
 simp (maxSteps := 4000000) only [go_sem, reduceEqDiff, Nat.reduceLT, reduceAdd, reduceSub, reduceLeDiff, reduceReplicate, reduceToNat, dU.C, cE.C, cI.K, cI.J, cQ.K, cQ.J]
 rename_i _ w
 refine ⟨hS.roomy, ?_⟩
 cases hb : eA w with
 | false =>
   have hr : kP w = .tup [.int .i64 0, .int .i64 0, .int .i64 80] := by unfold kP; rw [hb]; rfl
   simp only [hr, cI.J, aA, gq, reduceEq, reduceLT, reduceLE, implies_true, reduceCtorEq, if_true, if_false, go_sem, reduceEqDiff, Nat.reduceLT, reduceAdd, reduceSub, reduceLeDiff, reduceReplicate, reduceToNat]
   exact nO
 | true =>
   have hr : kP w = .tup [.int .i64 (w.getD 1 0), .int .i64 (w.getD 3 0), .int .i64 0] := by unfold kP; rw [hb]; rfl
   simp only [hr, cI.J, aA, gq, reduceEq, reduceLT, reduceLE, implies_true, reduceCtorEq, if_true, if_false, go_sem, reduceEqDiff, Nat.reduceLT, reduceAdd, reduceSub, reduceLeDiff, reduceReplicate, reduceToNat]
   unfold dD.L1
   have h16 : w.length ≤ 65536 := hS.1
   refine oL (σ := List Int × Int) (fun s => .sref false 0 s.1.length 0 s.1.length) (fun s => .int .i64 s.2) (fun s => [.row .own s.1.length (.ints .i64 s.1)]) (fun s => w.length / 16 + 1 - s.1.length)
     (fun s => s.1.Nodup ∧ (∀ x ∈ s.1, 0 ≤ x ∧ x < ((w.length / 16 : Nat) : Int)) ∧ tO w (w.length / 16 + 1 - s.1.length) s.2 s.1 = lA true w) ([], 1) rfl rfl ⟨List.nodup_nil, by simp, rfl⟩ ?_
   rintro I back ⟨out, at_⟩ ⟨hnd, hrg, hch⟩
   simp only at hnd hrg hch ⊢
   have hpg := aGH hnd hrg
   have hro : roomy out.length := by unfold roomy; omega
   obtain ⟨m, hm⟩ : ∃ m, w.length / 16 + 1 - out.length = m + 1 := ⟨w.length / 16 - out.length, by omega⟩
   rw [hm] at hch
   simp only [tO] at hch
   simp only [cQ.J, cI.J, cE.C, go_sem, reduceEqDiff, Nat.reduceLT, reduceAdd, reduceSub, reduceLeDiff, reduceReplicate, reduceToNat]
   refine ⟨fun h0 => ⟨hS, fun hp => ?_, fun hp => ?_⟩, fun h0 => ?_⟩
   · rw [if_neg h0] at hch
     rw [Option.isNone_iff_eq_none] at hp
     rw [hp] at hch
     rw [← hch]; exact nO
   · obtain ⟨n, hn⟩ : ∃ n, dF w at_ = some n := by
       cases hr : dF w at_ with
       | none => rw [hr] at hp; cases hp
       | some x => exact ⟨x, rfl⟩
     rw [if_neg h0, hn] at hch
     simp only [hn, Option.getD_some] at hch ⊢
     obtain ⟨_, hn0, hn1, _⟩ := lS hn
     refine ⟨fun _ => hro, fun hc => ?_, fun hc => ?_⟩
     · rw [if_neg] at hch
       · rw [← hch]; exact nO
       · rintro ⟨h1, h2⟩
         rw [decide_eq_true h1, decide_eq_false h2] at hc
         cases hc
     · simp only [Bool.and_eq_true, decide_eq_true_eq, Bool.not_eq_true', decide_eq_false_iff_not] at hc
       rw [if_pos hc] at hch
       have hl1 : (out ++ [at_]).length = out.length + 1 := by simp
       have em : w.length / 16 + 1 - (out.length + 1) = m := by omega
       refine ⟨by unfold roomy; omega, rfl, back (out ++ [at_], n.next) (by simp only [hl1]; omega) (by simp only [hl1]) (by simp only [hl1]) ⟨?_, ?_, ?_⟩⟩
       · rw [List.nodup_append]
         refine ⟨hnd, by simp, fun a ha b hb' => ?_⟩
         simp only [List.mem_singleton] at hb'
         subst hb'
         rintro rfl
         exact hc.2 ha
       · intro x hx
         simp only [List.mem_append, List.mem_singleton] at hx
         rcases hx with hx | rfl
         · exact hrg x hx
         · exact ⟨hn0, hn1⟩
       · simp only [hl1, em]; exact hch
   · rw [if_pos h0] at hch
     rw [← hch]
     exact pH (vT rfl (by decide))
def dS.J : JCon
 | [.sl _ (.ints .i64 w)] => some (iE w, (iF (eA w) w).isNone, uS, true, .sref false 0 0 0 ((iF (eA w) w).getD []).length, [.row .own 0 (.ints .i64 ((iF (eA w) w).getD []))])
 | _ => none
abbrev dS.K : Con := Jcon dS.J
set_option maxHeartbeats 1000000 in
theorem dS.jspec : nD Tryz.prog 45 dS.J := by
 refine nD.of (bR (F := [(79, dO.C), (78, eD.C)]) (S := [(77, cI.K), (75, cQ.K), (76, dE.K), (50, dD.K)]) (by simpa using ⟨dO.spec, eD.spec⟩) (by simpa using ⟨cI.jspec.con, cQ.jspec.con, dE.jspec.con, dD.jspec.con⟩) dS.loops) dS.at dS.nm dS.bd ?_ ?_
 · intro vs S pb pv b v news e
   unfold dS.J at e
   split at e
   rotate_left
   · cases e
   cases e
   rfl
 intro vs S pb pv b v news e hS
 unfold dS.J at e
 split at e
 rotate_left
 · cases e
 cases e
 rw [dS.eq]
 unfold dS.H
 simp (maxSteps := 4000000) only [go_sem, reduceEqDiff, Nat.reduceLT, reduceAdd, reduceSub, reduceLeDiff, reduceReplicate, reduceToNat, dO.C, eD.C, cI.K, cI.J, cQ.K, cQ.J, dE.K, dE.J, dD.K, dD.J]
 rename_i _ w
 refine ⟨hS, fun hp => ?_, fun hp => ?_⟩
 · rw [Option.isNone_iff_eq_none] at hp
   have : iF (eA w) w = none := by unfold iF; rw [hp]
   rw [this]; exact nO
 obtain ⟨l, hl⟩ : ∃ l, lA (eA w) w = some l := by
   cases hr : lA (eA w) w with
   | none => rw [hr] at hp; cases hp
   | some x => exact ⟨x, rfl⟩
 have hlook : iF (eA w) w = if lH w l 0 [] = true then some l else none := by unfold iF; rw [hl]
 have bad : lH w l 0 [] = false → iF (eA w) w = none := fun h => by rw [hlook, h]; rfl
 have hll : l.length ≤ 65536 := by have := (lU hl).2.2.2.1; have := hS.1; omega
 simp only [hl, Option.getD_some, aA]
 unfold dS.L1
 refine oL (σ := aY × Nat) (fun s => .str s.1) (fun s => .int .i64 s.2) (fun s => [.row .own 0 (.ints .i64 l)]) (fun s => l.length - s.2) (fun s => s.2 ≤ l.length ∧ lH w (l.drop s.2) s.2 s.1 = lH w l 0 []) ([], 0) rfl rfl ⟨Nat.zero_le _, by simp⟩ ?_
 rintro I back ⟨last, k⟩ ⟨hk, hlv⟩
 simp only at hk hlv ⊢
 have hout : ¬ (k : Int) < (l.length : Int) → aDs (iF (eA w) w).isNone uS true (.sref false 0 0 0 ((iF (eA w) w).getD []).length) [.row .own 0 (.ints .i64 ((iF (eA w) w).getD []))] (.ret (.sref false 0 0 0 l.length)) [.row .own 0 (.ints .i64 l)] := by
   intro h
   obtain rfl : k = l.length := by omega
   rw [List.drop_length] at hlv
   have : iF (eA w) w = some l := by rw [hlook, ← hlv]; rfl
   rw [this]
   exact pH (vT rfl (by decide))
 have hlf : k < l.length → lH w l 0 [] = match nF w k last (l.getD k 0) with
     | none => false
     | some low => lH w (l.drop (k + 1)) (k + 1) low := by
   intro h
   rw [← hlv, wM l k 0 h]; rfl
 have hpan : k < l.length → nF w k last (l.getD k 0) = none → ∀ h', aDs (iF (eA w) w).isNone uS true (.sref false 0 0 0 ((iF (eA w) w).getD []).length) [.row .own 0 (.ints .i64 ((iF (eA w) w).getD []))] (.pan uS) h' := by
   intro h h2 h'
   rw [bad (by rw [hlf h, h2])]; exact nO
 have hk0 : decide ((k : Int) = 0) = decide (k = 0) := decide_eq_decide.2 (by omega)
 have hk1 : decide (0 < (k : Int)) = decide (0 < k) := decide_eq_decide.2 (by omega)
 cases hn : dF w (l.getD k 0) with
 | none =>
   simp only [cQ.J, cI.J, dE.J, eD.C, hn, Option.isNone_none, go_sem, reduceEqDiff, Nat.reduceLT, reduceAdd, reduceSub, reduceLeDiff, reduceReplicate, reduceToNat]
   refine ⟨fun h => ?_, hout⟩
   rw [aA]
   exact ⟨by omega, by omega, hS, hpan (by omega) (by unfold nF; rw [hn]) _⟩
 | some n =>
   obtain ⟨n1, n2, n3, n4, n5⟩ := n
   have hok := (lS hn).1
   have hsl : n5.length ≤ 13 := hok.2.2.2.2.2.2.1
   have hrs : roomy n5.length := by unfold roomy; omega
   cases hw : lowO w ⟨n1, n2, n3, n4, n5⟩ with
   | none =>
     simp only [cQ.J, cI.J, dE.J, eD.C, hn, hw, Option.isNone_none, Option.isNone_some, Option.getD_some, go_sem, reduceEqDiff, Nat.reduceLT, reduceAdd, reduceSub, reduceLeDiff, reduceReplicate, reduceToNat]
     refine ⟨fun h => ?_, hout⟩
     rw [aA]
     exact ⟨by omega, by omega, hS, hS, hpan (by omega) (by unfold nF; simp only [hn, hw]) _⟩
   | some low =>
     simp only [cQ.J, cI.J, dE.J, eD.C, hn, hw, hk0, hk1, Option.isNone_some, Option.getD_some, go_sem, reduceEqDiff, Nat.reduceLT, reduceAdd, reduceSub, reduceLeDiff, reduceReplicate, reduceToNat]
     refine ⟨fun h => ?_, hout⟩
     rw [aA]
     refine ⟨by omega, by omega, hS, hS, fun hc => hpan (by omega) (by unfold nF; simp only [hn, hw, hc]; rfl) _, fun hc => ⟨hrs, ?_⟩⟩
     rw [aA]
     unfold dS.L2
     have hpl : (plain n5).length ≤ 13 := Nat.le_trans (wN n5) hsl
     refine oL (σ := aY × Nat) (fun s => .str s.1) (fun s => .int .i64 s.2) (fun s => [.row .own 0 (.ints .i64 l), .box (.agg [.int .i64 n1, .int .i64 n2, .int .i64 n3, .int .i64 n4, .sl false (.ints .i64 n5)])]) (fun s => (plain n5).length - s.2)
       (fun s => s.2 ≤ (plain n5).length ∧ lN w low ((plain n5).drop s.2) s.2 s.1 = lN w low (plain n5) 0 low) (low, 0) rfl rfl ⟨Nat.zero_le _, by simp⟩ ?_
     rintro I2 back2 ⟨last2, j⟩ ⟨hj, hsb⟩
     simp only at hj hsb ⊢
     have hlo : lN w low (plain n5) 0 low = false → nF w k last (l.getD k 0) = none := fun hs => by
       unfold nF; simp only [hn, hw, hc, hs]; rfl
     have hso : j < (plain n5).length → lN w low (plain n5) 0 low = match recO w ((plain n5).getD j 0) with
         | none => false
         | some x => decide (x.kind = 1) && !ltB x.key low && (decide (j = 0) || ltB last2 x.key) && lN w low ((plain n5).drop (j + 1)) (j + 1) (if ltB last2 x.key then x.key else last2) := by
       intro h
       rw [← hsb, wM _ j 0 h]; rfl
     have hj0 : decide ((j : Int) = 0) = decide (j = 0) := decide_eq_decide.2 (by omega)
     have hout2 : ¬ (j : Int) < ((plain n5).length : Int) → ∃ m, m < l.length - k ∧ I m [.str low, .int .i64 (IntKind.i64.wrap ((k : Int) + 1))] [.row .own 0 (.ints .i64 l)] := by
       intro hge
       obtain rfl : j = (plain n5).length := by omega
       rw [List.drop_length] at hsb
       have hs1 : lN w low (plain n5) 0 low = true := by rw [← hsb]; rfl
       have hlf' : nF w k last (l.getD k 0) = some low := by unfold nF; simp only [hn, hw, hc, hs1]; rfl
       refine back (low, k + 1) (by simp only; omega) (by simp only; rw [eH (by omega)]) rfl ⟨by simp only; omega, ?_⟩
       simp only
       rw [hlf (by omega), hlf']
     cases hx : recO w ((plain n5).getD j 0) with
     | none =>
       obtain ⟨e, he, hr⟩ := tA hx
       have hd : decide (e = 0) = false := decide_eq_false he
       simp only [cI.J, dO.C, hr, kE, hd, aA, gq, reduceEq, reduceLT, reduceLE, implies_true, reduceCtorEq, if_true, if_false, go_sem, reduceEqDiff, Nat.reduceLT, reduceAdd, reduceSub, reduceLeDiff, reduceReplicate, reduceToNat]
       exact ⟨fun h2 => ⟨⟨by omega, by omega⟩, hS.roomy, hpan (by omega) (hlo (by rw [hso (by omega), hx])) _⟩, hout2⟩
     | some x =>
       obtain ⟨x1, x2, x3, x4⟩ := x
       simp only [cI.J, dO.C, sZ hx, hj0, go_sem, reduceEqDiff, Nat.reduceLT, reduceAdd, reduceSub, reduceLeDiff, reduceReplicate, reduceToNat]
       refine ⟨fun h2 => ⟨⟨by omega, by omega⟩, hS.roomy, ?_⟩, hout2⟩
       refine ⟨fun h3 => hpan (by omega) (hlo ?_) _, fun h3 => ?_⟩
       · rw [hso (by omega), hx]
         simp only [h3, Bool.false_and]
       · refine back2 (if ltB last2 x2 = true then x2 else last2, j + 1) (by simp only; omega) (by simp only; rw [eH (by omega)]) rfl ⟨by simp only; omega, ?_⟩
         simp only
         rw [hso (by omega), hx]
         simp only [h3, Bool.true_and]
theorem aBo {α : Type} {x : Option α} (h : x.isNone = false) : ∃ a, x = some a := by
 cases x with
 | none => cases h
 | some a => exact ⟨a, rfl⟩
def pS (w : List Int) : AV := match lA (eA w) w with
 | some l => .tup [.sl false (.ints .i64 l), .int .i64 0]
 | none => .tup [.sl false (.ints .i64 []), .int .i64 110]
def dZ.C : aE
 | [.sl _ (.ints .i64 w)] => some (false, pD (iE w) (pS w))
 | _ => none
set_option maxHeartbeats 1000000 in
theorem dZ.spec : bI Tryz.prog 24 dZ.C := by
 refine bI.ofD (bR (F := []) (S := [(50, dD.K)]) (by simp) (by simpa using dD.jspec.con) dZ.loops) kH.tspec dZ.at dZ.nm dZ.bd ?_
 intro vs b S v news e hS
 unfold dZ.C at e
 split at e
 rotate_left
 · cases e
 cases e
 rw [dZ.eq]
 unfold dZ.H
 simp (maxSteps := 4000000) only [go_sem, reduceEqDiff, Nat.reduceLT, reduceAdd, reduceSub, reduceLeDiff, reduceReplicate, reduceToNat, dD.K, dD.J]
 rename_i _ w
 refine ⟨hS, fun hp => ⟨rfl, ?_⟩, fun hp => ?_⟩
 · rw [Option.isNone_iff_eq_none] at hp
   have : pS w = .tup [.sl false (.ints .i64 []), .int .i64 110] := by unfold pS; rw [hp]
   rw [this]; exact aG rfl rfl
 · obtain ⟨l, hl⟩ := aBo hp
   have : pS w = .tup [.sl false (.ints .i64 l), .int .i64 0] := by unfold pS; rw [hl]
   rw [this, hl]
   refine aG ?_ rfl
   simp only [Option.getD_some, go_sem, reduceEqDiff, Nat.reduceLT, reduceAdd, reduceSub, reduceLeDiff, reduceReplicate, reduceToNat]
def lowV (w : List Int) (b : Int) : AV := match (dF w b).bind (lowO w) with
 | some s => .tup [.str s, .int .i64 0]
 | none => .tup [.str [], .int .i64 110]
def dB.C : aE
 | [.sl _ (.ints .i64 w), .int .i64 b] => some (false, pD (iE w) (lowV w b))
 | _ => none
set_option maxHeartbeats 1000000 in
theorem dB.spec : bI Tryz.prog 47 dB.C := by
 refine bI.ofD (bR (F := []) (S := [(75, cQ.K), (76, dE.K)]) (by simp) (by simpa using ⟨cQ.jspec.con, dE.jspec.con⟩) dB.loops) kH.tspec dB.at dB.nm dB.bd ?_
 intro vs b S v news e hS
 unfold dB.C at e
 split at e
 rotate_left
 · cases e
 cases e
 rw [dB.eq]
 unfold dB.H
 simp (maxSteps := 4000000) only [go_sem, reduceEqDiff, Nat.reduceLT, reduceAdd, reduceSub, reduceLeDiff, reduceReplicate, reduceToNat, cQ.K, cQ.J, dE.K, dE.J]
 rename_i _ w b
 have e0 : ∀ n : Nd, (⟨n.level, n.turn, n.next, n.low, n.slots⟩ : Nd) = n := fun n => rfl
 refine ⟨hS, fun hp => ⟨rfl, ?_⟩, fun hp => ⟨hS, ?_⟩⟩
 · rw [Option.isNone_iff_eq_none] at hp
   have : lowV w b = .tup [.str [], .int .i64 110] := by unfold lowV; rw [hp]; rfl
   rw [this]; exact aG rfl rfl
 · obtain ⟨n, hn⟩ := aBo hp
   simp only [hn, Option.getD_some, e0]
   refine ⟨fun hq => ⟨rfl, ?_⟩, fun hq => ?_⟩
   · rw [Option.isNone_iff_eq_none] at hq
     have : lowV w b = .tup [.str [], .int .i64 110] := by unfold lowV; rw [hn]; simp only [Option.bind_some, hq]
     rw [this]; exact aG rfl rfl
   · obtain ⟨s, hs⟩ := aBo hq
     have : lowV w b = .tup [.str s, .int .i64 0] := by unfold lowV; rw [hn]; simp only [Option.bind_some, hs]
     rw [this, hs]; exact aG rfl rfl
def rZ (w : List Int) : Int := if (iF (eA w) w).isSome = true then 0 else 110
def fN.C : aE
 | [.sl _ (.ints .i64 w)] => some (false, pD (iE w) (.int .i64 (rZ w)))
 | _ => none
set_option maxHeartbeats 1000000 in
theorem fN.spec : bI Tryz.prog 22 fN.C := by
 refine bI.ofD (bR (F := []) (S := [(45, dS.K)]) (by simp) (by simpa using dS.jspec.con) fN.loops) kH.tspec fN.at fN.nm fN.bd ?_
 intro vs b S v news e hS
 unfold fN.C at e
 split at e
 rotate_left
 · cases e
 cases e
 rw [fN.eq]
 unfold fN.H
 simp (maxSteps := 4000000) only [go_sem, reduceEqDiff, Nat.reduceLT, reduceAdd, reduceSub, reduceLeDiff, reduceReplicate, reduceToNat, dS.K, dS.J]
 rename_i _ w
 refine ⟨hS, fun hp => ⟨rfl, ?_⟩, fun hp => ?_⟩
 · rw [Option.isNone_iff_eq_none] at hp
   have : rZ w = 110 := by unfold rZ; rw [hp]; rfl
   rw [this]; exact aG rfl rfl
 · obtain ⟨l, hl⟩ := aBo hp
   have : rZ w = 0 := by unfold rZ; rw [hl]; rfl
   rw [this]; exact aG rfl rfl
end Lam
namespace Lam
open Go Go.Proofs
def dV.loops : Nat → bX
 | 3 => ⟨[], [], [], [(3, none), (4, some [28, 32])], [], []⟩
 | 6 => ⟨[], [], [], [(5, none), (2, some [49, 51]), (2, none), (4, some [53, 57])], [], []⟩
 | 12 => ⟨[], [], [], [(3, none), (2, some [81, 83]), (2, none), (5, some [85, 90]), (2, none), (3, some [92, 95])], [], []⟩
 | _ => ⟨[], [], [], [], [], []⟩
def dV.H (c : Ctx) (t0 : AV) (t1 : AV) (t2 : AV) (t3 : AV) (h : List AObj) (K : AOut → List AObj → Prop) : Prop :=
 aJ (fun (J1 : List AObj → Prop) =>
 aQ false c (.fn (.func 46) [] []) [t0, t1] h (fun t22 h =>
 runD (aV t22 0) h fun t23 h =>
 runD (aV t22 1) h fun t24 h =>
 cP bB h fun t10 h =>
 runH (aO bB h t10 t23) h fun _ h =>
 runD (binD cM .neq t24 (.int .i64 0)) h fun t27 h =>
 aJ (fun (J2 : AV → AV → List AObj → Prop) =>
 aT t27 false
 (runD (aC bB t10 0) h fun t29 h =>
 runD (fitD aB (aD h t29)) h fun t30 h =>
 runD (binD aB .lss t30 t3) h fun t32 h =>
 J2 (.bool false) t32 h)
 (J2 (.bool true) .und h))
 (fun t28 t32 h => runD (bK t28 (.bool true) t32) h fun t33 h =>
 aW t33
 (J1 h)
 (runD (aC bB t10 2) h fun t34 h =>
 runD (fitD aB (aD h t34)) h fun t35 h =>
 runD (binD aB .neq t35 (.int .i64 0)) h fun t36 h =>
 aJ (fun (J3 : List AObj → Prop) =>
 aW t36
 (runD (aC bB t10 2) h fun t39 h =>
 runD (fitD aB (aD h t39)) h fun t40 h =>
 aQ false c (.fn (.func 81) [] []) [t0, t40] h (fun t41 h =>
 runD (aV t41 0) h fun t42 h =>
 runD (aV t41 1) h fun t43 h =>
 runD (aV t41 2) h fun t44 h =>
 runD (aC bB t10 2) h fun t45 h =>
 runD (fitD aB (aD h t45)) h fun t46 h =>
 runD (binD aB .eql t46 t1) h fun t48 h =>
 aJ (fun (J4 : AV → AV → List AObj → Prop) =>
 aT t48 false
 (runD (unD .not t44) h fun t51 h =>
 J4 (.bool false) t51 h)
 (J4 (.bool true) .und h))
 (fun t49 t51 h => runD (bK t49 (.bool true) t51) h fun t52 h =>
 aJ (fun (J5 : AV → AV → List AObj → Prop) =>
 aT t52 false
 (runD (aC bB t10 0) h fun t55 h =>
 runD (fitD aB (aD h t55)) h fun t56 h =>
 runD (binD aB .neq t42 t56) h fun t57 h =>
 J5 (.bool false) t57 h)
 (J5 (.bool true) .und h))
 (fun t53 t57 h => runD (bK t53 (.bool true) t57) h fun t58 h =>
 aW t58
 (J1 h)
 (runD (binD bP .leq t43 t2) h fun t61 h =>
 aW t61
 (runD (aC bB t10 2) h fun t62 h =>
 runD (fitD aB (aD h t62)) h fun t63 h =>
 K (.ret (.tup [t63, (.int .i64 0)])) h)
 (J3 h)))))
 (fun v h => K (.pan v) h))
 (J3 h))
 (fun h => runD (aC bB t10 0) h fun t64 h =>
 runD (fitD aB (aD h t64)) h fun t65 h =>
 runD (binD aB .gtr t65 t3) h fun t67 h =>
 aJ (fun (J6 : AV → List AObj → Prop) =>
 aW t67
 (runD (fitD bB (aD h t10)) h fun t69 h =>
 aQ false c (.fn (.func 82) [] []) [t0, t69, t2] h (fun t71 h =>
 aQ false c (.fn (.func 81) [] []) [t0, t71] h (fun t75 h =>
 runD (aV t75 0) h fun t76 h =>
 runD (aV t75 1) h fun t77 h =>
 runD (aV t75 2) h fun t78 h =>
 runD (binD aB .eql t71 (.int .i64 0)) h fun t80 h =>
 aJ (fun (J7 : AV → AV → List AObj → Prop) =>
 aT t80 false
 (runD (unD .not t78) h fun t83 h =>
 J7 (.bool false) t83 h)
 (J7 (.bool true) .und h))
 (fun t81 t83 h => runD (bK t81 (.bool true) t83) h fun t84 h =>
 aJ (fun (J8 : AV → AV → List AObj → Prop) =>
 aT t84 false
 (runD (aC bB t10 0) h fun t87 h =>
 runD (fitD aB (aD h t87)) h fun t88 h =>
 runD (binD aB .sub t88 (.int .i64 1)) h fun t89 h =>
 runD (binD aB .neq t76 t89) h fun t90 h =>
 J8 (.bool false) t90 h)
 (J8 (.bool true) .und h))
 (fun t85 t90 h => runD (bK t85 (.bool true) t90) h fun t91 h =>
 aJ (fun (J9 : AV → AV → List AObj → Prop) =>
 aT t91 false
 (runD (binD bP .gtr t77 t2) h fun t95 h =>
 J9 (.bool false) t95 h)
 (J9 (.bool true) .und h))
 (fun t92 t95 h => runD (bK t92 (.bool true) t95) h fun t96 h =>
 aW t96
 (J1 h)
 (J6 t71 h)))))
 (fun v h => K (.pan v) h))
 (fun v h => K (.pan v) h))
 (J6 t1 h))
 (fun t12 h => K (.ret (.tup [t12, (.int .i64 0)])) h)))))
 (fun v h => K (.pan v) h))
 (fun h => K (.ret (.tup [(.int .i64 0), (.int .i64 90)])) h)
def dM.loops : Nat → bX
 | _ => ⟨[], [], [], [], [], []⟩
def dM.H (c : Ctx) (t0 : AV) (t1 : AV) (h : List AObj) (K : AOut → List AObj → Prop) : Prop :=
 aQ false c (.fn (.func 46) [] []) [t0, t1] h (fun t12 h =>
 runD (aV t12 0) h fun t13 h =>
 runD (aV t12 1) h fun t14 h =>
 cP bB h fun t7 h =>
 runH (aO bB h t7 t13) h fun _ h =>
 runD (binD cM .neq t14 (.int .i64 0)) h fun t16 h =>
 aW t16
 (K (.ret (.tup [(.int .i64 0), (.str []), (.bool false)])) h)
 (aQ false c (.fn (.func 47) [] []) [t0, t1] h (fun t20 h =>
 runD (aV t20 0) h fun t21 h =>
 runD (aV t20 1) h fun t22 h =>
 runD (aC bB t7 0) h fun t23 h =>
 runD (fitD aB (aD h t23)) h fun t24 h =>
 runD (binD cM .eql t22 (.int .i64 0)) h fun t26 h =>
 K (.ret (.tup [t24, t21, t26])) h)
 (fun v h => K (.pan v) h)))
 (fun v h => K (.pan v) h)
def eG.loops : Nat → bX
 | 2 => ⟨[6, 14], [false, false], [0, 2, 12, 13], [], [], []⟩
 | 5 => ⟨[], [], [], [(3, none), (3, some [26, 29]), (2, none), (4, some [31, 35])], [], []⟩
 | _ => ⟨[], [], [], [], [], []⟩
def eG.L1 (c : Ctx) (J1 : AV → List AObj → Prop) (K : AOut → List AObj → Prop) (lv : List AV) (h0 : List AObj) (n0 : Nat) (c0 : AV) (c2 : AV) (c12 : AV) (c13 : AV) : Prop :=
 ∃ I : Nat → List AV → List AObj → Prop, (∃ n, I n lv h0) ∧ ∀ n h, ∀ t6, ∀ t14, I n [t6, t14] h →
 runD (binD aB .lss t14 c13) h fun t15 h =>
 aW t15
 (runD (aH aM h c12 t14) h fun t16 h =>
 runD (fitD aB (aD h t16)) h fun t17 h =>
 aQ false c (.fn (.func 79) [] []) [c0, t17] h (fun t21 h =>
 runD (aV t21 0) h fun t22 h =>
 runD (aV t21 1) h fun t23 h =>
 cP aK h fun t9 h =>
 runH (aO aK h t9 t22) h fun _ h =>
 runD (binD cM .eql t23 (.int .i64 0)) h fun t25 h =>
 aJ (fun (J2 : AV → AV → List AObj → Prop) =>
 aT t25 true
 (runD (aC aK t9 0) h fun t27 h =>
 runD (fitD aB (aD h t27)) h fun t28 h =>
 runD (binD aB .eql t28 (.int .i64 2)) h fun t29 h =>
 J2 (.bool true) t29 h)
 (J2 (.bool false) .und h))
 (fun t26 t29 h => runD (bK t26 t29 (.bool false)) h fun t30 h =>
 aJ (fun (J3 : AV → AV → List AObj → Prop) =>
 aT t30 true
 (runD (aC aK t9 1) h fun t32 h =>
 runD (fitD bP (aD h t32)) h fun t33 h =>
 runD (binD bP .leq t33 c2) h fun t35 h =>
 J3 (.bool true) t35 h)
 (J3 (.bool false) .und h))
 (fun t31 t35 h => runD (bK t31 t35 (.bool false)) h fun t36 h =>
 aJ (fun (J4 : AV → List AObj → Prop) =>
 aW t36
 (runD (aC aK t9 3) h fun t37 h =>
 runD (fitD aB (aD h t37)) h fun t38 h =>
 J4 t38 h)
 (J4 t6 h))
 (fun t6 h => runD (binD aB .add t14 (.int .i64 1)) h fun t39 h =>
 (∃ m, m < n ∧ I m (AV.norms n0 h [t6, t39]) (cJ n0 h)) ∧ AV.norms n0 h [c0, c2, c12, c13] = [c0, c2, c12, c13]))))
 (fun v h => K (.pan v) h))
 (J1 t6 h)
def eG.H (c : Ctx) (t0 : AV) (t1 : AV) (t2 : AV) (h : List AObj) (K : AOut → List AObj → Prop) : Prop :=
 boxW bB t1 h fun t4 h =>
 runD (aC bB t4 4) h fun t11 h =>
 runD (fitD aM (aD h t11)) h fun t12 h =>
 runD (lenD aM h t12) h fun t13 h =>
 aJ (fun (J1 : AV → List AObj → Prop) =>
 dC [false, false] [(.int .i64 0), (.int .i64 0)] h fun lv h => eG.L1 c J1 K (AV.norms h.length h lv) (cJ h.length h) h.length (AV.norm h.length h t0) (AV.norm h.length h t2) (AV.norm h.length h t12) (AV.norm h.length h t13))
 (fun t6 h => K (.ret t6) h)
theorem dV.eq (F : List (FuncId × aE)) (S : List (FuncId × Con)) (t0 t1 t2 t3 : AV) (h : List AObj) (K : AOut → List AObj → Prop) : funW (ctx F S dV.loops) Tryz.f49 [t0, t1, t2, t3] h K = dV.H (ctx F S dV.loops) t0 t1 t2 t3 h K := by kernel_rfl
theorem dM.eq (F : List (FuncId × aE)) (S : List (FuncId × Con)) (t0 t1 : AV) (h : List AObj) (K : AOut → List AObj → Prop) : funW (ctx F S dM.loops) Tryz.f81 [t0, t1] h K = dM.H (ctx F S dM.loops) t0 t1 h K := by kernel_rfl
theorem eG.eq (F : List (FuncId × aE)) (S : List (FuncId × Con)) (t0 t1 t2 : AV) (h : List AObj) (K : AOut → List AObj → Prop) : funW (ctx F S eG.loops) Tryz.f82 [t0, t1, t2] h K = eG.H (ctx F S eG.loops) t0 t1 t2 h K := by kernel_rfl
theorem dV.at : Tryz.prog.funcs[49]? = some Tryz.f49 := by kernel_rfl
theorem dV.nm : (Tryz.f49.name == "runtime.NumGoroutine") = false := by kernel_rfl
theorem dV.bd : Tryz.f49.body.isNone = false := by kernel_rfl
theorem dM.at : Tryz.prog.funcs[81]? = some Tryz.f81 := by kernel_rfl
theorem dM.nm : (Tryz.f81.name == "runtime.NumGoroutine") = false := by kernel_rfl
theorem dM.bd : Tryz.f81.body.isNone = false := by kernel_rfl
theorem eG.at : Tryz.prog.funcs[82]? = some Tryz.f82 := by kernel_rfl
theorem eG.nm : (Tryz.f82.name == "runtime.NumGoroutine") = false := by kernel_rfl
theorem eG.bd : Tryz.f82.body.isNone = false := by kernel_rfl
end Lam
namespace Lam
open Go Go.Proofs
def aDE (w : List Int) (b : Int) : AV := match dF w b with
 | none => .tup [.int .i64 0, .str [], .bool false]
 | some n => match lowO w n with
   | none => .tup [.int .i64 n.level, .str [], .bool false]
   | some l => .tup [.int .i64 n.level, .str l, .bool true]
def dM.C : aE
 | [.sl _ (.ints .i64 w), .int .i64 b] => some (false, pD (iE w) (aDE w b))
 | _ => none
theorem dM.spec : bI Tryz.prog 81 dM.C := by
 refine bI.of (bR (F := [(46, cN.C), (47, dB.C)]) (S := []) (by simpa using ⟨cN.spec, dB.spec⟩) (by simp) dM.loops) dM.at dM.nm dM.bd ?_
 intro vs b S v news e hS
 unfold dM.C at e
 split at e
 rotate_left
 · cases e
 cases e
 rw [dM.eq]
 unfold dM.H
 simp (maxSteps := 4000000) only [go_sem, reduceEqDiff, Nat.reduceLT, reduceAdd, reduceSub, reduceLeDiff, reduceReplicate, reduceToNat, cN.C, dB.C]
 rename_i w b
 have hr := iE.roomy hS
 unfold aDE
 cases hn : dF w b with
 | none =>
   obtain ⟨e, he, h⟩ := nW hn
   simp only [h, jM, he, decide_false, aA, aA, gq, reduceEq, reduceLT, reduceLE, implies_true, reduceCtorEq, if_true, if_false, go_sem, reduceEqDiff, Nat.reduceLT, reduceAdd, reduceSub, reduceLeDiff, reduceReplicate, reduceToNat]
   exact ⟨hr, aG rfl rfl⟩
 | some n =>
   obtain ⟨n1, n2, n3, n4, n5⟩ := n
   cases hl : lowO w ⟨n1, n2, n3, n4, n5⟩ with
   | none =>
     have hlv : lowV w b = .tup [.str [], .int .i64 110] := by unfold lowV; rw [hn]; simp only [Option.bind_some, hl]
     simp only [iO hn, hlv, hl, decide_false, aA, aA, gq, reduceEq, reduceLT, reduceLE, implies_true, reduceCtorEq, if_true, if_false, go_sem, reduceEqDiff, Nat.reduceLT, reduceAdd, reduceSub, reduceLeDiff, reduceReplicate, reduceToNat]
     exact ⟨hr, hS, aG rfl rfl⟩
   | some l =>
     have hlv : lowV w b = .tup [.str l, .int .i64 0] := by unfold lowV; rw [hn]; simp only [Option.bind_some, hl]
     simp only [iO hn, hlv, hl, decide_true, aA, aA, gq, reduceEq, reduceLT, reduceLE, implies_true, reduceCtorEq, if_true, if_false, go_sem, reduceEqDiff, Nat.reduceLT, reduceAdd, reduceSub, reduceLeDiff, reduceReplicate, reduceToNat]
     exact ⟨hr, hS, aG rfl rfl⟩
def eG.C : aE
 | [.sl _ (.ints .i64 w), .agg [.int .i64 a, .int .i64 b, .int .i64 c, .int .i64 d, .sl _ (.ints .i64 l)], .str key] => some (false, pD (roomy w.length ∧ l.length ≤ 1000) (.int .i64 (aAO w key ⟨a, b, c, d, l⟩)))
 | _ => none
theorem eG.spec : bI Tryz.prog 82 eG.C := by
 refine bI.of (bR (F := [(79, dO.C)]) (S := []) (by simpa using dO.spec) (by simp) eG.loops) eG.at eG.nm eG.bd ?_
 intro vs b S v news e hS
 unfold eG.C at e
 split at e
 rotate_left
 · cases e
 cases e
 rw [eG.eq]
 unfold eG.H
 simp (maxSteps := 4000000) only [go_sem, reduceEqDiff, Nat.reduceLT, reduceAdd, reduceSub, reduceLeDiff, reduceReplicate, reduceToNat, dO.C]
 rename_i w a b c d _ l key
 obtain ⟨hw, hl⟩ := hS
 rw [aA]
 unfold eG.L1
 refine oL (σ := Nat) (fun k => .int .i64 ((l.take k).foldl (yB w key) 0)) (fun k => .int .i64 k) (fun k => [.box (.agg [.int .i64 a, .int .i64 b, .int .i64 c, .int .i64 d, .sl false (.ints .i64 l)])]) (fun k => l.length - k) (fun k => k ≤ l.length) 0 rfl rfl (Nat.zero_le _) ?_
 intro I back k hk
 by_cases hlt : k < l.length
 · have hb := @back (l.length - k) [.int .i64 (yB w key ((l.take k).foldl (yB w key) 0) (l.getD k 0)), .int .i64 ((k + 1 : Nat) : Int)] [.box (.agg [.int .i64 a, .int .i64 b, .int .i64 c, .int .i64 d, .sl false (.ints .i64 l)])] (k + 1) (by omega) (by rw [gQ l k 0 hlt, List.foldl_append]; rfl) rfl (by omega)
   clear back
   generalize (l.take k).foldl (yB w key) 0 = out at *
   have d1 : decide ((k : Int) < (l.length : Int)) = true := decide_eq_true (by omega)
   unfold yB at hb
   cases hx : recO w (l.getD k 0) with
   | none =>
     obtain ⟨e, he, hr⟩ := tA hx
     rw [hx] at hb
     simp only [dO.C, hr, kE, he, d1, decide_false, aA, eH (show k < 4611686018427387904 by omega), aA, gq, reduceEq, reduceLT, reduceLE, implies_true, reduceCtorEq, if_true, if_false, go_sem, reduceEqDiff, Nat.reduceLT, reduceAdd, reduceSub, reduceLeDiff, reduceReplicate, reduceToNat]
     exact ⟨⟨by omega, by omega⟩, hw, hb⟩
   | some y =>
     obtain ⟨y1, y2, y3, y4⟩ := y
     rw [hx] at hb
     simp only at hb
     simp only [dO.C, sZ hx, d1, decide_true, aA, eH (show k < 4611686018427387904 by omega), aA, gq, reduceEq, reduceLT, reduceLE, implies_true, reduceCtorEq, if_true, if_false, go_sem, reduceEqDiff, Nat.reduceLT, reduceAdd, reduceSub, reduceLeDiff, reduceReplicate, reduceToNat]
     refine ⟨⟨by omega, by omega⟩, hw, ?_⟩
     by_cases hy : y1 = 2
     · simp only [hy, decide_true, aA, gq, reduceEq, reduceLT, reduceLE, implies_true, reduceCtorEq, if_true, if_false, go_sem, reduceEqDiff, Nat.reduceLT, reduceAdd, reduceSub, reduceLeDiff, reduceReplicate, reduceToNat]
       refine ⟨fun h => ?_, fun h => ?_⟩
       · rw [if_pos ⟨hy, h⟩] at hb; exact hb
       · rw [if_neg (fun h' => by rw [h] at h'; cases h'.2)] at hb; exact hb
     · rw [if_neg (fun h' => hy h'.1)] at hb
       simp only [hy, decide_false, aA, gq, reduceEq, reduceLT, reduceLE, implies_true, reduceCtorEq, if_true, if_false, go_sem, reduceEqDiff, Nat.reduceLT, reduceAdd, reduceSub, reduceLeDiff, reduceReplicate, reduceToNat]
       exact hb
 · obtain rfl : k = l.length := by omega
   have d1 : decide ((l.length : Int) < (l.length : Int)) = false := decide_eq_false (by omega)
   clear back
   rw [List.take_length]
   simp only [d1, aA, aA, gq, reduceEq, reduceLT, reduceLE, implies_true, reduceCtorEq, if_true, if_false, go_sem, reduceEqDiff, Nat.reduceLT, reduceAdd, reduceSub, reduceLeDiff, reduceReplicate, reduceToNat]
   exact aG rfl rfl
def mX (w : List Int) (b : Int) (key : aY) (level : Int) : AV := match lI w b key level with
 | none => .tup [.int .i64 0, .int .i64 90]
 | some t => .tup [.int .i64 t, .int .i64 0]
theorem aDF (w : List Int) (b : Int) : (∃ lv lo, aBk w b = none ∧ aDE w b = .tup [.int .i64 lv, .str lo, .bool false]) ∨ ∃ lv lo, aBk w b = some (lv, lo) ∧ aDE w b = .tup [.int .i64 lv, .str lo, .bool true] := by
 unfold aBk aDE
 cases dF w b with
 | none => exact .inl ⟨_, _, rfl, rfl⟩
 | some n =>
   simp only
   cases lowO w n with
   | none => exact .inl ⟨_, _, rfl, rfl⟩
   | some l => exact .inr ⟨_, _, rfl, rfl⟩
def dV.C : aE
 | [.sl _ (.ints .i64 w), .int .i64 b, .str key, .int .i64 level] => some (false, pD (iE w) (mX w b key level))
 | _ => none
theorem dV.spec : bI Tryz.prog 49 dV.C := by
 refine bI.of (bR (F := [(46, cN.C), (81, dM.C), (82, eG.C)]) (S := []) (by simpa using ⟨cN.spec, dM.spec, eG.spec⟩) (by simp) dV.loops) dV.at dV.nm dV.bd ?_
 intro vs b S v news e hS
 unfold dV.C at e
 split at e
 rotate_left
 · cases e
 cases e
 rw [dV.eq]
 unfold dV.H
 simp (maxSteps := 4000000) only [go_sem, reduceEqDiff, Nat.reduceLT, reduceAdd, reduceSub, reduceLeDiff, reduceReplicate, reduceToNat, cN.C, dM.C, eG.C]
 rename_i w b key level
 have hr := iE.roomy hS
 have hno : ∀ ao h, lI w b key level = none → ao = .ret (.tup [.int .i64 0, .int .i64 90]) → Post false (mX w b key level) [] ao h := fun ao h e1 e2 => by
   rw [e2]; unfold mX; rw [e1]; exact aG rfl rfl
 have hyes : ∀ ao h t, lI w b key level = some t → ao = .ret (.tup [.int .i64 t, .int .i64 0]) → Post false (mX w b key level) [] ao h := fun ao h t e1 e2 => by
   rw [e2]; unfold mX; rw [e1]; exact aG rfl rfl
 rw [aA]
 cases hn : dF w b with
 | none =>
   obtain ⟨e, he, h⟩ := nW hn
   simp only [h, jM, he, decide_false, aA, aA, gq, reduceEq, reduceLT, reduceLE, implies_true, reduceCtorEq, if_true, if_false, go_sem, reduceEqDiff, Nat.reduceLT, reduceAdd, reduceSub, reduceLeDiff, reduceReplicate, reduceToNat]
   exact ⟨hr, hno _ _ (by unfold lI; rw [hn]) rfl⟩
 | some n =>
   have hok := (lS hn).1
   obtain ⟨n1, n2, n3, n4, n5⟩ := n
   have h13 : n5.length ≤ 13 := hok.2.2.2.2.2.2.1
   have hlv : 0 ≤ n1 ∧ n1 ≤ 9 := ⟨hok.1, hok.2.1⟩
   simp only [iO hn, decide_true, gq, reduceEq, reduceLT, reduceLE, implies_true, reduceCtorEq, if_true, if_false, go_sem, reduceEqDiff, Nat.reduceLT, reduceAdd, reduceSub, reduceLeDiff, reduceReplicate, reduceToNat]
   refine ⟨hr, ?_⟩
   by_cases hlt : n1 < level
   · have hd : lI w b key level = none := by unfold lI; rw [hn]; exact if_pos hlt
     simp only [hlt, decide_true, aA, aA, gq, reduceEq, reduceLT, reduceLE, implies_true, reduceCtorEq, if_true, if_false, go_sem, reduceEqDiff, Nat.reduceLT, reduceAdd, reduceSub, reduceLeDiff, reduceReplicate, reduceToNat]
     exact hno _ _ hd rfl
   have hd : lI w b key level = if n3 = 0 then aBl w b key level ⟨n1, n2, n3, n4, n5⟩ else match aBk w n3 with
     | none => none
     | some (lv, lo) => if n3 = b ∨ lv ≠ n1 then none else if ltB key lo = false then some n3 else aBl w b key level ⟨n1, n2, n3, n4, n5⟩ := by
     unfold lI; rw [hn]; exact if_neg hlt
   rw [aA]
   simp only [hlt, decide_false, gq, reduceEq, reduceLT, reduceLE, implies_true, reduceCtorEq, if_true, if_false, go_sem, reduceEqDiff, Nat.reduceLT, reduceAdd, reduceSub, reduceLeDiff, reduceReplicate, reduceToNat]
   refine nM fun k3 hk3 => ?_
   have rest3 : lI w b key level = aBl w b key level ⟨n1, n2, n3, n4, n5⟩ → k3 [.box (.agg [.int .i64 n1, .int .i64 n2, .int .i64 n3, .int .i64 n4, .sl false (.ints .i64 n5)])] := fun hd2 => by
     unfold aBl at hd2
     rw [hk3]
     simp only [eG.C, gq, reduceEq, reduceLT, reduceLE, implies_true, reduceCtorEq, if_true, if_false, go_sem, reduceEqDiff, Nat.reduceLT, reduceAdd, reduceSub, reduceLeDiff, reduceReplicate, reduceToNat]
     rw [aA]
     refine ⟨fun hl => ⟨⟨hr, by omega⟩, ?_⟩, fun hl => hyes _ _ _ (by rw [hd2, if_neg hl]) rfl⟩
     rw [if_pos hl] at hd2
     unfold aKS at hd2
     have e1 : IntKind.i64.wrap (n1 - 1) = n1 - 1 := w64 (by omega) (by omega)
     obtain ⟨ch, hch⟩ : ∃ ch, aAO w key ⟨n1, n2, n3, n4, n5⟩ = ch := ⟨_, rfl⟩
     rw [hch] at hd2
     rcases aDF w ch with ⟨lv, lo, hf, hv⟩ | ⟨lv, lo, hf, hv⟩
     · rw [hf] at hd2
       by_cases h0 : ch = 0
       · simp only [hch, dM.C, hv, h0, decide_true, aA, aA, gq, reduceEq, reduceLT, reduceLE, implies_true, reduceCtorEq, if_true, if_false, go_sem, reduceEqDiff, Nat.reduceLT, reduceAdd, reduceSub, reduceLeDiff, reduceReplicate, reduceToNat]
         rw [h0] at hv
         simp only [hv, aA, aA, gq, reduceEq, reduceLT, reduceLE, implies_true, reduceCtorEq, if_true, if_false, go_sem, reduceEqDiff, Nat.reduceLT, reduceAdd, reduceSub, reduceLeDiff, reduceReplicate, reduceToNat]
         exact ⟨hS, hno _ _ hd2 rfl⟩
       · simp only [hch, dM.C, hv, h0, decide_false, aA, aA, gq, reduceEq, reduceLT, reduceLE, implies_true, reduceCtorEq, if_true, if_false, go_sem, reduceEqDiff, Nat.reduceLT, reduceAdd, reduceSub, reduceLeDiff, reduceReplicate, reduceToNat]
         exact ⟨hS, hno _ _ hd2 rfl⟩
     · rw [hf] at hd2
       simp only at hd2
       by_cases h0 : ch = 0
       · rw [if_pos (.inl h0)] at hd2
         rw [h0] at hv
         simp only [hch, dM.C, h0, decide_true, aA, aA, gq, reduceEq, reduceLT, reduceLE, implies_true, reduceCtorEq, if_true, if_false, go_sem, reduceEqDiff, Nat.reduceLT, reduceAdd, reduceSub, reduceLeDiff, reduceReplicate, reduceToNat]
         simp only [hv, aA, aA, gq, reduceEq, reduceLT, reduceLE, implies_true, reduceCtorEq, if_true, if_false, go_sem, reduceEqDiff, Nat.reduceLT, reduceAdd, reduceSub, reduceLeDiff, reduceReplicate, reduceToNat]
         exact ⟨hS, hno _ _ hd2 rfl⟩
       · by_cases h1 : lv = n1 - 1
         · cases h2 : ltB key lo with
           | true =>
             rw [if_pos (.inr (.inr h2))] at hd2
             simp only [hch, dM.C, hv, h0, e1, h1, h2, decide_false, decide_true, aA, aA, gq, reduceEq, reduceLT, reduceLE, implies_true, reduceCtorEq, if_true, if_false, go_sem, reduceEqDiff, Nat.reduceLT, reduceAdd, reduceSub, reduceLeDiff, reduceReplicate, reduceToNat]
             exact ⟨hS, hno _ _ hd2 rfl⟩
           | false =>
             rw [if_neg (by
               rintro (h | h | h)
               · exact h0 h
               · exact h h1
               · rw [h2] at h; cases h)] at hd2
             simp only [hch, dM.C, hv, h0, e1, h1, h2, decide_false, decide_true, aA, aA, gq, reduceEq, reduceLT, reduceLE, implies_true, reduceCtorEq, if_true, if_false, go_sem, reduceEqDiff, Nat.reduceLT, reduceAdd, reduceSub, reduceLeDiff, reduceReplicate, reduceToNat]
             exact ⟨hS, hyes _ _ _ hd2 rfl⟩
         · rw [if_pos (.inr (.inl h1))] at hd2
           simp only [hch, dM.C, hv, h0, e1, h1, decide_false, decide_true, aA, aA, gq, reduceEq, reduceLT, reduceLE, implies_true, reduceCtorEq, if_true, if_false, go_sem, reduceEqDiff, Nat.reduceLT, reduceAdd, reduceSub, reduceLeDiff, reduceReplicate, reduceToNat]
           exact ⟨hS, hno _ _ hd2 rfl⟩
   clear hk3
   rw [aA]
   refine ⟨fun hn3 => ?_, fun hn3 => rest3 (by rw [hd, if_pos hn3])⟩
   rw [if_neg hn3] at hd
   rcases aDF w n3 with ⟨lv, lo, hf, hv⟩ | ⟨lv, lo, hf, hv⟩
   · rw [hf] at hd
     by_cases h0 : n3 = b
     · simp only [dM.C, hv, h0, decide_true, aA, aA, gq, reduceEq, reduceLT, reduceLE, implies_true, reduceCtorEq, if_true, if_false, go_sem, reduceEqDiff, Nat.reduceLT, reduceAdd, reduceSub, reduceLeDiff, reduceReplicate, reduceToNat]
       rw [h0] at hv
       simp only [hv, aA, aA, gq, reduceEq, reduceLT, reduceLE, implies_true, reduceCtorEq, if_true, if_false, go_sem, reduceEqDiff, Nat.reduceLT, reduceAdd, reduceSub, reduceLeDiff, reduceReplicate, reduceToNat]
       exact ⟨hS, hno _ _ hd rfl⟩
     · simp only [dM.C, hv, h0, decide_false, aA, aA, gq, reduceEq, reduceLT, reduceLE, implies_true, reduceCtorEq, if_true, if_false, go_sem, reduceEqDiff, Nat.reduceLT, reduceAdd, reduceSub, reduceLeDiff, reduceReplicate, reduceToNat]
       exact ⟨hS, hno _ _ hd rfl⟩
   · rw [hf] at hd
     simp only at hd
     by_cases h0 : n3 = b
     · rw [if_pos (.inl h0)] at hd
       rw [h0] at hv
       simp only [dM.C, h0, decide_true, aA, aA, gq, reduceEq, reduceLT, reduceLE, implies_true, reduceCtorEq, if_true, if_false, go_sem, reduceEqDiff, Nat.reduceLT, reduceAdd, reduceSub, reduceLeDiff, reduceReplicate, reduceToNat]
       simp only [hv, aA, aA, gq, reduceEq, reduceLT, reduceLE, implies_true, reduceCtorEq, if_true, if_false, go_sem, reduceEqDiff, Nat.reduceLT, reduceAdd, reduceSub, reduceLeDiff, reduceReplicate, reduceToNat]
       exact ⟨hS, hno _ _ hd rfl⟩
     · by_cases h1 : lv = n1
       · rw [if_neg (by
           rintro (h | h)
           · exact h0 h
           · exact h h1)] at hd
         cases h2 : ltB key lo with
         | true =>
           rw [h2] at hd
           simp only [dM.C, hv, h0, h1, h2, decide_false, decide_true, aA, aA, gq, reduceEq, reduceLT, reduceLE, implies_true, reduceCtorEq, if_true, if_false, go_sem, reduceEqDiff, Nat.reduceLT, reduceAdd, reduceSub, reduceLeDiff, reduceReplicate, reduceToNat]
           exact ⟨hS, rest3 (by rw [hd]; rfl)⟩
         | false =>
           rw [if_pos h2] at hd
           simp only [dM.C, hv, h0, h1, h2, decide_false, decide_true, aA, aA, gq, reduceEq, reduceLT, reduceLE, implies_true, reduceCtorEq, if_true, if_false, go_sem, reduceEqDiff, Nat.reduceLT, reduceAdd, reduceSub, reduceLeDiff, reduceReplicate, reduceToNat]
           exact ⟨hS, hyes _ _ _ hd rfl⟩
       · rw [if_pos (.inr h1)] at hd
         simp only [dM.C, hv, h0, h1, decide_false, decide_true, aA, aA, gq, reduceEq, reduceLT, reduceLE, implies_true, reduceCtorEq, if_true, if_false, go_sem, reduceEqDiff, Nat.reduceLT, reduceAdd, reduceSub, reduceLeDiff, reduceReplicate, reduceToNat]
         exact ⟨hS, hno _ _ hd rfl⟩
end Lam
namespace Lam
open Go
def qN (a lo hi : Nat) (l : List RecT) : Prop := ∀ i c, lo ≤ i → (c = 2 * i + 1 ∨ c = 2 * i + 2) → c < hi → leB (kyL l (a + c)) (kyL l (a + i))
def uT (a lo r hi : Nat) (l : List RecT) : Prop :=
 (∀ i c, lo ≤ i → i ≠ r → (c = 2 * i + 1 ∨ c = 2 * i + 2) → c < hi → leB (kyL l (a + c)) (kyL l (a + i))) ∧
 ∀ i c, lo ≤ i → (r = 2 * i + 1 ∨ r = 2 * i + 2) → (c = 2 * r + 1 ∨ c = 2 * r + 2) → c < hi → leB (kyL l (a + c)) (kyL l (a + i))
theorem uT.begin {a lo hi : Nat} {l : List RecT} (h : qN a (lo + 1) hi l) : uT a lo lo hi l :=
 ⟨fun i c h1 h2 h3 h4 => h i c (by omega) h3 h4, fun i c h1 h2 h3 h4 => by omega⟩
theorem uT.done {a lo r hi : Nat} {l : List RecT} (h : uT a lo r hi l) (hc : ∀ c, (c = 2 * r + 1 ∨ c = 2 * r + 2) → c < hi → leB (kyL l (a + c)) (kyL l (a + r))) : qN a lo hi l := fun i c h1 h2 h3 => by
 by_cases e : i = r
 · subst e; exact hc c h2 h3
 · exact h.1 i c h1 e h2 h3
theorem uT.step {a lo r hi c : Nat} {l : List RecT} (h : uT a lo r hi l) (hr : lo ≤ r) (hc : c = 2 * r + 1 ∨ c = 2 * r + 2) (hch : c < hi) (hl : a + hi ≤ l.length) (hlt : leB (kyL l (a + r)) (kyL l (a + c))) (ho : ∀ d, (d = 2 * r + 1 ∨ d = 2 * r + 2) → d < hi → leB (kyL l (a + d)) (kyL l (a + c))) : uT a lo c hi (gS l (a + r) (a + c)) := by
 obtain ⟨h1, h2⟩ := h
 have hrl : a + r < l.length := by omega
 have hcl : a + c < l.length := by omega
 have e : ∀ k, kyL (gS l (a + r) (a + c)) (a + k) = if k = c then kyL l (a + r) else if k = r then kyL l (a + c) else kyL l (a + k) := fun k => by
   rw [jO hrl hcl]
   by_cases e1 : k = c
   · rw [if_pos (by omega), if_pos e1]
   · rw [if_neg (by omega), if_neg e1]
     by_cases e2 : k = r
     · rw [if_pos (by omega), if_pos e2]
     · rw [if_neg (by omega), if_neg e2]
 refine ⟨fun i d q1 q2 q3 q4 => ?_, fun i d q1 q2 q3 q4 => ?_⟩
 · rw [e, e, if_neg q2]
   by_cases hir : i = r
   · subst hir
     rw [if_pos rfl]
     by_cases hd : d = c
     · rw [if_pos hd]; exact hlt
     · rw [if_neg hd, if_neg (by omega)]; exact ho d q3 q4
   · rw [if_neg hir]
     by_cases hd : d = r
     · subst hd
       rw [if_neg (by omega), if_pos rfl]; exact h2 i c q1 q3 hc hch
     · rw [if_neg (show ¬ d = c by omega), if_neg hd]; exact h1 i d q1 hir q3 q4
 · obtain rfl : i = r := by omega
   rw [e, e, if_neg (show ¬ d = c by omega), if_neg (show ¬ d = i by omega), if_neg (show ¬ i = c by omega), if_pos rfl]
   exact h1 c d (by omega) (by omega) q3 q4
theorem qN.top {a hi : Nat} {l : List RecT} (h : qN a 0 hi l) (k : Nat) : k < hi → leB (kyL l (a + k)) (kyL l a) := by
 induction k using Nat.strongRecOn with
 | _ k ih =>
   intro hk
   cases k with
   | zero => exact zH _
   | succ k => exact lV (h (k / 2) (k + 1) (Nat.zero_le _) (by omega) hk) (ih (k / 2) (by omega) (by omega))
def qO (a n b : Nat) (l : List RecT) : Prop := qN a 0 n l ∧ SegS (a + n) b l ∧ ∀ p q, p < n → a + n ≤ q → q < b → leB (kyL l (a + p)) (kyL l q)
theorem qO.begin {a b : Nat} {l : List RecT} (hab : a ≤ b) (h : qN a 0 (b - a) l) : qO a (b - a) b l :=
 ⟨h, SegS.one (by omega), fun p q h1 h2 h3 => by omega⟩
theorem qO.heap {a n b : Nat} {l : List RecT} (h : qO a (n + 1) b l) (hb : a + n < b) (hl : b ≤ l.length) : qN a 1 n (gS l a (a + n)) := fun i c h1 h2 h3 => by
 rw [jO (by omega) (by omega), jO (by omega) (by omega), if_neg (by omega), if_neg (by omega), if_neg (by omega), if_neg (by omega)]
 exact h.1 i c (Nat.zero_le _) h2 (by omega)
theorem qO.next {a n b : Nat} {l l2 : List RecT} (h : qO a (n + 1) b l) (hb : a + n < b) (hl : b ≤ l.length) (hs : SegP a (a + n) (gS l a (a + n)) l2) (hh : qN a 0 n l2) : qO a n b l2 := by
 obtain ⟨h1, h2, h3⟩ := h
 have hal : a < l.length := by omega
 have hnl : a + n < l.length := by omega
 have e1 : kyL l2 (a + n) = kyL l a := by rw [hs.same (by omega), jO hal hnl, if_pos rfl]
 have e2 : ∀ q, a + n < q → kyL l2 q = kyL l q := fun q hq => by rw [hs.same (by omega), jO hal hnl, if_neg (by omega), if_neg (by omega)]
 have e3 : ∀ p, p < n → ∃ p', p' < n + 1 ∧ kyL l2 (a + p) = kyL l (a + p') := fun p hp => by
   obtain ⟨k', q1, q2, e⟩ := hs.from (k := a + p) (by omega) (by omega)
   rw [e, jO hal hnl, if_neg (by omega)]
   by_cases hk : k' = a
   · rw [if_pos hk]; exact ⟨n, by omega, rfl⟩
   · rw [if_neg hk]; exact ⟨k' - a, by omega, by rw [show a + (k' - a) = k' by omega]⟩
 have htop : ∀ p', p' < n + 1 → leB (kyL l (a + p')) (kyL l a) := fun p' hp => h1.top p' hp
 refine ⟨hh, fun p q p1 p2 p3 => ?_, fun p q p1 p2 p3 => ?_⟩
 · rw [e2 q (by omega)]
   by_cases hp : p = a + n
   · subst hp; rw [e1]; exact h3 0 q (by omega) (by omega) p3
   · rw [e2 p (by omega)]; exact h2 p q (by omega) p2 p3
 · obtain ⟨p', g1, g2⟩ := e3 p p1
   rw [g2]
   by_cases hq : q = a + n
   · subst hq; rw [e1]; exact htop p' g1
   · rw [e2 q (by omega)]; exact h3 p' q g1 (by omega) p3
theorem qO.fin {a b : Nat} {l : List RecT} (h : qO a 0 b l) : SegS a b l := h.2.1
theorem SegP.le {a b : Nat} {l l' : List RecT} (h : SegP a b l l') {x : aY} (hx : ∀ k, a ≤ k → k < b → leB x (kyL l k)) : ∀ k, a ≤ k → k < b → leB x (kyL l' k) := fun k h1 h2 => by
 obtain ⟨k', q1, q2, e⟩ := h.from h1 h2
 rw [e]; exact hx k' q1 q2
end Lam
namespace Lam
open Go Go.Proofs
def bF.loops : Nat → bX
 | _ => ⟨[], [], [], [], [], []⟩
def bF.H (c : Ctx) (t0 : AV) (t1 : AV) (h : List AObj) (K : AOut → List AObj → Prop) : Prop :=
 runD (lenD aU h t0) h fun t6 h =>
 runD (jK h aB rW t6) h fun t10 h =>
 aQ false c (.fn (.func 120) [] []) [t10] h (fun t11 h =>
 aQ false c (.fn (.func 119) [] []) [t0, (.int .i64 0), t6, t11, t1] h (fun t13 h =>
 K (.ret (.tup [])) h)
 (fun v h => K (.pan v) h))
 (fun v h => K (.pan v) h)
def bT.loops : Nat → bX
 | 2 => ⟨[1, 2, 3, 10, 11], [false, false, false, false, false], [0, 4], [], [], []⟩
 | 15 => ⟨[], [], [], [(2, none), (1, some [69, 70]), (2, none), (2, some [72, 74])], [], []⟩
 | _ => ⟨[], [], [], [], [], []⟩
def bT.L1 (c : Ctx) (K : AOut → List AObj → Prop) (lv : List AV) (h0 : List AObj) (n0 : Nat) (c0 : AV) (c4 : AV) : Prop :=
 ∃ I : Nat → List AV → List AObj → Prop, (∃ n, I n lv h0) ∧ ∀ n h, ∀ t1, ∀ t2, ∀ t3, ∀ t10, ∀ t11, I n [t1, t2, t3, t10, t11] h →
 aJ (fun (J2 : AV → AV → AV → AV → AV → List AObj → Prop) =>
 runD (binD aB .sub t2 t1) h fun t23 h =>
 runD (binD aB .leq t23 (.int .i64 12)) h fun t25 h =>
 aW t25
 (aQ false c (.fn (.func 126) [] []) [c0, t1, t2, c4] h (fun t30 h =>
 K (.ret (.tup [])) h)
 (fun v h => K (.pan v) h))
 (runD (binD aB .eql t3 (.int .i64 0)) h fun t32 h =>
 aW t32
 (aQ false c (.fn (.func 127) [] []) [c0, t1, t2, c4] h (fun t37 h =>
 K (.ret (.tup [])) h)
 (fun v h => K (.pan v) h))
 (runD (unD .not t10) h fun t39 h =>
 aJ (fun (J3 : AV → List AObj → Prop) =>
 aW t39
 (aQ false c (.fn (.func 128) [] []) [c0, t1, t2, c4] h (fun t44 h =>
 runD (binD aB .sub t3 (.int .i64 1)) h fun t46 h =>
 J3 t46 h)
 (fun v h => K (.pan v) h))
 (J3 t3 h))
 (fun t3 h => aQ false c (.fn (.func 129) [] []) [c0, t1, t2, c4] h (fun t52 h =>
 runD (aV t52 0) h fun t53 h =>
 runD (aV t52 1) h fun t54 h =>
 runD (binD mG .eql t54 (.int .i64 2)) h fun t56 h =>
 aJ (fun (J4 : AV → AV → List AObj → Prop) =>
 aW t56
 (aQ false c (.fn (.func 130) [] []) [c0, t1, t2, c4] h (fun t61 h =>
 runD (binD aB .sub t2 (.int .i64 1)) h fun t63 h =>
 runD (binD aB .sub t53 t1) h fun t66 h =>
 runD (binD aB .sub t63 t66) h fun t67 h =>
 J4 t67 (.int .i64 1) h)
 (fun v h => K (.pan v) h))
 (J4 t53 t54 h))
 (fun t13 t14 h => aJ (fun (J5 : AV → AV → List AObj → Prop) =>
 aT t10 true
 (J5 (.bool true) t11 h)
 (J5 (.bool false) .und h))
 (fun t69 t70 h => runD (bK t69 t70 (.bool false)) h fun t71 h =>
 aJ (fun (J6 : AV → AV → List AObj → Prop) =>
 aT t71 true
 (runD (binD mG .eql t14 (.int .i64 1)) h fun t74 h =>
 J6 (.bool true) t74 h)
 (J6 (.bool false) .und h))
 (fun t72 t74 h => runD (bK t72 t74 (.bool false)) h fun t75 h =>
 aJ (fun (J7 : List AObj → Prop) =>
 aW t75
 (aQ false c (.fn (.func 131) [] []) [c0, t1, t2, c4] h (fun t80 h =>
 aW t80
 (K (.ret (.tup [])) h)
 (J7 h))
 (fun v h => K (.pan v) h))
 (J7 h))
 (fun h => runD (binD aB .gtr t1 (.int .i64 0)) h fun t82 h =>
 aJ (fun (J8 : AV → AV → List AObj → Prop) =>
 aT t82 true
 (runD (binD aB .sub t1 (.int .i64 1)) h fun t87 h =>
 runD (aH aU h c0 t87) h fun t88 h =>
 runD (fitD aK (aD h t88)) h fun t89 h =>
 runD (aH aU h c0 t13) h fun t92 h =>
 runD (fitD aK (aD h t92)) h fun t93 h =>
 aQ false c.noS c4 [t89, t93] h (fun t94 h =>
 runD (binD aB .lss t94 (.int .i64 0)) h fun t95 h =>
 runD (unD .not t95) h fun t96 h =>
 J8 (.bool true) t96 h)
 (fun _ _ => False))
 (J8 (.bool false) .und h))
 (fun t83 t96 h => runD (bK t83 t96 (.bool false)) h fun t97 h =>
 aW t97
 (aQ false c (.fn (.func 132) [] []) [c0, t1, t2, t13, c4] h (fun t103 h =>
 J2 t103 t2 t3 t10 t11 h)
 (fun v h => K (.pan v) h))
 (aQ false c (.fn (.func 133) [] []) [c0, t1, t2, t13, c4] h (fun t111 h =>
 runD (aV t111 0) h fun t112 h =>
 runD (aV t111 1) h fun t113 h =>
 runD (binD aB .sub t112 t1) h fun t117 h =>
 runD (binD aB .sub t2 t112) h fun t120 h =>
 runD (binD aB .quo t23 (.int .i64 8)) h fun t122 h =>
 runD (binD aB .lss t117 t120) h fun t125 h =>
 aJ (fun (J9 : AV → AV → AV → List AObj → Prop) =>
 aW t125
 (runD (binD aB .geq t117 t122) h fun t128 h =>
 aQ false c (.fn (.func 119) [] []) [c0, t1, t112, t3, c4] h (fun t134 h =>
 runD (binD aB .add t112 (.int .i64 1)) h fun t136 h =>
 J9 t136 t2 t128 h)
 (fun v h => K (.pan v) h))
 (runD (binD aB .geq t120 t122) h fun t139 h =>
 runD (binD aB .add t112 (.int .i64 1)) h fun t142 h =>
 aQ false c (.fn (.func 119) [] []) [c0, t142, t2, t3, c4] h (fun t146 h =>
 J9 t1 t112 t139 h)
 (fun v h => K (.pan v) h)))
 (fun t1 t2 t10 h => J2 t1 t2 t3 t10 t113 h))
 (fun v h => K (.pan v) h))))))))
 (fun v h => K (.pan v) h)))))
 (fun t1 t2 t3 t10 t11 h => (∃ m, m < n ∧ I m (AV.norms n0 h [t1, t2, t3, t10, t11]) (cJ n0 h)) ∧ AV.norms n0 h [c0, c4] = [c0, c4])
def bT.H (c : Ctx) (t0 : AV) (t1 : AV) (t2 : AV) (t3 : AV) (t4 : AV) (h : List AObj) (K : AOut → List AObj → Prop) : Prop :=
 aJ (fun (J1 : List AObj → Prop) =>
 dC [false, false, false, false, false] [t1, t2, t3, (.bool true), (.bool true)] h fun lv h => bT.L1 c K (AV.norms h.length h lv) (cJ h.length h) h.length (AV.norm h.length h t0) (AV.norm h.length h t4))
 (fun h => K (.ret (.tup [])) h)
def bL.loops : Nat → bX
 | _ => ⟨[], [], [], [], [], []⟩
def bL.H (c : Ctx) (t0 : AV) (t1 : AV) (t2 : AV) (t3 : AV) (h : List AObj) (K : AOut → List AObj → Prop) : Prop :=
 runD (binD aB .sub t2 t1) h fun t17 h =>
 cP aB h fun t11 h =>
 runD (binD aB .quo t17 (.int .i64 4)) h fun t20 h =>
 runD (binD aB .mul t20 (.int .i64 1)) h fun t21 h =>
 runD (binD aB .add t1 t21) h fun t22 h =>
 runD (binD aB .quo t17 (.int .i64 4)) h fun t25 h =>
 runD (binD aB .mul t25 (.int .i64 2)) h fun t26 h =>
 runD (binD aB .add t1 t26) h fun t27 h =>
 runD (binD aB .quo t17 (.int .i64 4)) h fun t30 h =>
 runD (binD aB .mul t30 (.int .i64 3)) h fun t31 h =>
 runD (binD aB .add t1 t31) h fun t32 h =>
 runD (binD aB .geq t17 (.int .i64 8)) h fun t34 h =>
 aJ (fun (J1 : AV → List AObj → Prop) =>
 aW t34
 (runD (binD aB .geq t17 (.int .i64 50)) h fun t36 h =>
 aJ (fun (J2 : AV → AV → AV → List AObj → Prop) =>
 aW t36
 (aQ false c (.fn (.func 145) [] []) [t0, t22, t11, t3] h (fun t40 h =>
 aQ false c (.fn (.func 145) [] []) [t0, t27, t11, t3] h (fun t44 h =>
 aQ false c (.fn (.func 145) [] []) [t0, t32, t11, t3] h (fun t48 h =>
 J2 t40 t44 t48 h)
 (fun v h => K (.pan v) h))
 (fun v h => K (.pan v) h))
 (fun v h => K (.pan v) h))
 (J2 t22 t27 t32 h))
 (fun t12 t13 t14 h => aQ false c (.fn (.func 146) [] []) [t0, t12, t13, t14, t11, t3] h (fun t54 h =>
 J1 t54 h)
 (fun v h => K (.pan v) h)))
 (J1 t27 h))
 (fun t13 h => runD (fitD aB (aD h t11)) h fun t55 h =>
 runD (binD aB .eql t55 (.int .i64 0)) h fun t58 h =>
 aW t58
 (K (.ret (.tup [t13, (.int .i64 1)])) h)
 (runD (binD aB .eql t55 (.int .i64 12)) h fun t61 h =>
 aW t61
 (K (.ret (.tup [t13, (.int .i64 2)])) h)
 (K (.ret (.tup [t13, (.int .i64 0)])) h)))
def aF.loops : Nat → bX
 | 3 => ⟨[9, 10], [false, false], [0, 1, 2, 3], [], [], []⟩
 | 5 => ⟨[9], [false], [0, 1, 2, 3, 10], [], [], []⟩
 | 14 => ⟨[11], [false], [0, 1, 2, 3, 9, 10], [], [], []⟩
 | 20 => ⟨[12], [false], [0, 1, 2, 3, 9, 10], [], [], []⟩
 | _ => ⟨[], [], [], [], [], []⟩
def aF.L2 (c : Ctx) (J3 : AV → AV → AV → AV → AV → AV → List AObj → Prop) (K : AOut → List AObj → Prop) (lv : List AV) (h0 : List AObj) (n0 : Nat) (c0 : AV) (c1 : AV) (c2 : AV) (c3 : AV) (c10 : AV) : Prop :=
 ∃ I : Nat → List AV → List AObj → Prop, (∃ n, I n lv h0) ∧ ∀ n h, ∀ t9, I n [t9] h →
 runD (binD aB .lss t9 c2) h fun t21 h =>
 aJ (fun (J4 : AV → AV → List AObj → Prop) =>
 aT t21 true
 (runD (aH aU h c0 t9) h fun t26 h =>
 runD (fitD aK (aD h t26)) h fun t27 h =>
 runD (binD aB .sub t9 (.int .i64 1)) h fun t30 h =>
 runD (aH aU h c0 t30) h fun t31 h =>
 runD (fitD aK (aD h t31)) h fun t32 h =>
 aQ false c.noS c3 [t27, t32] h (fun t33 h =>
 runD (binD aB .lss t33 (.int .i64 0)) h fun t34 h =>
 runD (unD .not t34) h fun t35 h =>
 J4 (.bool true) t35 h)
 (fun _ _ => False))
 (J4 (.bool false) .und h))
 (fun t22 t35 h => runD (bK t22 t35 (.bool false)) h fun t36 h =>
 aW t36
 (runD (binD aB .add t9 (.int .i64 1)) h fun t38 h =>
 (∃ m, m < n ∧ I m (AV.norms n0 h [t38]) (cJ n0 h)) ∧ AV.norms n0 h [c0, c1, c2, c3, c10] = [c0, c1, c2, c3, c10])
 (J3 c0 c1 c2 c3 t9 c10 h))
def aF.L3 (c : Ctx) (J6 : AV → AV → AV → AV → AV → AV → List AObj → Prop) (K : AOut → List AObj → Prop) (lv : List AV) (h0 : List AObj) (n0 : Nat) (c0 : AV) (c1 : AV) (c2 : AV) (c3 : AV) (c9 : AV) (c10 : AV) : Prop :=
 ∃ I : Nat → List AV → List AObj → Prop, (∃ n, I n lv h0) ∧ ∀ n h, ∀ t11, I n [t11] h →
 runD (binD aB .geq t11 (.int .i64 1)) h fun t69 h =>
 aW t69
 (runD (aH aU h c0 t11) h fun t75 h =>
 runD (fitD aK (aD h t75)) h fun t76 h =>
 runD (binD aB .sub t11 (.int .i64 1)) h fun t79 h =>
 runD (aH aU h c0 t79) h fun t80 h =>
 runD (fitD aK (aD h t80)) h fun t81 h =>
 aQ false c.noS c3 [t76, t81] h (fun t82 h =>
 runD (binD aB .lss t82 (.int .i64 0)) h fun t83 h =>
 runD (unD .not t83) h fun t84 h =>
 aW t84
 (J6 c0 c1 c2 c3 c9 c10 h)
 (runD (binD aB .sub t11 (.int .i64 1)) h fun t89 h =>
 runD (binD aB .sub t11 (.int .i64 1)) h fun t92 h =>
 runD (aH aU h c0 t92) h fun t93 h =>
 runD (fitD aK (aD h t93)) h fun t94 h =>
 runD (aH aU h c0 t11) h fun t97 h =>
 runD (fitD aK (aD h t97)) h fun t98 h =>
 runD (aH aU h c0 t11) h fun t99 h =>
 runH (aO aK h t99 t94) h fun _ h =>
 runD (aH aU h c0 t89) h fun t100 h =>
 runH (aO aK h t100 t98) h fun _ h =>
 runD (binD aB .sub t11 (.int .i64 1)) h fun t71 h =>
 (∃ m, m < n ∧ I m (AV.norms n0 h [t71]) (cJ n0 h)) ∧ AV.norms n0 h [c0, c1, c2, c3, c9, c10] = [c0, c1, c2, c3, c9, c10]))
 (fun _ _ => False))
 (J6 c0 c1 c2 c3 c9 c10 h)
def aF.L4 (c : Ctx) (J8 : AV → AV → AV → AV → AV → AV → List AObj → Prop) (K : AOut → List AObj → Prop) (lv : List AV) (h0 : List AObj) (n0 : Nat) (c0 : AV) (c1 : AV) (c2 : AV) (c3 : AV) (c9 : AV) (c10 : AV) : Prop :=
 ∃ I : Nat → List AV → List AObj → Prop, (∃ n, I n lv h0) ∧ ∀ n h, ∀ t12, I n [t12] h →
 runD (binD aB .lss t12 c2) h fun t109 h =>
 aW t109
 (runD (aH aU h c0 t12) h fun t115 h =>
 runD (fitD aK (aD h t115)) h fun t116 h =>
 runD (binD aB .sub t12 (.int .i64 1)) h fun t119 h =>
 runD (aH aU h c0 t119) h fun t120 h =>
 runD (fitD aK (aD h t120)) h fun t121 h =>
 aQ false c.noS c3 [t116, t121] h (fun t122 h =>
 runD (binD aB .lss t122 (.int .i64 0)) h fun t123 h =>
 runD (unD .not t123) h fun t124 h =>
 aW t124
 (J8 c0 c1 c2 c3 c9 c10 h)
 (runD (binD aB .sub t12 (.int .i64 1)) h fun t129 h =>
 runD (binD aB .sub t12 (.int .i64 1)) h fun t132 h =>
 runD (aH aU h c0 t132) h fun t133 h =>
 runD (fitD aK (aD h t133)) h fun t134 h =>
 runD (aH aU h c0 t12) h fun t137 h =>
 runD (fitD aK (aD h t137)) h fun t138 h =>
 runD (aH aU h c0 t12) h fun t139 h =>
 runH (aO aK h t139 t134) h fun _ h =>
 runD (aH aU h c0 t129) h fun t140 h =>
 runH (aO aK h t140 t138) h fun _ h =>
 runD (binD aB .add t12 (.int .i64 1)) h fun t111 h =>
 (∃ m, m < n ∧ I m (AV.norms n0 h [t111]) (cJ n0 h)) ∧ AV.norms n0 h [c0, c1, c2, c3, c9, c10] = [c0, c1, c2, c3, c9, c10]))
 (fun _ _ => False))
 (J8 c0 c1 c2 c3 c9 c10 h)
def aF.L1 (c : Ctx) (J1 : List AObj → Prop) (K : AOut → List AObj → Prop) (lv : List AV) (h0 : List AObj) (n0 : Nat) (c0 : AV) (c1 : AV) (c2 : AV) (c3 : AV) : Prop :=
 ∃ I : Nat → List AV → List AObj → Prop, (∃ n, I n lv h0) ∧ ∀ n h, ∀ t9, ∀ t10, I n [t9, t10] h →
 runD (binD aB .lss t10 (.int .i64 5)) h fun t16 h =>
 aW t16
 (aJ (fun (J2 : AV → AV → AV → AV → AV → AV → List AObj → Prop) =>
 aJ (fun (J3 : AV → AV → AV → AV → AV → AV → List AObj → Prop) =>
 dC [false] [t9] h fun lv h => aF.L2 c J3 K (AV.norms h.length h lv) (cJ h.length h) h.length (AV.norm h.length h c0) (AV.norm h.length h c1) (AV.norm h.length h c2) (AV.norm h.length h c3) (AV.norm h.length h t10))
 (fun t0 t1 t2 t3 t9 t10 h => runD (binD aB .eql t9 t2) h fun t41 h =>
 aW t41
 (K (.ret (.bool true)) h)
 (runD (binD aB .sub t2 t1) h fun t44 h =>
 runD (binD aB .lss t44 (.int .i64 50)) h fun t45 h =>
 aW t45
 (K (.ret (.bool false)) h)
 (runD (binD aB .sub t9 (.int .i64 1)) h fun t50 h =>
 runD (binD aB .sub t9 (.int .i64 1)) h fun t53 h =>
 runD (aH aU h t0 t53) h fun t54 h =>
 runD (fitD aK (aD h t54)) h fun t55 h =>
 runD (aH aU h t0 t9) h fun t58 h =>
 runD (fitD aK (aD h t58)) h fun t59 h =>
 runD (aH aU h t0 t9) h fun t60 h =>
 runH (aO aK h t60 t55) h fun _ h =>
 runD (aH aU h t0 t50) h fun t61 h =>
 runH (aO aK h t61 t59) h fun _ h =>
 runD (binD aB .sub t9 t1) h fun t64 h =>
 runD (binD aB .geq t64 (.int .i64 2)) h fun t65 h =>
 aJ (fun (J5 : AV → AV → AV → AV → AV → AV → List AObj → Prop) =>
 aW t65
 (runD (binD aB .sub t9 (.int .i64 1)) h fun t67 h =>
 aJ (fun (J6 : AV → AV → AV → AV → AV → AV → List AObj → Prop) =>
 dC [false] [t67] h fun lv h => aF.L3 c J6 K (AV.norms h.length h lv) (cJ h.length h) h.length (AV.norm h.length h t0) (AV.norm h.length h t1) (AV.norm h.length h t2) (AV.norm h.length h t3) (AV.norm h.length h t9) (AV.norm h.length h t10))
 (fun t0 t1 t2 t3 t9 t10 h => J5 t0 t1 t2 t3 t9 t10 h))
 (J5 t0 t1 t2 t3 t9 t10 h))
 (fun t0 t1 t2 t3 t9 t10 h => runD (binD aB .sub t2 t9) h fun t103 h =>
 runD (binD aB .geq t103 (.int .i64 2)) h fun t104 h =>
 aJ (fun (J7 : AV → AV → AV → AV → AV → AV → List AObj → Prop) =>
 aW t104
 (runD (binD aB .add t9 (.int .i64 1)) h fun t106 h =>
 aJ (fun (J8 : AV → AV → AV → AV → AV → AV → List AObj → Prop) =>
 dC [false] [t106] h fun lv h => aF.L4 c J8 K (AV.norms h.length h lv) (cJ h.length h) h.length (AV.norm h.length h t0) (AV.norm h.length h t1) (AV.norm h.length h t2) (AV.norm h.length h t3) (AV.norm h.length h t9) (AV.norm h.length h t10))
 (fun t0 t1 t2 t3 t9 t10 h => J7 t0 t1 t2 t3 t9 t10 h))
 (J7 t0 t1 t2 t3 t9 t10 h))
 (fun t0 t1 t2 t3 t9 t10 h => J2 t0 t1 t2 t3 t9 t10 h))))))
 (fun t0 t1 t2 t3 t9 t10 h => runD (binD aB .add t10 (.int .i64 1)) h fun t18 h =>
 (∃ m, m < n ∧ I m (AV.norms n0 h [t9, t18]) (cJ n0 h)) ∧ AV.norms n0 h [t0, t1, t2, t3] = [c0, c1, c2, c3]))
 (J1 h)
def aF.H (c : Ctx) (t0 : AV) (t1 : AV) (t2 : AV) (t3 : AV) (h : List AObj) (K : AOut → List AObj → Prop) : Prop :=
 runD (binD aB .add t1 (.int .i64 1)) h fun t14 h =>
 aJ (fun (J1 : List AObj → Prop) =>
 dC [false, false] [t14, (.int .i64 0)] h fun lv h => aF.L1 c J1 K (AV.norms h.length h lv) (cJ h.length h) h.length (AV.norm h.length h t0) (AV.norm h.length h t1) (AV.norm h.length h t2) (AV.norm h.length h t3))
 (fun h => K (.ret (.bool false)) h)
def aL.loops : Nat → bX
 | 3 => ⟨[12], [false], [0, 1, 4, 13], [], [], []⟩
 | 5 => ⟨[13], [false], [0, 1, 4, 12], [], [], []⟩
 | 13 => ⟨[12], [false], [0, 1, 4, 13], [], [], []⟩
 | 15 => ⟨[13], [false], [0, 1, 4, 12], [], [], []⟩
 | 1013 => ⟨[12, 13], [false, false], [0, 1, 4], [], [], []⟩
 | _ => ⟨[], [], [], [], [], []⟩
def aL.L1 (c : Ctx) (J1 : AV → AV → AV → AV → AV → List AObj → Prop) (K : AOut → List AObj → Prop) (lv : List AV) (h0 : List AObj) (n0 : Nat) (c0 : AV) (c1 : AV) (c4 : AV) (c13 : AV) : Prop :=
 ∃ I : Nat → List AV → List AObj → Prop, (∃ n, I n lv h0) ∧ ∀ n h, ∀ t12, I n [t12] h →
 runD (binD aB .leq t12 c13) h fun t34 h =>
 aJ (fun (J2 : AV → AV → List AObj → Prop) =>
 aT t34 true
 (runD (aH aU h c0 t12) h fun t39 h =>
 runD (fitD aK (aD h t39)) h fun t40 h =>
 runD (aH aU h c0 c1) h fun t43 h =>
 runD (fitD aK (aD h t43)) h fun t44 h =>
 aQ false c.noS c4 [t40, t44] h (fun t45 h =>
 runD (binD aB .lss t45 (.int .i64 0)) h fun t46 h =>
 J2 (.bool true) t46 h)
 (fun _ _ => False))
 (J2 (.bool false) .und h))
 (fun t35 t46 h => runD (bK t35 t46 (.bool false)) h fun t47 h =>
 aW t47
 (runD (binD aB .add t12 (.int .i64 1)) h fun t49 h =>
 (∃ m, m < n ∧ I m (AV.norms n0 h [t49]) (cJ n0 h)) ∧ AV.norms n0 h [c0, c1, c4, c13] = [c0, c1, c4, c13])
 (J1 c0 c1 c4 t12 c13 h))
def aL.L2 (c : Ctx) (J3 : AV → AV → AV → AV → AV → List AObj → Prop) (K : AOut → List AObj → Prop) (lv : List AV) (h0 : List AObj) (n0 : Nat) (c0 : AV) (c1 : AV) (c4 : AV) (c12 : AV) : Prop :=
 ∃ I : Nat → List AV → List AObj → Prop, (∃ n, I n lv h0) ∧ ∀ n h, ∀ t13, I n [t13] h →
 runD (binD aB .leq c12 t13) h fun t52 h =>
 aJ (fun (J4 : AV → AV → List AObj → Prop) =>
 aT t52 true
 (runD (aH aU h c0 t13) h fun t57 h =>
 runD (fitD aK (aD h t57)) h fun t58 h =>
 runD (aH aU h c0 c1) h fun t61 h =>
 runD (fitD aK (aD h t61)) h fun t62 h =>
 aQ false c.noS c4 [t58, t62] h (fun t63 h =>
 runD (binD aB .lss t63 (.int .i64 0)) h fun t64 h =>
 runD (unD .not t64) h fun t65 h =>
 J4 (.bool true) t65 h)
 (fun _ _ => False))
 (J4 (.bool false) .und h))
 (fun t53 t65 h => runD (bK t53 t65 (.bool false)) h fun t66 h =>
 aW t66
 (runD (binD aB .sub t13 (.int .i64 1)) h fun t68 h =>
 (∃ m, m < n ∧ I m (AV.norms n0 h [t68]) (cJ n0 h)) ∧ AV.norms n0 h [c0, c1, c4, c12] = [c0, c1, c4, c12])
 (J3 c0 c1 c4 c12 t13 h))
def aL.L4 (c : Ctx) (J7 : AV → AV → AV → AV → AV → List AObj → Prop) (K : AOut → List AObj → Prop) (lv : List AV) (h0 : List AObj) (n0 : Nat) (c0 : AV) (c1 : AV) (c4 : AV) (c13 : AV) : Prop :=
 ∃ I : Nat → List AV → List AObj → Prop, (∃ n, I n lv h0) ∧ ∀ n h, ∀ t12, I n [t12] h →
 runD (binD aB .leq t12 c13) h fun t107 h =>
 aJ (fun (J8 : AV → AV → List AObj → Prop) =>
 aT t107 true
 (runD (aH aU h c0 t12) h fun t112 h =>
 runD (fitD aK (aD h t112)) h fun t113 h =>
 runD (aH aU h c0 c1) h fun t116 h =>
 runD (fitD aK (aD h t116)) h fun t117 h =>
 aQ false c.noS c4 [t113, t117] h (fun t118 h =>
 runD (binD aB .lss t118 (.int .i64 0)) h fun t119 h =>
 J8 (.bool true) t119 h)
 (fun _ _ => False))
 (J8 (.bool false) .und h))
 (fun t108 t119 h => runD (bK t108 t119 (.bool false)) h fun t120 h =>
 aW t120
 (runD (binD aB .add t12 (.int .i64 1)) h fun t122 h =>
 (∃ m, m < n ∧ I m (AV.norms n0 h [t122]) (cJ n0 h)) ∧ AV.norms n0 h [c0, c1, c4, c13] = [c0, c1, c4, c13])
 (J7 c0 c1 c4 t12 c13 h))
def aL.L5 (c : Ctx) (J9 : AV → AV → AV → AV → AV → List AObj → Prop) (K : AOut → List AObj → Prop) (lv : List AV) (h0 : List AObj) (n0 : Nat) (c0 : AV) (c1 : AV) (c4 : AV) (c12 : AV) : Prop :=
 ∃ I : Nat → List AV → List AObj → Prop, (∃ n, I n lv h0) ∧ ∀ n h, ∀ t13, I n [t13] h →
 runD (binD aB .leq c12 t13) h fun t125 h =>
 aJ (fun (J10 : AV → AV → List AObj → Prop) =>
 aT t125 true
 (runD (aH aU h c0 t13) h fun t130 h =>
 runD (fitD aK (aD h t130)) h fun t131 h =>
 runD (aH aU h c0 c1) h fun t134 h =>
 runD (fitD aK (aD h t134)) h fun t135 h =>
 aQ false c.noS c4 [t131, t135] h (fun t136 h =>
 runD (binD aB .lss t136 (.int .i64 0)) h fun t137 h =>
 runD (unD .not t137) h fun t138 h =>
 J10 (.bool true) t138 h)
 (fun _ _ => False))
 (J10 (.bool false) .und h))
 (fun t126 t138 h => runD (bK t126 t138 (.bool false)) h fun t139 h =>
 aW t139
 (runD (binD aB .sub t13 (.int .i64 1)) h fun t141 h =>
 (∃ m, m < n ∧ I m (AV.norms n0 h [t141]) (cJ n0 h)) ∧ AV.norms n0 h [c0, c1, c4, c12] = [c0, c1, c4, c12])
 (J9 c0 c1 c4 c12 t13 h))
def aL.L3 (c : Ctx) (J5 : AV → AV → AV → List AObj → Prop) (K : AOut → List AObj → Prop) (lv : List AV) (h0 : List AObj) (n0 : Nat) (c0 : AV) (c1 : AV) (c4 : AV) : Prop :=
 ∃ I : Nat → List AV → List AObj → Prop, (∃ n, I n lv h0) ∧ ∀ n h, ∀ t12, ∀ t13, I n [t12, t13] h →
 aJ (fun (J6 : AV → AV → AV → AV → AV → List AObj → Prop) =>
 aJ (fun (J7 : AV → AV → AV → AV → AV → List AObj → Prop) =>
 dC [false] [t12] h fun lv h => aL.L4 c J7 K (AV.norms h.length h lv) (cJ h.length h) h.length (AV.norm h.length h c0) (AV.norm h.length h c1) (AV.norm h.length h c4) (AV.norm h.length h t13))
 (fun t0 t1 t4 t12 t13 h => aJ (fun (J9 : AV → AV → AV → AV → AV → List AObj → Prop) =>
 dC [false] [t13] h fun lv h => aL.L5 c J9 K (AV.norms h.length h lv) (cJ h.length h) h.length (AV.norm h.length h t0) (AV.norm h.length h t1) (AV.norm h.length h t4) (AV.norm h.length h t12))
 (fun t0 t1 t4 t12 t13 h => runD (binD aB .gtr t12 t13) h fun t144 h =>
 aW t144
 (J5 t0 t1 t13 h)
 (runD (aH aU h t0 t13) h fun t151 h =>
 runD (fitD aK (aD h t151)) h fun t152 h =>
 runD (aH aU h t0 t12) h fun t155 h =>
 runD (fitD aK (aD h t155)) h fun t156 h =>
 runD (aH aU h t0 t12) h fun t157 h =>
 runH (aO aK h t157 t152) h fun _ h =>
 runD (aH aU h t0 t13) h fun t158 h =>
 runH (aO aK h t158 t156) h fun _ h =>
 runD (binD aB .add t12 (.int .i64 1)) h fun t160 h =>
 runD (binD aB .sub t13 (.int .i64 1)) h fun t162 h =>
 J6 t0 t1 t4 t160 t162 h))))
 (fun t0 t1 t4 t12 t13 h => (∃ m, m < n ∧ I m (AV.norms n0 h [t12, t13]) (cJ n0 h)) ∧ AV.norms n0 h [t0, t1, t4] = [c0, c1, c4])
def aL.H (c : Ctx) (t0 : AV) (t1 : AV) (t2 : AV) (t3 : AV) (t4 : AV) (h : List AObj) (K : AOut → List AObj → Prop) : Prop :=
 runD (aH aU h t0 t3) h fun t20 h =>
 runD (fitD aK (aD h t20)) h fun t21 h =>
 runD (aH aU h t0 t1) h fun t24 h =>
 runD (fitD aK (aD h t24)) h fun t25 h =>
 runD (aH aU h t0 t1) h fun t26 h =>
 runH (aO aK h t26 t21) h fun _ h =>
 runD (aH aU h t0 t3) h fun t27 h =>
 runH (aO aK h t27 t25) h fun _ h =>
 runD (binD aB .add t1 (.int .i64 1)) h fun t29 h =>
 runD (binD aB .sub t2 (.int .i64 1)) h fun t31 h =>
 aJ (fun (J1 : AV → AV → AV → AV → AV → List AObj → Prop) =>
 dC [false] [t29] h fun lv h => aL.L1 c J1 K (AV.norms h.length h lv) (cJ h.length h) h.length (AV.norm h.length h t0) (AV.norm h.length h t1) (AV.norm h.length h t4) (AV.norm h.length h t31))
 (fun t0 t1 t4 t12 t13 h => aJ (fun (J3 : AV → AV → AV → AV → AV → List AObj → Prop) =>
 dC [false] [t13] h fun lv h => aL.L2 c J3 K (AV.norms h.length h lv) (cJ h.length h) h.length (AV.norm h.length h t0) (AV.norm h.length h t1) (AV.norm h.length h t4) (AV.norm h.length h t12))
 (fun t0 t1 t4 t12 t13 h => runD (binD aB .gtr t12 t13) h fun t71 h =>
 aW t71
 (runD (aH aU h t0 t1) h fun t78 h =>
 runD (fitD aK (aD h t78)) h fun t79 h =>
 runD (aH aU h t0 t13) h fun t82 h =>
 runD (fitD aK (aD h t82)) h fun t83 h =>
 runD (aH aU h t0 t13) h fun t84 h =>
 runH (aO aK h t84 t79) h fun _ h =>
 runD (aH aU h t0 t1) h fun t85 h =>
 runH (aO aK h t85 t83) h fun _ h =>
 K (.ret (.tup [t13, (.bool true)])) h)
 (runD (aH aU h t0 t13) h fun t93 h =>
 runD (fitD aK (aD h t93)) h fun t94 h =>
 runD (aH aU h t0 t12) h fun t97 h =>
 runD (fitD aK (aD h t97)) h fun t98 h =>
 runD (aH aU h t0 t12) h fun t99 h =>
 runH (aO aK h t99 t94) h fun _ h =>
 runD (aH aU h t0 t13) h fun t100 h =>
 runH (aO aK h t100 t98) h fun _ h =>
 runD (binD aB .add t12 (.int .i64 1)) h fun t102 h =>
 runD (binD aB .sub t13 (.int .i64 1)) h fun t104 h =>
 aJ (fun (J5 : AV → AV → AV → List AObj → Prop) =>
 dC [false, false] [t102, t104] h fun lv h => aL.L3 c J5 K (AV.norms h.length h lv) (cJ h.length h) h.length (AV.norm h.length h t0) (AV.norm h.length h t1) (AV.norm h.length h t4))
 (fun t0 t1 t13 h => runD (aH aU h t0 t1) h fun t169 h =>
 runD (fitD aK (aD h t169)) h fun t170 h =>
 runD (aH aU h t0 t13) h fun t173 h =>
 runD (fitD aK (aD h t173)) h fun t174 h =>
 runD (aH aU h t0 t13) h fun t175 h =>
 runH (aO aK h t175 t170) h fun _ h =>
 runD (aH aU h t0 t1) h fun t176 h =>
 runH (aO aK h t176 t174) h fun _ h =>
 K (.ret (.tup [t13, (.bool false)])) h))))
def bM.loops : Nat → bX
 | _ => ⟨[], [], [], [], [], []⟩
def bM.H (c : Ctx) (t0 : AV) (t1 : AV) (t2 : AV) (t3 : AV) (t4 : AV) (t5 : AV) (h : List AObj) (K : AOut → List AObj → Prop) : Prop :=
 aQ false c (.fn (.func 151) [] []) [t0, t1, t2, t4, t5] h (fun t19 h =>
 runD (aV t19 0) h fun t20 h =>
 runD (aV t19 1) h fun t21 h =>
 aQ false c (.fn (.func 151) [] []) [t0, t21, t3, t4, t5] h (fun t28 h =>
 runD (aV t28 0) h fun t29 h =>
 runD (aV t28 1) h fun t30 h =>
 aQ false c (.fn (.func 151) [] []) [t0, t20, t29, t4, t5] h (fun t37 h =>
 runD (aV t37 0) h fun t38 h =>
 runD (aV t37 1) h fun t39 h =>
 K (.ret t39) h)
 (fun v h => K (.pan v) h))
 (fun v h => K (.pan v) h))
 (fun v h => K (.pan v) h)
def bS.loops : Nat → bX
 | _ => ⟨[], [], [], [], [], []⟩
def bS.H (c : Ctx) (t0 : AV) (t1 : AV) (t2 : AV) (t3 : AV) (t4 : AV) (h : List AObj) (K : AOut → List AObj → Prop) : Prop :=
 runD (aH aU h t0 t2) h fun t15 h =>
 runD (fitD aK (aD h t15)) h fun t16 h =>
 runD (aH aU h t0 t1) h fun t19 h =>
 runD (fitD aK (aD h t19)) h fun t20 h =>
 aQ false c.noS t4 [t16, t20] h (fun t21 h =>
 runD (binD aB .lss t21 (.int .i64 0)) h fun t22 h =>
 aW t22
 (runD (cV t3) h fun t24 h =>
 runD (fitD aB (aD h t24)) h fun t25 h =>
 runD (binD aB .add t25 (.int .i64 1)) h fun t26 h =>
 runD (cV t3) h fun t27 h =>
 runH (aO aB h t27 t26) h fun _ h =>
 K (.ret (.tup [t2, t1])) h)
 (K (.ret (.tup [t1, t2])) h))
 (fun _ _ => False)
theorem bF.eq (F : List (FuncId × aE)) (S : List (FuncId × Con)) (t0 t1 : AV) (h : List AObj) (K : AOut → List AObj → Prop) : funW (ctx F S bF.loops) Tryz.f108 [t0, t1] h K = bF.H (ctx F S bF.loops) t0 t1 h K := by kernel_rfl
theorem bT.eq (F : List (FuncId × aE)) (S : List (FuncId × Con)) (t0 t1 t2 t3 t4 : AV) (h : List AObj) (K : AOut → List AObj → Prop) : funW (ctx F S bT.loops) Tryz.f119 [t0, t1, t2, t3, t4] h K = bT.H (ctx F S bT.loops) t0 t1 t2 t3 t4 h K := by kernel_rfl
theorem bL.eq (F : List (FuncId × aE)) (S : List (FuncId × Con)) (t0 t1 t2 t3 : AV) (h : List AObj) (K : AOut → List AObj → Prop) : funW (ctx F S bL.loops) Tryz.f129 [t0, t1, t2, t3] h K = bL.H (ctx F S bL.loops) t0 t1 t2 t3 h K := by kernel_rfl
theorem aF.eq (F : List (FuncId × aE)) (S : List (FuncId × Con)) (t0 t1 t2 t3 : AV) (h : List AObj) (K : AOut → List AObj → Prop) : funW (ctx F S aF.loops) Tryz.f131 [t0, t1, t2, t3] h K = aF.H (ctx F S aF.loops) t0 t1 t2 t3 h K := by kernel_rfl
theorem aL.eq (F : List (FuncId × aE)) (S : List (FuncId × Con)) (t0 t1 t2 t3 t4 : AV) (h : List AObj) (K : AOut → List AObj → Prop) : funW (ctx F S aL.loops) Tryz.f133 [t0, t1, t2, t3, t4] h K = aL.H (ctx F S aL.loops) t0 t1 t2 t3 t4 h K := by kernel_rfl
theorem bM.eq (F : List (FuncId × aE)) (S : List (FuncId × Con)) (t0 t1 t2 t3 t4 t5 : AV) (h : List AObj) (K : AOut → List AObj → Prop) : funW (ctx F S bM.loops) Tryz.f146 [t0, t1, t2, t3, t4, t5] h K = bM.H (ctx F S bM.loops) t0 t1 t2 t3 t4 t5 h K := by kernel_rfl
theorem bS.eq (F : List (FuncId × aE)) (S : List (FuncId × Con)) (t0 t1 t2 t3 t4 : AV) (h : List AObj) (K : AOut → List AObj → Prop) : funW (ctx F S bS.loops) Tryz.f151 [t0, t1, t2, t3, t4] h K = bS.H (ctx F S bS.loops) t0 t1 t2 t3 t4 h K := by kernel_rfl
theorem bF.at : Tryz.prog.funcs[108]? = some Tryz.f108 := by kernel_rfl
theorem bF.nm : (Tryz.f108.name == "runtime.NumGoroutine") = false := by kernel_rfl
theorem bF.bd : Tryz.f108.body.isNone = false := by kernel_rfl
theorem bT.at : Tryz.prog.funcs[119]? = some Tryz.f119 := by kernel_rfl
theorem bT.nm : (Tryz.f119.name == "runtime.NumGoroutine") = false := by kernel_rfl
theorem bT.bd : Tryz.f119.body.isNone = false := by kernel_rfl
theorem bL.at : Tryz.prog.funcs[129]? = some Tryz.f129 := by kernel_rfl
theorem bL.nm : (Tryz.f129.name == "runtime.NumGoroutine") = false := by kernel_rfl
theorem bL.bd : Tryz.f129.body.isNone = false := by kernel_rfl
theorem aF.at : Tryz.prog.funcs[131]? = some Tryz.f131 := by kernel_rfl
theorem aF.nm : (Tryz.f131.name == "runtime.NumGoroutine") = false := by kernel_rfl
theorem aF.bd : Tryz.f131.body.isNone = false := by kernel_rfl
theorem aL.at : Tryz.prog.funcs[133]? = some Tryz.f133 := by kernel_rfl
theorem aL.nm : (Tryz.f133.name == "runtime.NumGoroutine") = false := by kernel_rfl
theorem aL.bd : Tryz.f133.body.isNone = false := by kernel_rfl
theorem bM.at : Tryz.prog.funcs[146]? = some Tryz.f146 := by kernel_rfl
theorem bM.nm : (Tryz.f146.name == "runtime.NumGoroutine") = false := by kernel_rfl
theorem bM.bd : Tryz.f146.body.isNone = false := by kernel_rfl
theorem bS.at : Tryz.prog.funcs[151]? = some Tryz.f151 := by kernel_rfl
theorem bS.nm : (Tryz.f151.name == "runtime.NumGoroutine") = false := by kernel_rfl
theorem bS.bd : Tryz.f151.body.isNone = false := by kernel_rfl
end Lam
namespace Lam
open Go Go.Proofs
def aR.loops : Nat → bX
 | 1 => ⟨[8], [false], [0, 1, 2, 3], [], [], []⟩
 | 4 => ⟨[9], [false], [0, 1, 2, 3, 8], [], [], []⟩
 | _ => ⟨[], [], [], [], [], []⟩
def aR.L2 (c : Ctx) (J3 : AV → AV → AV → AV → AV → List AObj → Prop) (K : AOut → List AObj → Prop) (lv : List AV) (h0 : List AObj) (n0 : Nat) (c0 : AV) (c1 : AV) (c2 : AV) (c3 : AV) (c8 : AV) : Prop :=
 ∃ I : Nat → List AV → List AObj → Prop, (∃ n, I n lv h0) ∧ ∀ n h, ∀ t9, I n [t9] h →
 runD (binD aB .gtr t9 c1) h fun t20 h =>
 aJ (fun (J4 : AV → AV → List AObj → Prop) =>
 aT t20 true
 (runD (aH aU h c0 t9) h fun t25 h =>
 runD (fitD aK (aD h t25)) h fun t26 h =>
 runD (binD aB .sub t9 (.int .i64 1)) h fun t29 h =>
 runD (aH aU h c0 t29) h fun t30 h =>
 runD (fitD aK (aD h t30)) h fun t31 h =>
 aQ false c.noS c3 [t26, t31] h (fun t32 h =>
 runD (binD aB .lss t32 (.int .i64 0)) h fun t33 h =>
 J4 (.bool true) t33 h)
 (fun _ _ => False))
 (J4 (.bool false) .und h))
 (fun t21 t33 h => runD (bK t21 t33 (.bool false)) h fun t34 h =>
 aW t34
 (runD (binD aB .sub t9 (.int .i64 1)) h fun t41 h =>
 runD (binD aB .sub t9 (.int .i64 1)) h fun t44 h =>
 runD (aH aU h c0 t44) h fun t45 h =>
 runD (fitD aK (aD h t45)) h fun t46 h =>
 runD (aH aU h c0 t9) h fun t49 h =>
 runD (fitD aK (aD h t49)) h fun t50 h =>
 runD (aH aU h c0 t9) h fun t51 h =>
 runH (aO aK h t51 t46) h fun _ h =>
 runD (aH aU h c0 t41) h fun t52 h =>
 runH (aO aK h t52 t50) h fun _ h =>
 runD (binD aB .sub t9 (.int .i64 1)) h fun t36 h =>
 (∃ m, m < n ∧ I m (AV.norms n0 h [t36]) (cJ n0 h)) ∧ AV.norms n0 h [c0, c1, c2, c3, c8] = [c0, c1, c2, c3, c8])
 (J3 c0 c1 c2 c3 c8 h))
def aR.L1 (c : Ctx) (J1 : List AObj → Prop) (K : AOut → List AObj → Prop) (lv : List AV) (h0 : List AObj) (n0 : Nat) (c0 : AV) (c1 : AV) (c2 : AV) (c3 : AV) : Prop :=
 ∃ I : Nat → List AV → List AObj → Prop, (∃ n, I n lv h0) ∧ ∀ n h, ∀ t8, I n [t8] h →
 runD (binD aB .lss t8 c2) h fun t14 h =>
 aW t14
 (aJ (fun (J2 : AV → AV → AV → AV → AV → List AObj → Prop) =>
 aJ (fun (J3 : AV → AV → AV → AV → AV → List AObj → Prop) =>
 dC [false] [t8] h fun lv h => aR.L2 c J3 K (AV.norms h.length h lv) (cJ h.length h) h.length (AV.norm h.length h c0) (AV.norm h.length h c1) (AV.norm h.length h c2) (AV.norm h.length h c3) (AV.norm h.length h t8))
 (fun t0 t1 t2 t3 t8 h => J2 t0 t1 t2 t3 t8 h))
 (fun t0 t1 t2 t3 t8 h => runD (binD aB .add t8 (.int .i64 1)) h fun t16 h =>
 (∃ m, m < n ∧ I m (AV.norms n0 h [t16]) (cJ n0 h)) ∧ AV.norms n0 h [t0, t1, t2, t3] = [c0, c1, c2, c3]))
 (J1 h)
def aR.H (c : Ctx) (t0 : AV) (t1 : AV) (t2 : AV) (t3 : AV) (h : List AObj) (K : AOut → List AObj → Prop) : Prop :=
 runD (binD aB .add t1 (.int .i64 1)) h fun t11 h =>
 aJ (fun (J1 : List AObj → Prop) =>
 dC [false] [t11] h fun lv h => aR.L1 c J1 K (AV.norms h.length h lv) (cJ h.length h) h.length (AV.norm h.length h t0) (AV.norm h.length h t1) (AV.norm h.length h t2) (AV.norm h.length h t3))
 (fun h => K (.ret (.tup [])) h)
theorem aR.eq (F : List (FuncId × aE)) (S : List (FuncId × Con)) (t0 t1 t2 t3 : AV) (h : List AObj) (K : AOut → List AObj → Prop) : funW (ctx F S aR.loops) Tryz.f126 [t0, t1, t2, t3] h K = aR.H (ctx F S aR.loops) t0 t1 t2 t3 h K := by kernel_rfl
theorem aR.at : Tryz.prog.funcs[126]? = some Tryz.f126 := by kernel_rfl
theorem aR.nm : (Tryz.f126.name == "runtime.NumGoroutine") = false := by kernel_rfl
theorem aR.bd : Tryz.f126.body.isNone = false := by kernel_rfl
end Lam
namespace Lam
open Go Go.Proofs
def bD.loops : Nat → bX
 | 4 => ⟨[11], [false], [0, 3, 8, 9, 10], [], [], []⟩
 | 8 => ⟨[12], [false], [0, 3, 8, 9], [], [], []⟩
 | _ => ⟨[], [], [], [], [], []⟩
def bD.L1 (c : Ctx) (J1 : AV → AV → AV → AV → AV → List AObj → Prop) (K : AOut → List AObj → Prop) (lv : List AV) (h0 : List AObj) (n0 : Nat) (c0 : AV) (c3 : AV) (c8 : AV) (c9 : AV) (c10 : AV) : Prop :=
 ∃ I : Nat → List AV → List AObj → Prop, (∃ n, I n lv h0) ∧ ∀ n h, ∀ t11, I n [t11] h →
 runD (binD aB .geq t11 (.int .i64 0)) h fun t21 h =>
 aW t21
 (aQ false c (.fn (.func 142) [] []) [c0, t11, c10, c8, c3] h (fun t29 h =>
 runD (binD aB .sub t11 (.int .i64 1)) h fun t23 h =>
 (∃ m, m < n ∧ I m (AV.norms n0 h [t23]) (cJ n0 h)) ∧ AV.norms n0 h [c0, c3, c8, c9, c10] = [c0, c3, c8, c9, c10])
 (fun v h => K (.pan v) h))
 (J1 c0 c3 c8 c9 c10 h)
def bD.L2 (c : Ctx) (J2 : List AObj → Prop) (K : AOut → List AObj → Prop) (lv : List AV) (h0 : List AObj) (n0 : Nat) (c0 : AV) (c3 : AV) (c8 : AV) (c9 : AV) : Prop :=
 ∃ I : Nat → List AV → List AObj → Prop, (∃ n, I n lv h0) ∧ ∀ n h, ∀ t12, I n [t12] h →
 runD (binD aB .geq t12 (.int .i64 0)) h fun t33 h =>
 aW t33
 (runD (binD aB .add c8 t12) h fun t41 h =>
 runD (binD aB .add c8 t12) h fun t45 h =>
 runD (aH aU h c0 t45) h fun t46 h =>
 runD (fitD aK (aD h t46)) h fun t47 h =>
 runD (aH aU h c0 c8) h fun t50 h =>
 runD (fitD aK (aD h t50)) h fun t51 h =>
 runD (aH aU h c0 c8) h fun t52 h =>
 runH (aO aK h t52 t47) h fun _ h =>
 runD (aH aU h c0 t41) h fun t53 h =>
 runH (aO aK h t53 t51) h fun _ h =>
 aQ false c (.fn (.func 142) [] []) [c0, c9, t12, c8, c3] h (fun t59 h =>
 runD (binD aB .sub t12 (.int .i64 1)) h fun t35 h =>
 (∃ m, m < n ∧ I m (AV.norms n0 h [t35]) (cJ n0 h)) ∧ AV.norms n0 h [c0, c3, c8, c9] = [c0, c3, c8, c9])
 (fun v h => K (.pan v) h))
 (J2 h)
def bD.H (c : Ctx) (t0 : AV) (t1 : AV) (t2 : AV) (t3 : AV) (h : List AObj) (K : AOut → List AObj → Prop) : Prop :=
 runD (binD aB .sub t2 t1) h fun t16 h =>
 runD (binD aB .sub t16 (.int .i64 1)) h fun t18 h =>
 runD (binD aB .quo t18 (.int .i64 2)) h fun t19 h =>
 aJ (fun (J1 : AV → AV → AV → AV → AV → List AObj → Prop) =>
 dC [false] [t19] h fun lv h => bD.L1 c J1 K (AV.norms h.length h lv) (cJ h.length h) h.length (AV.norm h.length h t0) (AV.norm h.length h t3) (AV.norm h.length h t1) (AV.norm h.length h (.int .i64 0)) (AV.norm h.length h t16))
 (fun t0 t3 t8 t9 t10 h => runD (binD aB .sub t10 (.int .i64 1)) h fun t31 h =>
 aJ (fun (J2 : List AObj → Prop) =>
 dC [false] [t31] h fun lv h => bD.L2 c J2 K (AV.norms h.length h lv) (cJ h.length h) h.length (AV.norm h.length h t0) (AV.norm h.length h t3) (AV.norm h.length h t8) (AV.norm h.length h t9))
 (fun h => K (.ret (.tup [])) h))
def aX.loops : Nat → bX
 | 5 => ⟨[11], [false], [0, 1, 8, 9, 10], [], [], []⟩
 | _ => ⟨[], [], [], [], [], []⟩
def aX.L1 (c : Ctx) (J2 : List AObj → Prop) (K : AOut → List AObj → Prop) (lv : List AV) (h0 : List AObj) (n0 : Nat) (c0 : AV) (c1 : AV) (c8 : AV) (c9 : AV) (c10 : AV) : Prop :=
 ∃ I : Nat → List AV → List AObj → Prop, (∃ n, I n lv h0) ∧ ∀ n h, ∀ t11, I n [t11] h →
 runD (binD aB .quo c8 (.int .i64 4)) h fun t31 h =>
 runD (binD aB .mul t31 (.int .i64 2)) h fun t32 h =>
 runD (binD aB .add c1 t32) h fun t33 h =>
 runD (binD aB .add t33 (.int .i64 1)) h fun t34 h =>
 runD (binD aB .leq t11 t34) h fun t35 h =>
 aW t35
 (aQ false c (.fn (.func 144) [] []) [c9] h (fun t38 h =>
 runD (binD rW .sub c10 (.int .u64 1)) h fun t40 h =>
 runD (binD rW .and t38 t40) h fun t41 h =>
 runD (jK h rW aB t41) h fun t42 h =>
 runD (binD aB .geq t42 c8) h fun t45 h =>
 aJ (fun (J3 : AV → List AObj → Prop) =>
 aW t45
 (runD (binD aB .sub t42 c8) h fun t48 h =>
 J3 t48 h)
 (J3 t42 h))
 (fun t12 h => runD (binD aB .add c1 t12) h fun t54 h =>
 runD (binD aB .add c1 t12) h fun t58 h =>
 runD (aH aU h c0 t58) h fun t59 h =>
 runD (fitD aK (aD h t59)) h fun t60 h =>
 runD (aH aU h c0 t11) h fun t63 h =>
 runD (fitD aK (aD h t63)) h fun t64 h =>
 runD (aH aU h c0 t11) h fun t65 h =>
 runH (aO aK h t65 t60) h fun _ h =>
 runD (aH aU h c0 t54) h fun t66 h =>
 runH (aO aK h t66 t64) h fun _ h =>
 runD (binD aB .add t11 (.int .i64 1)) h fun t37 h =>
 (∃ m, m < n ∧ I m (AV.norms n0 h [t37]) (cJ n0 h)) ∧ AV.norms n0 h [c0, c1, c8, c9, c10] = [c0, c1, c8, c9, c10]))
 (fun v h => K (.pan v) h))
 (J2 h)
def aX.H (c : Ctx) (t0 : AV) (t1 : AV) (t2 : AV) (t3 : AV) (h : List AObj) (K : AOut → List AObj → Prop) : Prop :=
 runD (binD aB .sub t2 t1) h fun t15 h =>
 runD (binD aB .geq t15 (.int .i64 8)) h fun t17 h =>
 aJ (fun (J1 : List AObj → Prop) =>
 aW t17
 (runD (jK h aB cZ t15) h fun t19 h =>
 cP cZ h fun t9 h =>
 runH (aO cZ h t9 t19) h fun _ h =>
 aQ false c (.fn (.func 143) [] []) [t15] h (fun t21 h =>
 runD (binD aB .quo t15 (.int .i64 4)) h fun t24 h =>
 runD (binD aB .mul t24 (.int .i64 2)) h fun t25 h =>
 runD (binD aB .add t1 t25) h fun t26 h =>
 runD (binD aB .sub t26 (.int .i64 1)) h fun t27 h =>
 aJ (fun (J2 : List AObj → Prop) =>
 dC [false] [t27] h fun lv h => aX.L1 c J2 K (AV.norms h.length h lv) (cJ h.length h) h.length (AV.norm h.length h t0) (AV.norm h.length h t1) (AV.norm h.length h t15) (AV.norm h.length h t9) (AV.norm h.length h t21))
 (fun h => J1 h))
 (fun v h => K (.pan v) h))
 (J1 h))
 (fun h => K (.ret (.tup [])) h)
def aZ.loops : Nat → bX
 | 2 => ⟨[8, 9], [false, false], [0], [], [], []⟩
 | _ => ⟨[], [], [], [], [], []⟩
def aZ.L1 (c : Ctx) (J1 : List AObj → Prop) (K : AOut → List AObj → Prop) (lv : List AV) (h0 : List AObj) (n0 : Nat) (c0 : AV) : Prop :=
 ∃ I : Nat → List AV → List AObj → Prop, (∃ n, I n lv h0) ∧ ∀ n h, ∀ t8, ∀ t9, I n [t8, t9] h →
 runD (binD aB .lss t8 t9) h fun t15 h =>
 aW t15
 (runD (aH aU h c0 t9) h fun t22 h =>
 runD (fitD aK (aD h t22)) h fun t23 h =>
 runD (aH aU h c0 t8) h fun t26 h =>
 runD (fitD aK (aD h t26)) h fun t27 h =>
 runD (aH aU h c0 t8) h fun t28 h =>
 runH (aO aK h t28 t23) h fun _ h =>
 runD (aH aU h c0 t9) h fun t29 h =>
 runH (aO aK h t29 t27) h fun _ h =>
 runD (binD aB .add t8 (.int .i64 1)) h fun t31 h =>
 runD (binD aB .sub t9 (.int .i64 1)) h fun t33 h =>
 (∃ m, m < n ∧ I m (AV.norms n0 h [t31, t33]) (cJ n0 h)) ∧ AV.norms n0 h [c0] = [c0])
 (J1 h)
def aZ.H (c : Ctx) (t0 : AV) (t1 : AV) (t2 : AV) (t3 : AV) (h : List AObj) (K : AOut → List AObj → Prop) : Prop :=
 runD (binD aB .sub t2 (.int .i64 1)) h fun t12 h =>
 aJ (fun (J1 : List AObj → Prop) =>
 dC [false, false] [t1, t12] h fun lv h => aZ.L1 c J1 K (AV.norms h.length h lv) (cJ h.length h) h.length (AV.norm h.length h t0))
 (fun h => K (.ret (.tup [])) h)
def bG.loops : Nat → bX
 | 1 => ⟨[10], [false], [0, 2, 3, 4], [], [], []⟩
 | _ => ⟨[], [], [], [], [], []⟩
def bG.L1 (c : Ctx) (J1 : List AObj → Prop) (K : AOut → List AObj → Prop) (lv : List AV) (h0 : List AObj) (n0 : Nat) (c0 : AV) (c2 : AV) (c3 : AV) (c4 : AV) : Prop :=
 ∃ I : Nat → List AV → List AObj → Prop, (∃ n, I n lv h0) ∧ ∀ n h, ∀ t10, I n [t10] h →
 runD (binD aB .mul (.int .i64 2) t10) h fun t14 h =>
 runD (binD aB .add t14 (.int .i64 1)) h fun t15 h =>
 runD (binD aB .geq t15 c2) h fun t18 h =>
 aW t18
 (J1 h)
 (runD (binD aB .add t15 (.int .i64 1)) h fun t20 h =>
 runD (binD aB .lss t20 c2) h fun t22 h =>
 aJ (fun (J2 : AV → AV → List AObj → Prop) =>
 aT t22 true
 (runD (binD aB .add c3 t15) h fun t28 h =>
 runD (aH aU h c0 t28) h fun t29 h =>
 runD (fitD aK (aD h t29)) h fun t30 h =>
 runD (binD aB .add c3 t15) h fun t34 h =>
 runD (binD aB .add t34 (.int .i64 1)) h fun t35 h =>
 runD (aH aU h c0 t35) h fun t36 h =>
 runD (fitD aK (aD h t36)) h fun t37 h =>
 aQ false c.noS c4 [t30, t37] h (fun t38 h =>
 runD (binD aB .lss t38 (.int .i64 0)) h fun t39 h =>
 J2 (.bool true) t39 h)
 (fun _ _ => False))
 (J2 (.bool false) .und h))
 (fun t23 t39 h => runD (bK t23 t39 (.bool false)) h fun t40 h =>
 aJ (fun (J3 : AV → List AObj → Prop) =>
 aW t40
 (runD (binD aB .add t15 (.int .i64 1)) h fun t42 h =>
 J3 t42 h)
 (J3 t15 h))
 (fun t11 h => runD (binD aB .add c3 t10) h fun t47 h =>
 runD (aH aU h c0 t47) h fun t48 h =>
 runD (fitD aK (aD h t48)) h fun t49 h =>
 runD (binD aB .add c3 t11) h fun t53 h =>
 runD (aH aU h c0 t53) h fun t54 h =>
 runD (fitD aK (aD h t54)) h fun t55 h =>
 aQ false c.noS c4 [t49, t55] h (fun t56 h =>
 runD (binD aB .lss t56 (.int .i64 0)) h fun t57 h =>
 runD (unD .not t57) h fun t58 h =>
 aW t58
 (K (.ret (.tup [])) h)
 (runD (binD aB .add c3 t10) h fun t62 h =>
 runD (binD aB .add c3 t11) h fun t66 h =>
 runD (binD aB .add c3 t11) h fun t70 h =>
 runD (aH aU h c0 t70) h fun t71 h =>
 runD (fitD aK (aD h t71)) h fun t72 h =>
 runD (binD aB .add c3 t10) h fun t76 h =>
 runD (aH aU h c0 t76) h fun t77 h =>
 runD (fitD aK (aD h t77)) h fun t78 h =>
 runD (aH aU h c0 t62) h fun t79 h =>
 runH (aO aK h t79 t72) h fun _ h =>
 runD (aH aU h c0 t66) h fun t80 h =>
 runH (aO aK h t80 t78) h fun _ h =>
 (∃ m, m < n ∧ I m (AV.norms n0 h [t11]) (cJ n0 h)) ∧ AV.norms n0 h [c0, c2, c3, c4] = [c0, c2, c3, c4]))
 (fun _ _ => False))))
def bG.H (c : Ctx) (t0 : AV) (t1 : AV) (t2 : AV) (t3 : AV) (t4 : AV) (h : List AObj) (K : AOut → List AObj → Prop) : Prop :=
 aJ (fun (J1 : List AObj → Prop) =>
 dC [false] [t1] h fun lv h => bG.L1 c J1 K (AV.norms h.length h lv) (cJ h.length h) h.length (AV.norm h.length h t0) (AV.norm h.length h t2) (AV.norm h.length h t3) (AV.norm h.length h t4))
 (fun h => K (.ret (.tup [])) h)
def cO.loops : Nat → bX
 | _ => ⟨[], [], [], [], [], []⟩
def cO.H (c : Ctx) (t0 : AV) (h : List AObj) (K : AOut → List AObj → Prop) : Prop :=
 runD (jK h aB rW t0) h fun t4 h =>
 aQ false c (.fn (.func 120) [] []) [t4] h (fun t5 h =>
 runD (binD rW .shl (.int .u64 1) t5) h fun t6 h =>
 K (.ret t6) h)
 (fun v h => K (.pan v) h)
def cL.loops : Nat → bX
 | _ => ⟨[], [], [], [], [], []⟩
def cL.H (c : Ctx) (t0 : AV) (h : List AObj) (K : AOut → List AObj → Prop) : Prop :=
 runD (cV t0) h fun t4 h =>
 runD (fitD cZ (aD h t4)) h fun t5 h =>
 runD (cV t0) h fun t7 h =>
 runD (fitD cZ (aD h t7)) h fun t8 h =>
 runD (binD cZ .shl t8 (.int .u64 13)) h fun t9 h =>
 runD (binD cZ .xor t5 t9) h fun t10 h =>
 runD (cV t0) h fun t11 h =>
 runH (aO cZ h t11 t10) h fun _ h =>
 runD (cV t0) h fun t13 h =>
 runD (fitD cZ (aD h t13)) h fun t14 h =>
 runD (cV t0) h fun t16 h =>
 runD (fitD cZ (aD h t16)) h fun t17 h =>
 runD (binD cZ .shr t17 (.int .u64 7)) h fun t18 h =>
 runD (binD cZ .xor t14 t18) h fun t19 h =>
 runD (cV t0) h fun t20 h =>
 runH (aO cZ h t20 t19) h fun _ h =>
 runD (cV t0) h fun t22 h =>
 runD (fitD cZ (aD h t22)) h fun t23 h =>
 runD (cV t0) h fun t25 h =>
 runD (fitD cZ (aD h t25)) h fun t26 h =>
 runD (binD cZ .shl t26 (.int .u64 17)) h fun t27 h =>
 runD (binD cZ .xor t23 t27) h fun t28 h =>
 runD (cV t0) h fun t29 h =>
 runH (aO cZ h t29 t28) h fun _ h =>
 runD (cV t0) h fun t31 h =>
 runD (fitD cZ (aD h t31)) h fun t32 h =>
 K (.ret t32) h
def bC.loops : Nat → bX
 | _ => ⟨[], [], [], [], [], []⟩
def bC.H (c : Ctx) (t0 : AV) (t1 : AV) (t2 : AV) (t3 : AV) (h : List AObj) (K : AOut → List AObj → Prop) : Prop :=
 runD (binD aB .sub t1 (.int .i64 1)) h fun t11 h =>
 runD (binD aB .add t1 (.int .i64 1)) h fun t14 h =>
 aQ false c (.fn (.func 146) [] []) [t0, t11, t1, t14, t2, t3] h (fun t17 h =>
 K (.ret t17) h)
 (fun v h => K (.pan v) h)
theorem bD.eq (F : List (FuncId × aE)) (S : List (FuncId × Con)) (t0 t1 t2 t3 : AV) (h : List AObj) (K : AOut → List AObj → Prop) : funW (ctx F S bD.loops) Tryz.f127 [t0, t1, t2, t3] h K = bD.H (ctx F S bD.loops) t0 t1 t2 t3 h K := by kernel_rfl
theorem aX.eq (F : List (FuncId × aE)) (S : List (FuncId × Con)) (t0 t1 t2 t3 : AV) (h : List AObj) (K : AOut → List AObj → Prop) : funW (ctx F S aX.loops) Tryz.f128 [t0, t1, t2, t3] h K = aX.H (ctx F S aX.loops) t0 t1 t2 t3 h K := by kernel_rfl
theorem aZ.eq (F : List (FuncId × aE)) (S : List (FuncId × Con)) (t0 t1 t2 t3 : AV) (h : List AObj) (K : AOut → List AObj → Prop) : funW (ctx F S aZ.loops) Tryz.f130 [t0, t1, t2, t3] h K = aZ.H (ctx F S aZ.loops) t0 t1 t2 t3 h K := by kernel_rfl
theorem bG.eq (F : List (FuncId × aE)) (S : List (FuncId × Con)) (t0 t1 t2 t3 t4 : AV) (h : List AObj) (K : AOut → List AObj → Prop) : funW (ctx F S bG.loops) Tryz.f142 [t0, t1, t2, t3, t4] h K = bG.H (ctx F S bG.loops) t0 t1 t2 t3 t4 h K := by kernel_rfl
theorem cO.eq (F : List (FuncId × aE)) (S : List (FuncId × Con)) (t0 : AV) (h : List AObj) (K : AOut → List AObj → Prop) : funW (ctx F S cO.loops) Tryz.f143 [t0] h K = cO.H (ctx F S cO.loops) t0 h K := by kernel_rfl
theorem cL.eq (F : List (FuncId × aE)) (S : List (FuncId × Con)) (t0 : AV) (h : List AObj) (K : AOut → List AObj → Prop) : funW (ctx F S cL.loops) Tryz.f144 [t0] h K = cL.H (ctx F S cL.loops) t0 h K := by kernel_rfl
theorem bC.eq (F : List (FuncId × aE)) (S : List (FuncId × Con)) (t0 t1 t2 t3 : AV) (h : List AObj) (K : AOut → List AObj → Prop) : funW (ctx F S bC.loops) Tryz.f145 [t0, t1, t2, t3] h K = bC.H (ctx F S bC.loops) t0 t1 t2 t3 h K := by kernel_rfl
theorem bD.at : Tryz.prog.funcs[127]? = some Tryz.f127 := by kernel_rfl
theorem bD.nm : (Tryz.f127.name == "runtime.NumGoroutine") = false := by kernel_rfl
theorem bD.bd : Tryz.f127.body.isNone = false := by kernel_rfl
theorem aX.at : Tryz.prog.funcs[128]? = some Tryz.f128 := by kernel_rfl
theorem aX.nm : (Tryz.f128.name == "runtime.NumGoroutine") = false := by kernel_rfl
theorem aX.bd : Tryz.f128.body.isNone = false := by kernel_rfl
theorem aZ.at : Tryz.prog.funcs[130]? = some Tryz.f130 := by kernel_rfl
theorem aZ.nm : (Tryz.f130.name == "runtime.NumGoroutine") = false := by kernel_rfl
theorem aZ.bd : Tryz.f130.body.isNone = false := by kernel_rfl
theorem bG.at : Tryz.prog.funcs[142]? = some Tryz.f142 := by kernel_rfl
theorem bG.nm : (Tryz.f142.name == "runtime.NumGoroutine") = false := by kernel_rfl
theorem bG.bd : Tryz.f142.body.isNone = false := by kernel_rfl
theorem cO.at : Tryz.prog.funcs[143]? = some Tryz.f143 := by kernel_rfl
theorem cO.nm : (Tryz.f143.name == "runtime.NumGoroutine") = false := by kernel_rfl
theorem cO.bd : Tryz.f143.body.isNone = false := by kernel_rfl
theorem cL.at : Tryz.prog.funcs[144]? = some Tryz.f144 := by kernel_rfl
theorem cL.nm : (Tryz.f144.name == "runtime.NumGoroutine") = false := by kernel_rfl
theorem cL.bd : Tryz.f144.body.isNone = false := by kernel_rfl
theorem bC.at : Tryz.prog.funcs[145]? = some Tryz.f145 := by kernel_rfl
theorem bC.nm : (Tryz.f145.name == "runtime.NumGoroutine") = false := by kernel_rfl
theorem bC.bd : Tryz.f145.body.isNone = false := by kernel_rfl
end Lam
namespace Lam
open Go Go.Proofs
def cW.loops : Nat → bX
 | _ => ⟨[], [], [], [], [], []⟩
def cW.H (c : Ctx) (t0 : AV) (t1 : AV) (h : List AObj) (K : AOut → List AObj → Prop) : Prop :=
 aQ false c (.fn (.func 121) [] []) [t0] h (fun t8 h =>
 aQ false c (.fn (.func 121) [] []) [t1] h (fun t10 h =>
 aW t8
 (aW t10
 (K (.ret (.int .i64 0)) h)
 (K (.ret (.int .i64 (-1))) h))
 (aW t10
 (K (.ret (.int .i64 1)) h)
 (runD (binD bP .lss t0 t1) h fun t16 h =>
 aW t16
 (K (.ret (.int .i64 (-1))) h)
 (runD (binD bP .gtr t0 t1) h fun t19 h =>
 aW t19
 (K (.ret (.int .i64 1)) h)
 (K (.ret (.int .i64 0)) h)))))
 (fun v h => K (.pan v) h))
 (fun v h => K (.pan v) h)
def dI.loops : Nat → bX
 | _ => ⟨[], [], [], [], [], []⟩
def dI.H (c : Ctx) (t0 : AV) (h : List AObj) (K : AOut → List AObj → Prop) : Prop :=
 runD (binD bP .neq t0 t0) h fun t5 h =>
 K (.ret t5) h
theorem cW.eq (F : List (FuncId × aE)) (S : List (FuncId × Con)) (t0 t1 : AV) (h : List AObj) (K : AOut → List AObj → Prop) : funW (ctx F S cW.loops) Tryz.f110 [t0, t1] h K = cW.H (ctx F S cW.loops) t0 t1 h K := by kernel_rfl
theorem dI.eq (F : List (FuncId × aE)) (S : List (FuncId × Con)) (t0 : AV) (h : List AObj) (K : AOut → List AObj → Prop) : funW (ctx F S dI.loops) Tryz.f121 [t0] h K = dI.H (ctx F S dI.loops) t0 h K := by kernel_rfl
theorem cW.at : Tryz.prog.funcs[110]? = some Tryz.f110 := by kernel_rfl
theorem cW.nm : (Tryz.f110.name == "runtime.NumGoroutine") = false := by kernel_rfl
theorem cW.bd : Tryz.f110.body.isNone = false := by kernel_rfl
theorem dI.at : Tryz.prog.funcs[121]? = some Tryz.f121 := by kernel_rfl
theorem dI.nm : (Tryz.f121.name == "runtime.NumGoroutine") = false := by kernel_rfl
theorem dI.bd : Tryz.f121.body.isNone = false := by kernel_rfl
end Lam
namespace Lam
open Go Go.Proofs
def dJ.loops : Nat → bX
 | _ => ⟨[], [], [], [], [], []⟩
def dJ.H (c : Ctx) (t0 : AV) (h : List AObj) (K : AOut → List AObj → Prop) : Prop :=
 aW (.bool false)
 (runD (jK h rW kG t0) h fun t4 h =>
 aQ false c (.fn (.func 134) [] []) [t4] h (fun t5 h =>
 K (.ret t5) h)
 (fun v h => K (.pan v) h))
 (aQ false c (.fn (.func 135) [] []) [t0] h (fun t7 h =>
 K (.ret t7) h)
 (fun v h => K (.pan v) h))
def dP.loops : Nat → bX
 | _ => ⟨[], [], [], [], [], []⟩
def dP.H (c : Ctx) (t0 : AV) (h : List AObj) (K : AOut → List AObj → Prop) : Prop :=
 runD (binD lL .geq t0 (.int .u64 4294967296)) h fun t4 h =>
 aJ (fun (J1 : AV → AV → List AObj → Prop) =>
 aW t4
 (runD (binD lL .shr t0 (.int .u64 32)) h fun t6 h =>
 J1 t6 (.int .i64 32) h)
 (J1 t0 (.int .i64 0) h))
 (fun t0 t2 h => runD (binD lL .geq t0 (.int .u64 65536)) h fun t8 h =>
 aJ (fun (J2 : AV → AV → List AObj → Prop) =>
 aW t8
 (runD (binD lL .shr t0 (.int .u64 16)) h fun t10 h =>
 runD (binD aB .add t2 (.int .i64 16)) h fun t12 h =>
 J2 t10 t12 h)
 (J2 t0 t2 h))
 (fun t0 t2 h => runD (binD lL .geq t0 (.int .u64 256)) h fun t14 h =>
 aJ (fun (J3 : AV → AV → List AObj → Prop) =>
 aW t14
 (runD (binD lL .shr t0 (.int .u64 8)) h fun t16 h =>
 runD (binD aB .add t2 (.int .i64 8)) h fun t18 h =>
 J3 t16 t18 h)
 (J3 t0 t2 h))
 (fun t0 t2 h => runD (jK h lL lX t0) h fun t21 h =>
 runD (tB bP (.str [0, 1, 2, 2, 3, 3, 3, 3, 4, 4, 4, 4, 4, 4, 4, 4, 5, 5, 5, 5, 5, 5, 5, 5, 5, 5, 5, 5, 5, 5, 5, 5, 6, 6, 6, 6, 6, 6, 6, 6, 6, 6, 6, 6, 6, 6, 6, 6, 6, 6, 6, 6, 6, 6, 6, 6, 6, 6, 6, 6, 6, 6, 6, 6, 7, 7, 7, 7, 7, 7, 7, 7, 7, 7, 7, 7, 7, 7, 7, 7, 7, 7, 7, 7, 7, 7, 7, 7, 7, 7, 7, 7, 7, 7, 7, 7, 7, 7, 7, 7, 7, 7, 7, 7, 7, 7, 7, 7, 7, 7, 7, 7, 7, 7, 7, 7, 7, 7, 7, 7, 7, 7, 7, 7, 7, 7, 7, 7, 8, 8, 8, 8, 8, 8, 8, 8, 8, 8, 8, 8, 8, 8, 8, 8, 8, 8, 8, 8, 8, 8, 8, 8, 8, 8, 8, 8, 8, 8, 8, 8, 8, 8, 8, 8, 8, 8, 8, 8, 8, 8, 8, 8, 8, 8, 8, 8, 8, 8, 8, 8, 8, 8, 8, 8, 8, 8, 8, 8, 8, 8, 8, 8, 8, 8, 8, 8, 8, 8, 8, 8, 8, 8, 8, 8, 8, 8, 8, 8, 8, 8, 8, 8, 8, 8, 8, 8, 8, 8, 8, 8, 8, 8, 8, 8, 8, 8, 8, 8, 8, 8, 8, 8, 8, 8, 8, 8, 8, 8, 8, 8, 8, 8, 8, 8, 8, 8, 8, 8, 8, 8, 8, 8, 8, 8, 8, 8]) t21) h fun t22 h =>
 runD (jK h lX aB t22) h fun t23 h =>
 runD (binD aB .add t2 t23) h fun t24 h =>
 K (.ret t24) h)))
theorem dJ.eq (F : List (FuncId × aE)) (S : List (FuncId × Con)) (t0 : AV) (h : List AObj) (K : AOut → List AObj → Prop) : funW (ctx F S dJ.loops) Tryz.f120 [t0] h K = dJ.H (ctx F S dJ.loops) t0 h K := by kernel_rfl
theorem dP.eq (F : List (FuncId × aE)) (S : List (FuncId × Con)) (t0 : AV) (h : List AObj) (K : AOut → List AObj → Prop) : funW (ctx F S dP.loops) Tryz.f135 [t0] h K = dP.H (ctx F S dP.loops) t0 h K := by kernel_rfl
theorem dJ.at : Tryz.prog.funcs[120]? = some Tryz.f120 := by kernel_rfl
theorem dJ.nm : (Tryz.f120.name == "runtime.NumGoroutine") = false := by kernel_rfl
theorem dJ.bd : Tryz.f120.body.isNone = false := by kernel_rfl
theorem dP.at : Tryz.prog.funcs[135]? = some Tryz.f135 := by kernel_rfl
theorem dP.nm : (Tryz.f135.name == "runtime.NumGoroutine") = false := by kernel_rfl
theorem dP.bd : Tryz.f135.body.isNone = false := by kernel_rfl
end Lam
namespace Lam
open Go Go.Proofs
def gH.loops : Nat → bX
 | 2 => ⟨[], [], [], [(3, none), (2, some [17, 19])], [], []⟩
 | _ => ⟨[], [], [], [], [], []⟩
def gH.H (c : Ctx) (t0 : AV) (t1 : AV) (h : List AObj) (K : AOut → List AObj → Prop) : Prop :=
 cP cB h fun t4 h =>
 aQ false c (.fn (.func 46) [] []) [t0, t1] h (fun t12 h =>
 runD (aV t12 0) h fun t13 h =>
 runD (aV t12 1) h fun t14 h =>
 cP bB h fun t6 h =>
 runH (aO bB h t6 t13) h fun _ h =>
 runD (binD cM .neq t14 (.int .i64 0)) h fun t16 h =>
 aJ (fun (J1 : AV → AV → List AObj → Prop) =>
 aT t16 false
 (runD (binD aB .geq t1 (.int .i64 256)) h fun t19 h =>
 J1 (.bool false) t19 h)
 (J1 (.bool true) .und h))
 (fun t17 t19 h => runD (bK t17 (.bool true) t19) h fun t20 h =>
 aW t20
 (runD (gT cB []) h fun t21 h =>
 runH (aO cB h t4 t21) h fun _ h =>
 cT (fitD cB (aD h t4)) fun r0 => K (.ret (.tup [r0, (.int .i64 90)])) h)
 (runD (aC bB t6 1) h fun t23 h =>
 runD (fitD aB (aD h t23)) h fun t24 h =>
 runD (gT cB [(0, t1), (1, t24)]) h fun t25 h =>
 cP cB h fun t8 h =>
 runH (aO cB h t8 t25) h fun _ h =>
 runD (fitD cB (aD h t8)) h fun t26 h =>
 aQ false c (.fn (.func 67) [] []) [t26] h (fun t27 h =>
 aJ (fun (J2 : List AObj → Prop) =>
 aW t27
 (runD (aC cB t8 2) h fun t28 h =>
 runH (aO aB h t28 (.int .i64 12)) h fun _ h =>
 J2 h)
 (J2 h))
 (fun h => runD (fitD cB (aD h t8)) h fun t29 h =>
 runH (aO cB h t4 t29) h fun _ h =>
 cT (fitD cB (aD h t4)) fun r0 => K (.ret (.tup [r0, (.int .i64 0)])) h))
 (fun v h => K (.pan v) h))))
 (fun v h => K (.pan v) h)
def iA.loops : Nat → bX
 | 2 => ⟨[], [], [], [(4, none), (3, some [12, 15]), (2, none), (6, some [17, 23])], [], []⟩
 | 4 => ⟨[], [], [], [(3, none), (2, some [33, 35])], [], []⟩
 | _ => ⟨[], [], [], [], [], []⟩
def iA.H (c : Ctx) (t0 : AV) (t1 : AV) (h : List AObj) (K : AOut → List AObj → Prop) : Prop :=
 boxW cB t1 h fun t3 h =>
 cP cB h fun t4 h =>
 runD (aC cB t3 0) h fun t9 h =>
 runD (fitD aB (aD h t9)) h fun t10 h =>
 runD (binD aB .geq t10 (.int .i64 0)) h fun t11 h =>
 aJ (fun (J1 : AV → AV → List AObj → Prop) =>
 aT t11 true
 (runD (aC cB t3 0) h fun t13 h =>
 runD (fitD aB (aD h t13)) h fun t14 h =>
 runD (binD aB .lss t14 (.int .i64 256)) h fun t15 h =>
 J1 (.bool true) t15 h)
 (J1 (.bool false) .und h))
 (fun t12 t15 h => runD (bK t12 t15 (.bool false)) h fun t16 h =>
 aJ (fun (J2 : AV → AV → List AObj → Prop) =>
 aT t16 true
 (runD (aC cB t3 0) h fun t18 h =>
 runD (fitD aB (aD h t18)) h fun t19 h =>
 runD (lenD aM h t0) h fun t21 h =>
 runD (binD aB .quo t21 (.int .i64 16)) h fun t22 h =>
 runD (binD aB .lss t19 t22) h fun t23 h =>
 J2 (.bool true) t23 h)
 (J2 (.bool false) .und h))
 (fun t17 t23 h => runD (bK t17 t23 (.bool false)) h fun t24 h =>
 aJ (fun (J3 : AV → List AObj → Prop) =>
 aW t24
 (runD (aC cB t3 0) h fun t25 h =>
 runD (fitD aB (aD h t25)) h fun t26 h =>
 runD (binD aB .mul (.int .i64 16) t26) h fun t27 h =>
 runD (aC cB t3 2) h fun t28 h =>
 runD (fitD aB (aD h t28)) h fun t29 h =>
 aQ false c (.fn (.func 68) [] []) [t27, t29] h (fun t30 h =>
 J3 t30 h)
 (fun v h => K (.pan v) h))
 (J3 (.int .i64 (-1)) h))
 (fun t5 h => runD (aC cB t3 4) h fun t31 h =>
 runD (fitD mW (aD h t31)) h fun t32 h =>
 aJ (fun (J4 : AV → AV → List AObj → Prop) =>
 aT t32 false
 (runD (binD aB .lss t5 (.int .i64 0)) h fun t35 h =>
 J4 (.bool false) t35 h)
 (J4 (.bool true) .und h))
 (fun t33 t35 h => runD (bK t33 (.bool true) t35) h fun t36 h =>
 aW t36
 (runD (fitD cB (aD h t3)) h fun t37 h =>
 runH (aO cB h t4 t37) h fun _ h =>
 cT (fitD cB (aD h t4)) fun r0 => K (.ret r0) h)
 (runD (fitD cB (aD h t3)) h fun t38 h =>
 runD (aH aM h t0 t5) h fun t41 h =>
 runD (fitD aB (aD h t41)) h fun t42 h =>
 runD (gT eZ [(0, t38), (1, t42)]) h fun t43 h =>
 boxW eZ t43 h fun t44 h =>
 runD (aC cB t3 3) h fun t46 h =>
 runD (fitD aM (aD h t46)) h fun t47 h =>
 aQ false c (.fn (.func 34) [] []) [t47] h (fun t48 h =>
 runD (cV t44) h fun t49 h =>
 runD (aC eZ t49 0) h fun t50 h =>
 runD (aC cB t50 3) h fun t51 h =>
 runH (aO aM h t51 t48) h fun _ h =>
 runD (aC cB t3 3) h fun t52 h =>
 runD (fitD aM (aD h t52)) h fun t53 h =>
 runD (lenD aM h t53) h fun t54 h =>
 runD (cV t44) h fun t56 h =>
 runD (aC eZ t56 1) h fun t57 h =>
 runD (fitD aB (aD h t57)) h fun t58 h =>
 runD (binD aB .gtr t58 (.int .i64 0)) h fun t59 h =>
 aJ (fun (J5 : AV → AV → List AObj → Prop) =>
 aT t59 true
 (runD (binD aB .eql t54 (.int .i64 0)) h fun t62 h =>
 aJ (fun (J6 : AV → AV → List AObj → Prop) =>
 aT t62 false
 (runD (aC cB t3 3) h fun t64 h =>
 runD (fitD aM (aD h t64)) h fun t65 h =>
 runD (binD aB .sub t54 (.int .i64 1)) h fun t67 h =>
 runD (aH aM h t65 t67) h fun t68 h =>
 runD (fitD aB (aD h t68)) h fun t69 h =>
 runD (cV t44) h fun t71 h =>
 runD (aC eZ t71 1) h fun t72 h =>
 runD (fitD aB (aD h t72)) h fun t73 h =>
 runD (binD aB .neq t69 t73) h fun t74 h =>
 J6 (.bool false) t74 h)
 (J6 (.bool true) .und h))
 (fun t63 t74 h => runD (bK t63 (.bool true) t74) h fun t75 h =>
 J5 (.bool true) t75 h))
 (J5 (.bool false) .und h))
 (fun t60 t75 h => runD (bK t60 t75 (.bool false)) h fun t76 h =>
 aJ (fun (J7 : List AObj → Prop) =>
 aW t76
 (runD (cV t44) h fun t79 h =>
 runD (aC eZ t79 0) h fun t80 h =>
 runD (aC cB t80 3) h fun t81 h =>
 runD (fitD aM (aD h t81)) h fun t82 h =>
 runD (cV t44) h fun t84 h =>
 runD (aC eZ t84 1) h fun t85 h =>
 runD (fitD aB (aD h t85)) h fun t86 h =>
 runD (eN aM 1 [(0, t86)] h.length) h fun t87 h =>
 jC (fI aM h t82 t87 h.length) (fW aM h t82 t87) h fun t88 h =>
 runD (cV t44) h fun t89 h =>
 runD (aC eZ t89 0) h fun t90 h =>
 runD (aC cB t90 3) h fun t91 h =>
 runH (aO aM h t91 t88) h fun _ h =>
 J7 h)
 (J7 h))
 (fun h => runD (fitD cB (aD h t3)) h fun t94 h =>
 aQ false c (.fn (.func 67) [] []) [t94] h (fun t95 h =>
 aJ (fun (J8 : AV → List AObj → Prop) =>
 aW t95
 (J8 (.fn (.func 70) [t44] []) h)
 (J8 (.fn (.func 69) [t44] []) h))
 (fun t8 h => aQ false c t8 [] h (fun t99 h =>
 runD (cV t44) h fun t101 h =>
 runD (aC eZ t101 0) h fun t102 h =>
 runD (fitD cB (aD h t102)) h fun t103 h =>
 runH (aO cB h t4 t103) h fun _ h =>
 cT (fitD cB (aD h t4)) fun r0 => K (.ret r0) h)
 (fun v h => K (.pan v) h)))
 (fun v h => K (.pan v) h))))
 (fun v h => K (.pan v) h))))))
def eR.loops : Nat → bX
 | _ => ⟨[], [], [], [], [], []⟩
def eR.H (c : Ctx) (t0 : AV) (h : List AObj) (K : AOut → List AObj → Prop) : Prop :=
 boxW cB t0 h fun t1 h =>
 runD (aC cB t1 1) h fun t3 h =>
 runD (fitD aB (aD h t3)) h fun t4 h =>
 runD (binD aB .and t4 (.int .i64 1)) h fun t5 h =>
 runD (binD aB .eql t5 (.int .i64 1)) h fun t6 h =>
 K (.ret t6) h
def dG.loops : Nat → bX
 | 0 => ⟨[], [], [], [(7, none), (6, some [8, 14])], [], []⟩
 | _ => ⟨[], [], [], [], [], []⟩
def dG.H (c : Ctx) (t0 : AV) (h : List AObj) (K : AOut → List AObj → Prop) : Prop :=
 runD (cV t0) h fun t4 h =>
 runD (aC eZ t4 1) h fun t5 h =>
 runD (fitD aB (aD h t5)) h fun t6 h =>
 runD (binD aB .lss t6 (.int .i64 1)) h fun t7 h =>
 aJ (fun (J1 : AV → AV → List AObj → Prop) =>
 aT t7 false
 (runD (cV t0) h fun t10 h =>
 runD (aC eZ t10 0) h fun t11 h =>
 runD (aC cB t11 2) h fun t12 h =>
 runD (fitD aB (aD h t12)) h fun t13 h =>
 runD (binD aB .eql t13 (.int .i64 12)) h fun t14 h =>
 J1 (.bool false) t14 h)
 (J1 (.bool true) .und h))
 (fun t8 t14 h => runD (bK t8 (.bool true) t14) h fun t15 h =>
 runD (cV t0) h fun t16 h =>
 runD (aC eZ t16 0) h fun t17 h =>
 runD (aC cB t17 4) h fun t18 h =>
 runH (aO mW h t18 t15) h fun _ h =>
 runD (cV t0) h fun t20 h =>
 runD (aC eZ t20 0) h fun t21 h =>
 runD (aC cB t21 4) h fun t22 h =>
 runD (fitD mW (aD h t22)) h fun t23 h =>
 runD (unD .not t23) h fun t24 h =>
 aJ (fun (J2 : List AObj → Prop) =>
 aW t24
 (runD (cV t0) h fun t26 h =>
 runD (aC eZ t26 0) h fun t27 h =>
 runD (aC cB t27 2) h fun t28 h =>
 runD (fitD aB (aD h t28)) h fun t29 h =>
 runD (binD aB .add t29 (.int .i64 1)) h fun t30 h =>
 runD (cV t0) h fun t31 h =>
 runD (aC eZ t31 0) h fun t32 h =>
 runD (aC cB t32 2) h fun t33 h =>
 runH (aO aB h t33 t30) h fun _ h =>
 J2 h)
 (J2 h))
 (fun h => K (.ret (.tup [])) h))
def cU.loops : Nat → bX
 | _ => ⟨[], [], [], [], [], []⟩
def cU.H (c : Ctx) (t0 : AV) (h : List AObj) (K : AOut → List AObj → Prop) : Prop :=
 runD (cV t0) h fun t4 h =>
 runD (aC eZ t4 0) h fun t5 h =>
 runD (aC cB t5 2) h fun t6 h =>
 runD (fitD aB (aD h t6)) h fun t7 h =>
 runD (binD aB .eql t7 (.int .i64 0)) h fun t8 h =>
 runD (cV t0) h fun t9 h =>
 runD (aC eZ t9 0) h fun t10 h =>
 runD (aC cB t10 4) h fun t11 h =>
 runH (aO mW h t11 t8) h fun _ h =>
 runD (cV t0) h fun t13 h =>
 runD (aC eZ t13 0) h fun t14 h =>
 runD (aC cB t14 4) h fun t15 h =>
 runD (fitD mW (aD h t15)) h fun t16 h =>
 runD (unD .not t16) h fun t17 h =>
 aJ (fun (J1 : List AObj → Prop) =>
 aW t17
 (runD (cV t0) h fun t19 h =>
 runD (aC eZ t19 0) h fun t20 h =>
 runD (aC cB t20 2) h fun t21 h =>
 runD (fitD aB (aD h t21)) h fun t22 h =>
 runD (binD aB .sub t22 (.int .i64 1)) h fun t23 h =>
 runD (cV t0) h fun t24 h =>
 runD (aC eZ t24 0) h fun t25 h =>
 runD (aC cB t25 2) h fun t26 h =>
 runH (aO aB h t26 t23) h fun _ h =>
 J1 h)
 (J1 h))
 (fun h => K (.ret (.tup [])) h)
def gI.loops : Nat → bX
 | 2 => ⟨[], [], [], [(3, none), (5, some [16, 21])], [], []⟩
 | _ => ⟨[], [], [], [], [], []⟩
def gI.H (c : Ctx) (t0 : AV) (t1 : AV) (h : List AObj) (K : AOut → List AObj → Prop) : Prop :=
 boxW cB t1 h fun t3 h =>
 runD (aC cB t3 0) h fun t9 h =>
 runD (fitD aB (aD h t9)) h fun t10 h =>
 aQ false c (.fn (.func 46) [] []) [t0, t10] h (fun t11 h =>
 runD (aV t11 0) h fun t12 h =>
 runD (aV t11 1) h fun t13 h =>
 cP bB h fun t5 h =>
 runH (aO bB h t5 t12) h fun _ h =>
 runD (binD cM .eql t13 (.int .i64 0)) h fun t15 h =>
 aJ (fun (J1 : AV → AV → List AObj → Prop) =>
 aT t15 true
 (runD (aC bB t5 1) h fun t17 h =>
 runD (fitD aB (aD h t17)) h fun t18 h =>
 runD (aC cB t3 1) h fun t19 h =>
 runD (fitD aB (aD h t19)) h fun t20 h =>
 runD (binD aB .eql t18 t20) h fun t21 h =>
 J1 (.bool true) t21 h)
 (J1 (.bool false) .und h))
 (fun t16 t21 h => runD (bK t16 t21 (.bool false)) h fun t22 h =>
 K (.ret t22) h))
 (fun v h => K (.pan v) h)
def fT.loops : Nat → bX
 | 3 => ⟨[4, 14], [true, false], [0, 5, 12, 13], [], [], []⟩
 | 6 => ⟨[], [], [], [(3, none), (5, some [26, 31])], [], []⟩
 | _ => ⟨[], [], [], [], [], []⟩
def fT.L1 (c : Ctx) (J1 : AV → List AObj → Prop) (K : AOut → List AObj → Prop) (lv : List AV) (h0 : List AObj) (n0 : Nat) (c0 : AV) (c5 : AV) (c12 : AV) (c13 : AV) : Prop :=
 ∃ I : Nat → List AV → List AObj → Prop, (∃ n, I n lv h0) ∧ ∀ n h, ∀ t4, ∀ t14, I n [t4, t14] h →
 runD (binD aB .lss t14 c13) h fun t15 h =>
 aW t15
 (runD (aH aM h c12 t14) h fun t16 h =>
 runD (fitD aB (aD h t16)) h fun t17 h =>
 aQ false c (.fn (.func 79) [] []) [c0, t17] h (fun t21 h =>
 runD (aV t21 0) h fun t22 h =>
 runD (aV t21 1) h fun t23 h =>
 cP aK h fun t8 h =>
 runH (aO aK h t8 t22) h fun _ h =>
 runD (binD cM .eql t23 (.int .i64 0)) h fun t25 h =>
 aJ (fun (J2 : AV → AV → List AObj → Prop) =>
 aT t25 true
 (runD (aC aK t8 1) h fun t28 h =>
 runD (fitD bP (aD h t28)) h fun t29 h =>
 runD (lW lO h c5 t29) h fun t30 h =>
 runD (unD .not t30) h fun t31 h =>
 J2 (.bool true) t31 h)
 (J2 (.bool false) .und h))
 (fun t26 t31 h => runD (bK t26 t31 (.bool false)) h fun t32 h =>
 aJ (fun (J3 : AV → List AObj → Prop) =>
 aW t32
 (runD (aC aK t8 1) h fun t34 h =>
 runD (fitD bP (aD h t34)) h fun t35 h =>
 runH (jQ lO h c5 t35 (.bool true)) h fun _ h =>
 runD (fitD aK (aD h t8)) h fun t37 h =>
 runD (eN aU 1 [(0, t37)] h.length) h fun t38 h =>
 jC (fI aU h t4 t38 h.length) (fW aU h t4 t38) h fun t39 h =>
 J3 t39 h)
 (J3 t4 h))
 (fun t4 h => runD (binD aB .add t14 (.int .i64 1)) h fun t40 h =>
 (∃ m, m < n ∧ I m (AV.norms n0 h [t4, t40]) (cJ n0 h)) ∧ AV.norms n0 h [c0, c5, c12, c13] = [c0, c5, c12, c13])))
 (fun v h => K (.pan v) h))
 (J1 t4 h)
def fT.H (c : Ctx) (t0 : AV) (t1 : AV) (h : List AObj) (K : AOut → List AObj → Prop) : Prop :=
 boxW cB t1 h fun t3 h =>
 runD (kQ lO h.length) h fun t10 h =>
 runD (aC cB t3 3) h fun t11 h =>
 runD (fitD aM (aD h t11)) h fun t12 h =>
 runD (lenD aM h t12) h fun t13 h =>
 aJ (fun (J1 : AV → List AObj → Prop) =>
 dC [true, false] [(.sl true (.recs [])), (.int .i64 0)] h fun lv h => fT.L1 c J1 K (AV.norms h.length h lv) (cJ h.length h) h.length (AV.norm h.length h t0) (AV.norm h.length h t10) (AV.norm h.length h t12) (AV.norm h.length h t13))
 (fun t4 h => aQ false c (.fn (.func 108) [] []) [t4, (.fn (.func 109) [] [])] h (fun t42 h =>
 K (.ret t4) h)
 (fun v h => K (.pan v) h))
def bY.loops : Nat → bX
 | _ => ⟨[], [], [], [], [], []⟩
def bY.H (c : Ctx) (t0 : AV) (t1 : AV) (h : List AObj) (K : AOut → List AObj → Prop) : Prop :=
 boxW aK t0 h fun t2 h =>
 boxW aK t1 h fun t3 h =>
 runD (aC aK t2 1) h fun t5 h =>
 runD (fitD bP (aD h t5)) h fun t6 h =>
 runD (aC aK t3 1) h fun t7 h =>
 runD (fitD bP (aD h t7)) h fun t8 h =>
 aQ false c (.fn (.func 110) [] []) [t6, t8] h (fun t9 h =>
 K (.ret t9) h)
 (fun v h => K (.pan v) h)
theorem gH.eq (F : List (FuncId × aE)) (S : List (FuncId × Con)) (t0 t1 : AV) (h : List AObj) (K : AOut → List AObj → Prop) : funW (ctx F S gH.loops) Tryz.f40 [t0, t1] h K = gH.H (ctx F S gH.loops) t0 t1 h K := by kernel_rfl
theorem iA.eq (F : List (FuncId × aE)) (S : List (FuncId × Con)) (t0 t1 : AV) (h : List AObj) (K : AOut → List AObj → Prop) : funW (ctx F S iA.loops) Tryz.f41 [t0, t1] h K = iA.H (ctx F S iA.loops) t0 t1 h K := by kernel_rfl
theorem eR.eq (F : List (FuncId × aE)) (S : List (FuncId × Con)) (t0 : AV) (h : List AObj) (K : AOut → List AObj → Prop) : funW (ctx F S eR.loops) Tryz.f67 [t0] h K = eR.H (ctx F S eR.loops) t0 h K := by kernel_rfl
theorem dG.eq (F : List (FuncId × aE)) (S : List (FuncId × Con)) (t0 : AV) (h : List AObj) (K : AOut → List AObj → Prop) : funW (ctx F S dG.loops) Tryz.f69 [t0] h K = dG.H (ctx F S dG.loops) t0 h K := by kernel_rfl
theorem cU.eq (F : List (FuncId × aE)) (S : List (FuncId × Con)) (t0 : AV) (h : List AObj) (K : AOut → List AObj → Prop) : funW (ctx F S cU.loops) Tryz.f70 [t0] h K = cU.H (ctx F S cU.loops) t0 h K := by kernel_rfl
theorem gI.eq (F : List (FuncId × aE)) (S : List (FuncId × Con)) (t0 t1 : AV) (h : List AObj) (K : AOut → List AObj → Prop) : funW (ctx F S gI.loops) Tryz.f71 [t0, t1] h K = gI.H (ctx F S gI.loops) t0 t1 h K := by kernel_rfl
theorem fT.eq (F : List (FuncId × aE)) (S : List (FuncId × Con)) (t0 t1 : AV) (h : List AObj) (K : AOut → List AObj → Prop) : funW (ctx F S fT.loops) Tryz.f89 [t0, t1] h K = fT.H (ctx F S fT.loops) t0 t1 h K := by kernel_rfl
theorem bY.eq (F : List (FuncId × aE)) (S : List (FuncId × Con)) (t0 t1 : AV) (h : List AObj) (K : AOut → List AObj → Prop) : funW (ctx F S bY.loops) Tryz.f109 [t0, t1] h K = bY.H (ctx F S bY.loops) t0 t1 h K := by kernel_rfl
theorem gH.at : Tryz.prog.funcs[40]? = some Tryz.f40 := by kernel_rfl
theorem gH.nm : (Tryz.f40.name == "runtime.NumGoroutine") = false := by kernel_rfl
theorem gH.bd : Tryz.f40.body.isNone = false := by kernel_rfl
theorem iA.at : Tryz.prog.funcs[41]? = some Tryz.f41 := by kernel_rfl
theorem iA.nm : (Tryz.f41.name == "runtime.NumGoroutine") = false := by kernel_rfl
theorem iA.bd : Tryz.f41.body.isNone = false := by kernel_rfl
theorem eR.at : Tryz.prog.funcs[67]? = some Tryz.f67 := by kernel_rfl
theorem eR.nm : (Tryz.f67.name == "runtime.NumGoroutine") = false := by kernel_rfl
theorem eR.bd : Tryz.f67.body.isNone = false := by kernel_rfl
theorem dG.at : Tryz.prog.funcs[69]? = some Tryz.f69 := by kernel_rfl
theorem dG.nm : (Tryz.f69.name == "runtime.NumGoroutine") = false := by kernel_rfl
theorem dG.bd : Tryz.f69.body.isNone = false := by kernel_rfl
theorem cU.at : Tryz.prog.funcs[70]? = some Tryz.f70 := by kernel_rfl
theorem cU.nm : (Tryz.f70.name == "runtime.NumGoroutine") = false := by kernel_rfl
theorem cU.bd : Tryz.f70.body.isNone = false := by kernel_rfl
theorem gI.at : Tryz.prog.funcs[71]? = some Tryz.f71 := by kernel_rfl
theorem gI.nm : (Tryz.f71.name == "runtime.NumGoroutine") = false := by kernel_rfl
theorem gI.bd : Tryz.f71.body.isNone = false := by kernel_rfl
theorem fT.at : Tryz.prog.funcs[89]? = some Tryz.f89 := by kernel_rfl
theorem fT.nm : (Tryz.f89.name == "runtime.NumGoroutine") = false := by kernel_rfl
theorem fT.bd : Tryz.f89.body.isNone = false := by kernel_rfl
theorem bY.at : Tryz.prog.funcs[109]? = some Tryz.f109 := by kernel_rfl
theorem bY.nm : (Tryz.f109.name == "runtime.NumGoroutine") = false := by kernel_rfl
theorem bY.bd : Tryz.f109.body.isNone = false := by kernel_rfl
end Lam
