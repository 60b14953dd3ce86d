/- What functions of the program come to, each proved from its code. -/
import Derived.Test.YtmbmfnmjjelmkabGreatLm6
set_option linter.unusedVariables false
set_option linter.unusedSimpArgs false
set_option linter.unnecessarySimpa false
set_option linter.unusedSectionVars false
open Nat (reduceEqDiff reduceAdd reduceSub reduceLeDiff)
open Int (reduceToNat reduceEq reduceLE reduceLT)
open List (reduceReplicate)
set_option maxRecDepth 20000
namespace Lam
open Go
theorem vS {w : List Int} {b : Int} {n : Nd} (h : dF w b = some n) (hb : b < 256) : aDW w b n.slots := by
  obtain ⟨hok, h0, h1, hr⟩ := lQ h
  have hw := (aDn hr).2
  have h13 := hok.2.2.2.2.2.2.1
  refine ⟨⟨h0, hb, h1⟩, h13, fun x hx => by have := hok.2.2.2.2.2.2.2 x hx; omega, fun k hk => ?_⟩
  have e1 : mS w b k = (kQ w b.toNat).getD (k + 1 + 1 + 1) 0 := by
    unfold mS kQ
    rw [aKu, if_pos (by omega), aKv]
    congr 1; omega
  rw [e1, ← hw]
  unfold gI
  rw [List.getD_cons_succ, List.getD_cons_succ, List.getD_cons_succ]
  rcases Nat.lt_or_ge k n.slots.length with h1 | h1
  · rw [List.getD_eq_getElem?_getD, List.getElem?_append_left h1, ← List.getD_eq_getElem?_getD]
  · rw [List.getD_eq_getElem?_getD, List.getElem?_append_right h1, List.getD_eq_getElem?_getD, List.getElem?_eq_none h1, List.getElem?_replicate]
    split <;> rfl
def aGE (w : List Int) (s : Sk) : Nat → Sk
  | 0 => s
  | k + 1 => kU w (aGE w s k)
def kW (b : Int) (n : Nd) (k : Nat) : Sk := if mB n.turn = true then xY b n.turn n.slots k else upAt b n.turn n.slots k
theorem qC {w : List Int} {b : Int} {n : Nd} (h : dF w b = some n) (hb : b < 256) : ∀ k, aGE w (kW b n 0) k = kW b n k
  | 0 => rfl
  | k + 1 => by
    unfold aGE
    rw [qC h hb k]
    unfold kW
    cases hd : mB n.turn with
    | true => exact aKU (vS h hb) hd k
    | false => exact aMV (vS h hb) hd k
theorem aKV {b : Int} {n : Nd} (h13 : n.slots.length ≤ 13) : ∃ a R, kW b n 13 = ⟨b, n.turn, a, R, true⟩ ∧ (R = plain n.slots ∨ R = (plain n.slots).reverse) := by
  unfold kW
  by_cases hd : mB n.turn = true
  · rw [if_pos hd]
    exact ⟨_, _, rfl, .inr (aER _)⟩
  · rw [if_neg hd]
    unfold upAt
    rw [if_neg (by omega)]
    exact ⟨_, _, rfl, .inl rfl⟩
def recT (w : List Int) (s : Int) : RecT := rcT ((recO w s).getD kB)
theorem zB {w : List Int} {low : bD} : ∀ {l : List Int} {k : Nat} {last : bD}, lL w low l k last = true → (l.map (recT w)).Pairwise ltR ∧ (k ≠ 0 → ∀ s ∈ l, ltB last (recT w s).key = true)
  | [], _, _, _ => ⟨List.Pairwise.nil, fun _ s hs => by cases hs⟩
  | a :: r, k, last, h => by
    simp only [lL] at h
    cases hx : recO w a with
    | none => rw [hx] at h; cases h
    | some x =>
      rw [hx] at h
      simp only [Bool.and_eq_true, Bool.or_eq_true, decide_eq_true_eq] at h
      obtain ⟨⟨_, hk⟩, hr⟩ := h
      have ex : recT w a = rcT x := by unfold recT; rw [hx]; rfl
      obtain ⟨h1, h2⟩ := zB hr
      have h2 := h2 (by omega)
      have hstep : ∀ s ∈ r, ltB x.key (recT w s).key = true ∧ (ltB last x.key = true → ltB last (recT w s).key = true) := by
        intro s hs
        have := h2 s hs
        by_cases hl : ltB last x.key = true
        · rw [if_pos hl] at this
          exact ⟨this, fun h => kK h this⟩
        · rw [if_neg hl] at this
          have hle : leB x.key last := by unfold leB; simpa using hl
          refine ⟨?_, fun h => absurd h hl⟩
          rcases aBb x.key last with e | e | e
          · exact kK e this
          · rw [e]; exact this
          · exact absurd e hl
      refine ⟨?_, fun hk0 s hs => ?_⟩
      · rw [List.map_cons, List.pairwise_cons]
        refine ⟨fun y hy => ?_, h1⟩
        obtain ⟨s, hs, rfl⟩ := List.mem_map.1 hy
        unfold ltR
        rw [ex]
        exact (hstep s hs).1
      · have hlt : ltB last x.key = true := by rcases hk with h | h; exact absurd h hk0; exact h
        rcases List.mem_cons.1 hs with rfl | hs
        · rw [ex]; exact hlt
        · exact (hstep s hs).2 hlt
theorem aGF {w : List Int} : ∀ {l : List Int} {out : List RecT}, (∀ s ∈ l, ∃ x, recO w s = some x) → ((out ++ l.map (recT w)).map (·.key)).Nodup → l.foldl (hitS w) out = out ++ l.map (recT w)
  | [], out, _, _ => by simp
  | a :: r, out, h, hn => by
    obtain ⟨x, hx⟩ := h a (by simp)
    have ex : recT w a = rcT x := by unfold recT; rw [hx]; rfl
    have hni : x.key ∉ out.map (·.key) := by
      intro hm
      rw [List.map_append, List.nodup_append] at hn
      refine hn.2.2 _ hm x.key ?_ rfl
      rw [List.map_map, List.map_cons, List.mem_cons]
      left
      show x.key = (recT w a).key
      rw [ex]; rfl
    have hs : hitS w out a = out ++ [recT w a] := by
      unfold hitS
      rw [hx]
      simp only [hni, if_false, ex]
    rw [List.foldl_cons, hs, aGF (fun s hs => h s (by simp [hs])) (by simpa using hn)]
    simp
theorem aHF {l : List RecT} (h : l.Pairwise ltR) : (l.map (·.key)).Nodup := by
  unfold List.Nodup
  rw [List.pairwise_map]
  exact h.imp fun {a b} hab e => by unfold ltR at hab; rw [e, qR] at hab; cases hab
theorem aKW {w R L : List Int} (hrec : ∀ s ∈ L, ∃ x, recO w s = some x) (hr : (L.map (recT w)).Pairwise ltR) (hR : R = L ∨ R = L.reverse) : uN (iX w R) = L.map (recT w) := by
  have hp : (R.map (recT w)).Perm (L.map (recT w)) := by
    rcases hR with rfl | rfl
    · exact .refl _
    · exact (List.reverse_perm L).map _
  have hn : ((R.map (recT w)).map (·.key)).Nodup := (hp.map _).nodup_iff.2 (aHF hr)
  have e : iX w R = R.map (recT w) := by
    unfold iX
    rw [aGF (fun s hs => hrec s (by rcases hR with rfl | rfl; exact hs; exact List.mem_reverse.1 hs)) (by simpa using hn)]
    simp
  rw [e]
  exact aCl (wV hn) hr ((rW _).trans hp)
theorem aBG {w l : List Int} {i : Nat} {last : bD} (hi : i < l.length) (h : lF w (l.drop i) i last = true) : ∃ low, mZ w i last (l.getD i 0) = some low ∧ lF w (l.drop (i + 1)) (i + 1) low = true := by
  rw [wD l i 0 hi] at h
  simp only [lF] at h
  split at h
  · cases h
  · rename_i low hl; exact ⟨low, hl, h⟩
theorem wL {w : List Int} {i : Nat} {last : bD} {b : Int} {low : bD} (h : mZ w i last b = some low) : (dF w b).bind (lowO w) = some low ∧ ((i = 0 ∧ low = []) ∨ (0 < i ∧ ltB last low = true)) := by
  unfold mZ at h
  cases hn : dF w b with
  | none => rw [hn] at h; cases h
  | some n =>
    rw [hn] at h
    simp only at h
    cases hw : lowO w n with
    | none => rw [hw] at h; cases h
    | some lo =>
      rw [hw] at h
      simp only at h
      split at h
      rotate_left
      · cases h
      rename_i hc
      cases h
      refine ⟨hw, ?_⟩
      simp only [Bool.and_eq_true, Bool.or_eq_true, decide_eq_true_eq] at hc
      rcases hc.1 with ⟨h1, h2⟩ | ⟨h1, h2⟩
      · left
        unfold lowO at hw
        rw [if_pos h2] at hw
        cases hw
        exact ⟨h1, rfl⟩
      · exact .inr ⟨h1, h2⟩
theorem aMW (a : bD) : ltB a [] = false := by cases a <;> rfl
theorem rX {w l : List Int} (hl : iL (eF w) w = some l) : kY (eF w) w = some l ∧ lF w l 0 [] = true ∧ eF w = true := by
  unfold iL at hl
  split at hl
  · cases hl
  · rename_i l' hl'
    split at hl
    · rename_i hb; cases hl; exact ⟨hl', hb, (oE hl').1⟩
    · cases hl
def aFw (w : List Int) : Int → List Int → Prop
  | b, [] => b = 0
  | b, x :: r => b ≠ 0 ∧ x = b ∧ ∃ n, dF w b = some n ∧ n.level = 0 ∧ aFw w n.next r
theorem aBH {w : List Int} : ∀ (m : Nat) (b : Int) (out l : List Int), tI w m b out = some l → ∃ r, l = out ++ r ∧ aFw w b r
  | 0, b, out, l, h => by cases h
  | m + 1, b, out, l, h => by
    simp only [tI] at h
    split at h
    · rename_i h0; cases h; exact ⟨[], by simp, h0⟩
    · rename_i h0
      cases hn : dF w b with
      | none => rw [hn] at h; cases h
      | some n =>
        rw [hn] at h
        simp only at h
        split at h
        · rename_i hc
          obtain ⟨r, hr, hl⟩ := aBH m n.next (out ++ [b]) l h
          exact ⟨b :: r, by rw [hr]; simp, h0, rfl, n, hn, hc.1, hl⟩
        · cases h
theorem aGG {w : List Int} : ∀ {b : Int} {l : List Int}, aFw w b l → ∀ {i : Nat}, i < l.length → l.getD i 0 ≠ 0 ∧ ∃ n, dF w (l.getD i 0) = some n ∧ n.level = 0 ∧ n.next = if i + 1 < l.length then l.getD (i + 1) 0 else 0
  | b, [], _, i, hi => absurd hi (Nat.not_lt_zero _)
  | b, x :: r, h, 0, hi => by
    obtain ⟨h0, rfl, n, hn, hl, hk⟩ := h
    refine ⟨h0, n, hn, hl, ?_⟩
    cases r with
    | nil => exact hk
    | cons y r' => exact hk.2.1.symm
  | b, x :: r, h, i + 1, hi => by
    obtain ⟨h0, rfl, n, hn, hl, hk⟩ := h
    obtain ⟨q0, n', q1, q2, q3⟩ := aGG hk (i := i) (by simpa using hi)
    refine ⟨q0, n', q1, q2, ?_⟩
    rw [q3]
    by_cases hc : i + 1 < r.length
    · rw [if_pos hc, if_pos (by simp; omega)]; rfl
    · rw [if_neg hc, if_neg (by simp; omega)]
theorem aIg {w : List Int} {b : Int} {low : bD} (h : (dF w b).bind (lowO w) = some low) : lowZ w b = low := by unfold lowZ; rw [h]; rfl
theorem aIh {w l : List Int} (h : lF w l 0 [] = true) : ∀ i, i < l.length → ∃ last low, mZ w i last (l.getD i 0) = some low ∧ lF w (l.drop (i + 1)) (i + 1) low = true ∧ (i = 0 → low = []) ∧ ∀ j, j < i → ltB (lowZ w (l.getD j 0)) low = true
  | 0, hi => by
    obtain ⟨low, h1, h2⟩ := aBG (last := []) hi (by rw [List.drop_zero]; exact h)
    refine ⟨[], low, h1, h2, fun _ => ?_, fun j hj => by omega⟩
    rcases (wL h1).2 with h | h
    · exact h.2
    · omega
  | i + 1, hi => by
    obtain ⟨last, low, h1, h2, h3, h4⟩ := aIh h i (by omega)
    obtain ⟨low', q1, q2⟩ := aBG hi h2
    have hlt : ltB low low' = true := by
      rcases (wL q1).2 with h | h
      · omega
      · exact h.2
    refine ⟨low, low', q1, q2, fun h => by omega, fun j hj => ?_⟩
    by_cases e : j = i
    · rw [e, aIg (wL h1).1]; exact hlt
    · exact kK (h4 j (by omega)) hlt
theorem mT {w l : List Int} (h : iL (eF w) w = some l) {i : Nat} (hi : i < l.length) :
    l.getD i 0 ≠ 0 ∧ ∃ n, dF w (l.getD i 0) = some n ∧ n.level = 0 ∧ n.next = (if i + 1 < l.length then l.getD (i + 1) 0 else 0) ∧ lowO w n = some (lowZ w (l.getD i 0)) ∧ lL w (lowZ w (l.getD i 0)) (plain n.slots) 0 (lowZ w (l.getD i 0)) = true ∧
      (i = 0 → lowZ w (l.getD i 0) = []) ∧ ∀ j, j < i → ltB (lowZ w (l.getD j 0)) (lowZ w (l.getD i 0)) = true := by
  obtain ⟨h1, h2, hrd⟩ := rX h
  have hlk : aFw w 1 l := by
    unfold kY at h1
    rw [if_pos hrd] at h1
    obtain ⟨r, hr, hl⟩ := aBH _ _ _ _ h1
    rw [List.nil_append] at hr
    rw [hr]; exact hl
  obtain ⟨q0, n, q1, q2, q3⟩ := aGG hlk hi
  obtain ⟨last, low, g1, _, g3, g4⟩ := aIh h2 i hi
  have hlow := aIg (wL g1).1
  obtain ⟨n', r1, r2, r3⟩ := aJr g1
  rw [q1] at r1
  cases r1
  rw [hlow]
  exact ⟨q0, n, q1, q2, q3, r2, r3, g3, g4⟩
end Lam
namespace Lam
open Go Go.Proofs
def fE.loops : Nat → bW
 | 6 => ⟨[2, 21], [true, false], [0, 19, 20], [], [], []⟩
 | _ => ⟨[], [], [], [], [], []⟩
def fE.L1 (c : Ctx) (J1 : AV → List AObj → Prop) (K : AOut → List AObj → Prop) (lv : List AV) (h0 : List AObj) (n0 : Nat) (c0 : AV) (c19 : AV) (c20 : AV) : Prop :=
 ∃ I : Nat → List AV → List AObj → Prop, (∃ n, I n lv h0) ∧ ∀ n h, ∀ t2, ∀ t21, I n [t2, t21] h →
 runD (binD aB .lss t21 c20) h fun t22 h =>
 aU t22
 (runD (aH aK h c19 t21) h fun t23 h =>
 runD (fitD aB (aD h t23)) h fun t24 h =>
 aR false c (.fn (.func 52) [] []) [c0, t24] h (fun t28 h =>
 aR false c (.fn (.func 51) [] []) [t2, t28] h (fun t29 h =>
 runD (binD aB .add t21 (.int .i64 1)) h fun t30 h =>
 (∃ m, m < n ∧ I m (AV.norms n0 h [t29, t30]) (cH n0 h)) ∧ AV.norms n0 h [c0, c19, c20] = [c0, c19, c20])
 (fun v h => K (.pan v) h))
 (fun v h => K (.pan v) h))
 (J1 t2 h)
def fE.H (c : Ctx) (t0 : AV) (h : List AObj) (K : AOut → List AObj → Prop) : Prop :=
 aR false c (.fn (.func 22) [] []) [t0] h (fun t10 h =>
 runD (binD cN .neq t10 (.int .i64 0)) h fun t12 h =>
 aU t12
 (K (.ret (.tup [(.sl true (.pairs [])), t10])) h)
 (aR false c (.fn (.func 24) [] []) [t0] h (fun t16 h =>
 runD (aW t16 0) h fun t17 h =>
 runD (aW t16 1) h fun t18 h =>
 runD (lenD aK h t17) h fun t20 h =>
 aM (fun (J1 : AV → List AObj → Prop) =>
 dC [true, false] [(.sl true (.pairs [])), (.int .i64 0)] h fun lv h => fE.L1 c J1 K (AV.norms h.length h lv) (cH h.length h) h.length (AV.norm h.length h t0) (AV.norm h.length h t17) (AV.norm h.length h t20))
 (fun t2 h => K (.ret (.tup [t2, (.int .i64 0)])) h))
 (fun v h => K (.pan v) h)))
 (fun v h => K (.pan v) h)
def iB.loops : Nat → bW
 | _ => ⟨[], [], [], [], [], []⟩
def iB.H (c : Ctx) (t0 : AV) (t1 : AV) (h : List AObj) (K : AOut → List AObj → Prop) : Prop :=
 boxW aK t0 h fun t2 h =>
 boxW aB t1 h fun t3 h =>
 K (.ret (.fn (.func 84) [] [t2, t3])) h
def eH.loops : Nat → bW
 | 3 => ⟨[29], [false], [0, 1, 4, 6, 27, 28], [], [], []⟩
 | 6 => ⟨[], [], [], [(4, none), (4, some [42, 46]), (2, none), (8, some [48, 56])], [], []⟩
 | _ => ⟨[], [], [], [], [], []⟩
def eH.L1 (c : Ctx) (J1 : List AObj → Prop) (K : AOut → List AObj → Prop) (lv : List AV) (h0 : List AObj) (n0 : Nat) (c0 : AV) (c1 : AV) (c4 : AV) (c6 : AV) (c27 : AV) (c28 : AV) : Prop :=
 ∃ I : Nat → List AV → List AObj → Prop, (∃ n, I n lv h0) ∧ ∀ n h, ∀ t29, I n [t29] h →
 runD (binD aB .lss t29 c28) h fun t30 h =>
 aU t30
 (runD (aH aK h c27 t29) h fun t31 h =>
 runD (fitD aB (aD h t31)) h fun t32 h =>
 runD (fitD aK (aD h c1)) h fun t34 h =>
 aR false c (.fn (.func 79) [] []) [t34, t32] h (fun t36 h =>
 runD (aW t36 0) h fun t37 h =>
 runD (aW t36 1) h fun t38 h =>
 cQ aI h fun t10 h =>
 runH (aP aI h t10 t37) h fun _ h =>
 runD (aC bA c4 2) h fun t39 h =>
 runD (fitD aB (aD h t39)) h fun t40 h =>
 runD (binD aB .neq t40 (.int .i64 0)) h fun t41 h =>
 aM (fun (J2 : AV → AV → List AObj → Prop) =>
 aX t41 true
 (runD (aC aI t10 1) h fun t43 h =>
 runD (fitD bT (aD h t43)) h fun t44 h =>
 runD (binD bT .geq t44 c6) h fun t46 h =>
 J2 (.bool true) t46 h)
 (J2 (.bool false) .und h))
 (fun t42 t46 h => runD (bO t42 t46 (.bool false)) h fun t47 h =>
 aM (fun (J3 : AV → AV → List AObj → Prop) =>
 aX t47 false
 (runD (aC aI t10 1) h fun t50 h =>
 runD (fitD bT (aD h t50)) h fun t51 h =>
 runD (aC aI t10 2) h fun t52 h =>
 runD (fitD bT (aD h t52)) h fun t53 h =>
 runD (gS iR [(0, t51), (1, t53)]) h fun t54 h =>
 aR false c c0 [t54] h (fun t55 h =>
 runD (unD .not t55) h fun t56 h =>
 J3 (.bool false) t56 h)
 (fun v h => K (.pan v) h))
 (J3 (.bool true) .und h))
 (fun t48 t56 h => runD (bO t48 (.bool true) t56) h fun t57 h =>
 aU t57
 (K (.ret (.tup [])) h)
 (runD (binD aB .add t29 (.int .i64 1)) h fun t58 h =>
 (∃ m, m < n ∧ I m (AV.norms n0 h [t58]) (cH n0 h)) ∧ AV.norms n0 h [c0, c1, c4, c6, c27, c28] = [c0, c1, c4, c6, c27, c28]))))
 (fun v h => K (.pan v) h))
 (J1 h)
def eH.H (c : Ctx) (t0 : AV) (t1 : AV) (t2 : AV) (h : List AObj) (K : AOut → List AObj → Prop) : Prop :=
 runD (fitD aK (aD h t1)) h fun t13 h =>
 runD (fitD aB (aD h t2)) h fun t14 h =>
 aR false c (.fn (.func 46) [] []) [t13, t14] h (fun t15 h =>
 runD (aW t15 0) h fun t16 h =>
 runD (aW t15 1) h fun t17 h =>
 cQ bA h fun t4 h =>
 runH (aP bA h t4 t16) h fun _ h =>
 runD (fitD aK (aD h t1)) h fun t19 h =>
 runD (aC bA t4 2) h fun t20 h =>
 runD (fitD aB (aD h t20)) h fun t21 h =>
 aR false c (.fn (.func 47) [] []) [t19, t21] h (fun t22 h =>
 runD (aW t22 0) h fun t23 h =>
 runD (aW t22 1) h fun t24 h =>
 runD (aC bA t4 4) h fun t25 h =>
 runD (fitD aK (aD h t25)) h fun t26 h =>
 aR false c (.fn (.func 78) [] []) [t26] h (fun t27 h =>
 runD (lenD aK h t27) h fun t28 h =>
 aM (fun (J1 : List AObj → Prop) =>
 dC [false] [(.int .i64 0)] h fun lv h => eH.L1 c J1 K (AV.norms h.length h lv) (cH h.length h) h.length (AV.norm h.length h t0) (AV.norm h.length h t1) (AV.norm h.length h t4) (AV.norm h.length h t23) (AV.norm h.length h t27) (AV.norm h.length h t28))
 (fun h => K (.ret (.tup [])) h))
 (fun v h => K (.pan v) h))
 (fun v h => K (.pan v) h))
 (fun v h => K (.pan v) h)
theorem fE.eq (F : List (FuncId × aE)) (S : List (FuncId × Con)) (t0 : AV) (h : List AObj) (K : AOut → List AObj → Prop) : funW (ctx F S fE.loops) Tryz.f26 [t0] h K = fE.H (ctx F S fE.loops) t0 h K := by kernel_rfl
theorem iB.eq (F : List (FuncId × aE)) (S : List (FuncId × Con)) (t0 t1 : AV) (h : List AObj) (K : AOut → List AObj → Prop) : funW (ctx F S iB.loops) Tryz.f52 [t0, t1] h K = iB.H (ctx F S iB.loops) t0 t1 h K := by kernel_rfl
theorem eH.eq (F : List (FuncId × aE)) (S : List (FuncId × Con)) (l : Nat) (Y : Con) (t0 t1 t2 : AV) (h : List AObj) (K : AOut → List AObj → Prop) : funW ((ctx F S eH.loops).withY l Y) Tryz.f84 [t0, t1, t2] h K = eH.H ((ctx F S eH.loops).withY l Y) t0 t1 t2 h K := by kernel_rfl
theorem fE.at : Tryz.prog.funcs[26]? = some Tryz.f26 := by kernel_rfl
theorem fE.nm : (Tryz.f26.name == "runtime.NumGoroutine") = false := by kernel_rfl
theorem fE.bd : Tryz.f26.body.isNone = false := by kernel_rfl
theorem iB.at : Tryz.prog.funcs[52]? = some Tryz.f52 := by kernel_rfl
theorem iB.nm : (Tryz.f52.name == "runtime.NumGoroutine") = false := by kernel_rfl
theorem iB.bd : Tryz.f52.body.isNone = false := by kernel_rfl
theorem eH.at : Tryz.prog.funcs[84]? = some Tryz.f84 := by kernel_rfl
theorem eH.nm : (Tryz.f84.name == "runtime.NumGoroutine") = false := by kernel_rfl
theorem eH.bd : Tryz.f84.body.isNone = false := by kernel_rfl
end Lam
namespace Lam
open Go Go.Proofs
def eH.I : Con → Con := fun Y args h K => match args with
  | [.fn (.yield l) [] [], a0, a1] => eH.H ((ctx [(46, cM.C), (47, dB.C), (78, eC.C), (79, dQ.C)] [] eH.loops).withY l Y) (.fn (.yield l) [] []) a0 a1 h K
  | _ => False
theorem eH.spec : qG Tryz.prog 84 eH.I := by
  refine qG.of (bQ (F := [(46, cM.C), (47, dB.C), (78, eC.C), (79, dQ.C)]) (S := []) (by simpa using ⟨cM.spec, dB.spec, eC.spec, dQ.spec⟩) (by simp) eH.loops).toOkI eH.at eH.nm eH.bd ?_
  intro Yc l cap h K hC
  unfold eH.I at hC
  split at hC
  · rename_i e
    simp only [List.cons.injEq, AV.fn.injEq, Fn.yield.injEq, and_true, true_and] at e
    obtain ⟨rfl, rfl⟩ := e
    rw [eH.eq]; exact hC
  · exact hC.elim
def iB.K : Con := fun args h K => match args with
  | [a0, a1] => iB.H (ctx [] [] iB.loops) a0 a1 h K
  | _ => False
theorem iB.spec : dH Tryz.prog 52 iB.K := by
  refine dH.of (bQ (F := []) (S := []) (by simp) (by simp) iB.loops) iB.at iB.nm iB.bd ?_
  intro args h K hC
  unfold iB.K at hC
  split at hC
  · rw [iB.eq]; exact hC
  · exact hC.elim
def bE.K : Con := fun args h K => match args with
  | [a0, a1] => bE.H (ctxI [] [] [(84, eH.I)] bE.loops) a0 a1 h K
  | _ => False
theorem bE.spec : dH Tryz.prog 51 bE.K := by
  refine dH.of (aBe (F := []) (S := []) (Is := [(84, eH.I)]) (by simp) (by simp) (by simpa using eH.spec) bE.loops) bE.at bE.nm bE.bd ?_
  intro args h K hC
  unfold bE.K at hC
  split at hC
  · rw [bE.eq]; exact hC
  · exact hC.elim
def xZ (w : List Int) : AV := match iL (eF w) w with
  | none => .tup [.sl false (.pairs []), .int .i64 110]
  | some l => .tup [.sl false (.pairs (allP w l)), .int .i64 0]
theorem aLY (w : List Int) (b : Int) : ∃ e, qI w b = .tup [(nS w b).V, .int .i64 e] := by
  unfold nS
  cases hn : dF w b with
  | none =>
    obtain ⟨e, _, hv⟩ := nT hn
    exact ⟨e, hv⟩
  | some n => exact ⟨0, iM hn⟩
theorem aIi (w : List Int) (b : Int) : ∃ e, lowV w b = .tup [.str (lowZ w b), .int .i64 e] := by
  unfold lowV lowZ
  cases h : (dF w b).bind (lowO w) with
  | none => exact ⟨_, rfl⟩
  | some l => exact ⟨_, rfl⟩
theorem aKX (w : List Int) (s : Int) : ∃ e, pC w s = .tup [(recZ w s).V, .int .i64 e] := by
  unfold recZ
  cases hn : recO w s with
  | none =>
    obtain ⟨e, _, hv⟩ := sU hn
    exact ⟨e, hv⟩
  | some n => exact ⟨0, sT hn⟩
theorem aBI (w : List Int) (b : Int) : (nS w b).slots.length ≤ 13 := by
  unfold nS
  cases hn : dF w b with
  | none => exact Nat.zero_le _
  | some n => exact (lQ hn).1.2.2.2.2.2.2.1
theorem aGH {α β : Type} (f : α → β) (L : List α) (d : α) {e : β} {i : Nat} (h : i < L.length) : (L.map f).getD i e = f (L.getD i d) := by
  rw [List.getD_eq_getElem?_getD, List.getElem?_map, List.getElem?_eq_getElem h, List.getD_eq_getElem?_getD, List.getElem?_eq_getElem h]; rfl
theorem aLZ (w : List Int) (b : Int) (out : List jK) (v : Nat) (hw : iG w) (hro : out.length ≤ 100000) (K : AOut → List AObj → Prop)
    (hK : ∀ h' v', K (.ret (.sref false 0 v' 0 (out ++ ownP w b).length)) (.row .own v' (.pairs (out ++ ownP w b)) :: h')) :
    bE.K [.sref false 0 v 0 out.length, .fn (.func 84) [] [.ptr 1 [], .ptr 2 []]] [.row .own v (.pairs out), .box (.sl false (.ints .i64 w)), .box (.int .i64 b)] K := by
  obtain ⟨e1, h1⟩ := aLY w b
  obtain ⟨e2, h2⟩ := aIi w (nS w b).next
  have hr := iG.roomy hw
  unfold bE.K bE.H
  simp only [eH.I, eH.H, cM.C, h1, Nd.V, dB.C, h2, eC.C, aA, aA, gq, reduceEq, reduceLT, reduceLE, implies_true, reduceCtorEq, if_true, if_false, go_sem, reduceEqDiff, Nat.reduceLT, reduceAdd, reduceSub, reduceLeDiff, reduceReplicate, reduceToNat]
  intro lp r
  obtain ⟨⟨n1, n2, n3, n4, n5⟩, hnd⟩ : ∃ n, nS w b = n := ⟨_, rfl⟩
  have hok := aBI w b
  rw [hnd] at hok ⊢
  have hrn : roomy n5.length := by unfold roomy; simp only at hok; omega
  have hpl := Nat.le_trans (wE n5) hok
  have hsl : (plain n5).length ≤ 13 := hpl
  generalize hS : plain n5 = S at *
  have hP : ownP w b = ((S.map (recZ w)).takeWhile (ownB w ⟨n1, n2, n3, n4, n5⟩)).map kZ := by
    unfold ownP ownL; rw [hnd, ← hS]
  refine ⟨hr, hw, hrn, ?_⟩
  have hlo : lowZ w (nS w b).next = lowZ w n3 := by rw [hnd]
  simp only
  unfold eH.L1
  refine kT (σ := Nat × Nat) (fun s => .int .i64 s.1) (fun s => [.row .own s.2 (.pairs (out ++ (S.take s.1).map fun s => kZ (recZ w s))), .box (.sl false (.ints .i64 w)), .box (.int .i64 b), .box (.sref false 0 s.2 0 (out ++ (S.take s.1).map fun s => kZ (recZ w s)).length), .lp .ready none r, .box (.agg [.int .i64 n1, .int .i64 n2, .int .i64 n3, .int .i64 n4, .sl false (.ints .i64 n5)])]) (fun s => S.length - s.1) (fun s => s.1 ≤ S.length ∧ ∀ i, i < s.1 → ownB w ⟨n1, n2, n3, n4, n5⟩ (recZ w (S.getD i 0)) = true) (0, v) rfl (by simp) ⟨Nat.zero_le _, fun i hi => absurd hi (Nat.not_lt_zero _)⟩ ?_
  rintro I back ⟨k, v1⟩ ⟨hk, hall⟩
  simp only at hk hall ⊢
  have htw : (k < S.length → ownB w ⟨n1, n2, n3, n4, n5⟩ (recZ w (S.getD k 0)) = false) → ownP w b = (S.take k).map fun s => kZ (recZ w s) := fun h => by
    rw [hP, aIa (ownB w ⟨n1, n2, n3, n4, n5⟩) (recZ w 0) (S.map (recZ w)) k (by simp; exact hk) (fun i hi => ?_) (fun hi => ?_), ← List.map_take, List.map_map]
    · rfl
    · rw [aGH _ _ _ (by omega)]; exact hall i hi
    · rw [List.length_map] at hi
      rw [aGH _ _ _ hi]; exact h hi
  have hlen : (out ++ (S.take k).map fun s => kZ (recZ w s)).length ≤ 100013 := by
    rw [List.length_append, List.length_map, List.length_take]; omega
  by_cases hkl : k < S.length
  · have hb : ∀ v2 n lv h, _ := fun v2 n lv h => @back n lv h (k + 1, v2)
    simp only [gP S k 0 hkl, List.map_append, List.map_cons, List.map_nil] at hb
    have d1 : decide ((k : Int) < (S.length : Int)) = true := decide_eq_true (by omega)
    obtain ⟨e3, h3⟩ := aKX w (S.getD k 0)
    have hall2 : ownB w ⟨n1, n2, n3, n4, n5⟩ (recZ w (S.getD k 0)) = true → ∀ i, i < k + 1 → ownB w ⟨n1, n2, n3, n4, n5⟩ (recZ w (S.getD i 0)) = true := fun h i hi => by
      by_cases e : i = k
      · rw [e]; exact h
      · exact hall i (by omega)
    generalize hR : (S.take k).map (fun s => kZ (recZ w s)) = R at *
    generalize recZ w (S.getD k 0) = x at *
    obtain ⟨x1, x2, x3, x4⟩ := x
    unfold ownB at htw hall2
    simp only at htw hall2
    have hlp : roomy (out ++ (R ++ [(⟨x2, x3⟩ : jK)])).length := by
      unfold roomy; rw [← List.append_assoc, List.length_append]; simp only [List.length_cons, List.length_nil]; omega
    simp only [dQ.C, h3, Rc.V, d1, aA, eG (show k < 4611686018427387904 by omega), aA, gq, reduceEq, reduceLT, reduceLE, implies_true, reduceCtorEq, if_true, if_false, go_sem, reduceEqDiff, Nat.reduceLT, reduceAdd, reduceSub, reduceLeDiff, reduceReplicate, reduceToNat]
    refine ⟨⟨by omega, by omega⟩, hr, ?_⟩
    by_cases h0 : n3 = 0
    · simp only [h0, decide_true, aA, gq, reduceEq, reduceLT, reduceLE, implies_true, reduceCtorEq, if_true, if_false, go_sem, reduceEqDiff, Nat.reduceLT, reduceAdd, reduceSub, reduceLeDiff, reduceReplicate, reduceToNat]
      exact ⟨hlp, hb (v1 + 1) _ _ _ (by omega) rfl (by simp only [h0, kZ]) ⟨by omega, hall2 (by simp [h0])⟩⟩
    · cases hlt : ltB x2 (lowZ w n3) with
      | true =>
        simp only [h0, hlt, decide_false, aA, gq, reduceEq, reduceLT, reduceLE, implies_true, reduceCtorEq, if_true, if_false, go_sem, reduceEqDiff, Nat.reduceLT, reduceAdd, reduceSub, reduceLeDiff, reduceReplicate, reduceToNat]
        exact ⟨hlp, hb (v1 + 1) _ _ _ (by omega) rfl rfl ⟨by omega, hall2 (by simp [hlt])⟩⟩
      | false =>
        have e := htw (fun _ => by simp [h0, hlt])
        simp only [h0, hlt, decide_false, aA, gq, reduceEq, reduceLT, reduceLE, implies_true, reduceCtorEq, if_true, if_false, go_sem, reduceEqDiff, Nat.reduceLT, reduceAdd, reduceSub, reduceLeDiff, reduceReplicate, reduceToNat]
        rw [← e]
        exact hK _ _
  · obtain rfl : k = S.length := by omega
    have d1 : decide ((S.length : Int) < (S.length : Int)) = false := decide_eq_false (by omega)
    rw [← htw (fun h => absurd h hkl)]
    simp only [d1, aA, aA, gq, reduceEq, reduceLT, reduceLE, implies_true, reduceCtorEq, if_true, if_false, go_sem, reduceEqDiff, Nat.reduceLT, reduceAdd, reduceSub, reduceLeDiff, reduceReplicate, reduceToNat]
    exact hK _ _
theorem aES {w : List Int} {l : List Int} {k : Nat} (h : k < l.length) : allP w (l.take (k + 1)) = allP w (l.take k) ++ ownP w (l.getD k 0) := by
  unfold allP
  rw [gP l k 0 h, List.flatMap_append, List.flatMap_cons, List.flatMap_nil, List.append_nil]
theorem aMa (w : List Int) (b : Int) : (ownP w b).length ≤ 13 := by
  unfold ownP ownL
  rw [List.length_map]
  refine Nat.le_trans (List.takeWhile_sublist _).length_le ?_
  rw [List.length_map]
  exact Nat.le_trans (wE _) (aBI w b)
theorem aCm (w : List Int) : ∀ l : List Int, (allP w l).length ≤ 13 * l.length
  | [] => Nat.le_refl _
  | b :: l => by
    have h1 := aCm w l
    have h2 := aMa w b
    unfold allP at h1 ⊢
    rw [List.flatMap_cons, List.length_append, List.length_cons]; omega
def fE.C : aE
  | [.sl _ (.ints .i64 w)] => some (false, pD (iG w) (xZ w))
  | _ => none
theorem fE.spec : bI Tryz.prog 26 fE.C := by
  refine bI.of (bQ (F := [(22, fL.C), (24, dP.C)]) (S := [(52, iB.K), (51, bE.K)]) (by simpa using ⟨fL.spec, dP.spec⟩) (by simpa using ⟨iB.spec, bE.spec⟩) fE.loops) fE.at fE.nm fE.bd ?_
  intro vs b S v news e hS
  unfold fE.C at e
  split at e
  rotate_left
  · cases e
  cases e
  rw [fE.eq]
  unfold fE.H
  simp (maxSteps := 4000000) only [go_sem, reduceEqDiff, Nat.reduceLT, reduceAdd, reduceSub, reduceLeDiff, reduceReplicate, reduceToNat, fL.C, dP.C]
  rename_i w
  unfold xZ
  cases hl : iL (eF w) w with
  | none =>
    have hc : rV w = 110 := by unfold rV; rw [hl]; rfl
    simp only [hc, aA, decide_false, aA, gq, reduceEq, reduceLT, reduceLE, implies_true, reduceCtorEq, if_true, if_false, go_sem, reduceEqDiff, Nat.reduceLT, reduceAdd, reduceSub, reduceLeDiff, reduceReplicate, reduceToNat]
    exact ⟨hS, aG rfl rfl⟩
  | some l =>
    have hc : rV w = 0 := by unfold rV; rw [hl]; rfl
    have hch : kY (eF w) w = some l := by
      unfold iL at hl
      cases h : kY (eF w) w with
      | none => rw [h] at hl; cases hl
      | some l' =>
        rw [h] at hl
        simp only at hl
        split at hl
        · cases hl; rfl
        · cases hl
    have hlv : nE w = .tup [.sl false (.ints .i64 l), .int .i64 0] := by unfold nE; rw [hch]
    have hll := (oE hch).2.2.2.1
    have hw := hS.1
    simp only [hc, hlv, aA, decide_true, decide_false, aA, gq, reduceEq, reduceLT, reduceLE, implies_true, reduceCtorEq, if_true, if_false, go_sem, reduceEqDiff, Nat.reduceLT, reduceAdd, reduceSub, reduceLeDiff, reduceReplicate, reduceToNat]
    refine ⟨hS, hS, ?_⟩
    unfold fE.L1
    refine oI (σ := Nat × Nat) (fun s => .sref false 0 s.2 0 (allP w (l.take s.1)).length) (fun s => .int .i64 s.1) (fun s => [.row .own s.2 (.pairs (allP w (l.take s.1)))]) (fun s => l.length - s.1) (fun s => s.1 ≤ l.length) (0, 0) rfl rfl (Nat.zero_le _) ?_
    rintro I back ⟨k, v⟩ hk
    simp only at hk ⊢
    have hal := aCm w (l.take k)
    rw [List.length_take] at hal
    by_cases hkl : k < l.length
    · have hb : ∀ v2 n lv h, _ := fun v2 n lv h => @back n lv h (k + 1, v2)
      simp only [aES hkl] at hb
      have d1 : decide ((k : Int) < (l.length : Int)) = true := decide_eq_true (by omega)
      simp only [iB.K, iB.H, d1, Int.toNat_natCast, aA, eG (show k < 4611686018427387904 by omega), aA, gq, reduceEq, reduceLT, reduceLE, implies_true, reduceCtorEq, if_true, if_false, go_sem, reduceEqDiff, Nat.reduceLT, reduceAdd, reduceSub, reduceLeDiff, reduceReplicate, reduceToNat]
      refine ⟨⟨by omega, by omega⟩, ?_⟩
      refine aLZ w (l.getD k 0) (allP w (l.take k)) v hS (by omega) _ fun h' v' => ?_
      simp only [eG (show k < 4611686018427387904 by omega), aA, gq, reduceEq, reduceLT, reduceLE, implies_true, reduceCtorEq, if_true, if_false, go_sem, reduceEqDiff, Nat.reduceLT, reduceAdd, reduceSub, reduceLeDiff, reduceReplicate, reduceToNat]
      exact hb v' _ _ _ (by omega) rfl rfl (by omega)
    · obtain rfl : k = l.length := by omega
      have d1 : decide ((l.length : Int) < (l.length : Int)) = false := decide_eq_false (by omega)
      clear back
      rw [List.take_length]
      simp only [d1, aA, aA, gq, reduceEq, reduceLT, reduceLE, implies_true, reduceCtorEq, if_true, if_false, go_sem, reduceEqDiff, Nat.reduceLT, reduceAdd, reduceSub, reduceLeDiff, reduceReplicate, reduceToNat]
      refine aG ?_ rfl
      simp only [go_sem, reduceEqDiff, Nat.reduceLT, reduceAdd, reduceSub, reduceLeDiff, reduceReplicate, reduceToNat]
end Lam
namespace Lam
open Go
/-! ### A look through a leaf -/
theorem aGI {w : List Int} {b : Int} {n : Nd} (h : dF w b = some n) (hb : b < 256) : qB w b = some (kW b n 0) := by
  obtain ⟨_, h13, _⟩ := vS h hb
  unfold qB
  rw [h]
  simp only
  rw [if_neg (by omega)]
  unfold kW
  by_cases hd : mB n.turn = true
  · simp only [hd, if_true]
    unfold xY
    rw [if_pos (by decide), List.drop_of_length_le (by omega)]
    rfl
  · rw [show (if mB n.turn = true then (12 : Int) else 0) = 0 from if_neg hd, if_neg hd]
    unfold upAt
    rw [if_pos (by omega)]
    rfl
theorem aJs {b : Int} {n : Nd} (h13 : n.slots.length ≤ 13) : ∃ T, 1 ≤ T ∧ T ≤ 13 ∧ kW b n T = kW b n 13 ∧ ∀ k, k < T → (kW b n k).over = false := by
  unfold kW
  by_cases hd : mB n.turn = true
  · refine ⟨13, by decide, by decide, rfl, fun k hk => ?_⟩
    rw [if_pos hd]; unfold xY; rw [if_pos (by omega)]
  · refine ⟨min n.slots.length 12 + 1, by omega, by omega, ?_, fun k hk => ?_⟩
    · rw [if_neg hd, if_neg hd]; unfold upAt; rw [if_neg (by omega), if_neg (by omega)]
    · rw [if_neg hd]; unfold upAt; rw [if_pos (by omega)]
end Lam
namespace Lam
open Go
def aDz (w : List Int) (b : Int) : List RecT := (plain (nS w b).slots).map (recT w)
def iI (w l : List Int) (i : Nat) : bD := lowZ w (l.getD i 0)
/-! ### The way down -/
def mC (w l : List Int) (key : bD) : Nat → Int → Bool
  | 0, _ => false
  | k + 1, b => match dF w b with
    | none => true
    | some n => if n.level = 0 then decide (b ∈ l) && (match lowO w n with
        | none => false
        | some low => !ltB key low) else match lG w b key 0 with
      | none => true
      | some t => mC w l key k t
def aBj (w l : List Int) (key : bD) : List Int → Int → Int → Prop
  | [], b, c => (dF w b = none ∧ c = 1) ∨ ∃ n, dF w b = some n ∧ ((n.level = 0 ∧ b ∈ l ∧ ltB key (lowZ w b) = false ∧ c = b) ∨ (n.level ≠ 0 ∧ lG w b key 0 = none ∧ c = 1))
  | x :: p, b, c => x = b ∧ ∃ n t, dF w b = some n ∧ n.level ≠ 0 ∧ lG w b key 0 = some t ∧ aBj w l key p t c
theorem aGJ {w l : List Int} {key : bD} : ∀ {q : List Int} {b t c : Int} {q' : List Int}, aBj w l key (q ++ b :: q') t c → aBj w l key (b :: q') b c
  | [], b, t, c, q', h => by
    obtain ⟨e, hr⟩ := h
    subst e
    exact ⟨rfl, hr⟩
  | x :: q, b, t, c, q', h => by
    obtain ⟨_, n, t', _, _, _, h⟩ := h
    exact aGJ h
theorem aET {w l : List Int} {key : bD} : ∀ (k : Nat) (b : Int), mC w l key k b = true → ∃ p c, aBj w l key p b c ∧ p.Nodup ∧ ∀ x ∈ p, ∃ n, dF w x = some n
  | 0, b, h => by cases h
  | k + 1, b, h => by
    unfold mC at h
    cases hn : dF w b with
    | none => exact ⟨[], 1, .inl ⟨hn, rfl⟩, List.nodup_nil, fun x hx => by cases hx⟩
    | some n =>
      rw [hn] at h
      simp only at h
      by_cases h0 : n.level = 0
      · rw [if_pos h0] at h
        cases hl : lowO w n with
        | none => rw [hl] at h; simp at h
        | some low =>
          rw [hl] at h
          simp only [Bool.and_eq_true, decide_eq_true_eq, Bool.not_eq_true'] at h
          have hz : lowZ w b = low := by unfold lowZ; rw [hn]; simp only [Option.bind_some, hl]; rfl
          exact ⟨[], b, .inr ⟨n, hn, .inl ⟨h0, h.1, by rw [hz]; exact h.2, rfl⟩⟩, List.nodup_nil, fun x hx => by cases hx⟩
      · rw [if_neg h0] at h
        cases hd : lG w b key 0 with
        | none => exact ⟨[], 1, .inr ⟨n, hn, .inr ⟨h0, hd, rfl⟩⟩, List.nodup_nil, fun x hx => by cases hx⟩
        | some t =>
          rw [hd] at h
          simp only at h
          obtain ⟨p, c, h1, h2, h3⟩ := aET k t h
          by_cases hm : b ∈ p
          · obtain ⟨q, q', rfl⟩ := List.append_of_mem hm
            refine ⟨b :: q', c, aGJ h1, ?_, fun x hx => h3 x (List.mem_append_right _ hx)⟩
            exact (List.nodup_append.1 h2).2.1
          · refine ⟨b :: p, c, ⟨rfl, n, t, hn, h0, hd, h1⟩, List.nodup_cons.2 ⟨hm, h2⟩, fun x hx => ?_⟩
            rcases List.mem_cons.1 hx with rfl | hx
            · exact ⟨n, hn⟩
            · exact h3 x hx
theorem aGK {w l : List Int} {key : bD} (h : iL (eF w) w = some l) : ∀ {p : List Int} {b c : Int}, aBj w l key p b c → ∃ i, i < l.length ∧ c = l.getD i 0 ∧ ltB key (iI w l i) = false
  | [], b, c, hp => by
    have hone : ∃ i, i < l.length ∧ (1 : Int) = l.getD i 0 ∧ ltB key (iI w l i) = false := by
      obtain ⟨r, hr⟩ := (oE (rX h).1).2.2.2.2.1
      have hl : 0 < l.length := by rw [hr]; simp
      have := (mT h hl)
      obtain ⟨_, n, _, _, _, _, _, h0, _⟩ := this
      refine ⟨0, hl, by rw [hr]; rfl, ?_⟩
      unfold iI
      rw [h0 rfl]; exact aMW key
    rcases hp with ⟨_, rfl⟩ | ⟨n, _, ⟨_, hm, hk, rfl⟩ | ⟨_, _, rfl⟩⟩
    · exact hone
    · obtain ⟨i, hi, e⟩ := List.getElem_of_mem hm
      have e2 : l.getD i 0 = c := by rw [List.getD_eq_getElem?_getD, List.getElem?_eq_getElem hi]; exact e
      exact ⟨i, hi, e2.symm, by unfold iI; rw [e2]; exact hk⟩
    · exact hone
  | x :: p, b, c, hp => by
    obtain ⟨_, n, t, _, _, _, h4⟩ := hp
    exact aGK h h4
end Lam
namespace Lam
open Go
theorem zC {w : List Int} {low : bD} : ∀ {l : List Int} {k : Nat} {last : bD}, lL w low l k last = true → ∀ s ∈ l, ltB (recZ w s).key low = false
  | [], _, _, _, s, hs => by cases hs
  | a :: r, k, last, h, s, hs => by
    simp only [lL] at h
    cases hx : recO w a with
    | none => rw [hx] at h; cases h
    | some x =>
      rw [hx] at h
      simp only [Bool.and_eq_true, Bool.not_eq_true'] at h
      rcases List.mem_cons.1 hs with rfl | hs
      · have : recZ w s = x := by unfold recZ; rw [hx]; rfl
        rw [this]; exact h.1.1.2
      · exact zC h.2 s hs
theorem aGL {α : Type} {p : α → Bool} : ∀ {L : List α} {x : α}, x ∈ L.takeWhile p → x ∈ L ∧ p x = true
  | [], x, h => by cases h
  | a :: r, x, h => by
    rw [List.takeWhile_cons] at h
    split at h
    · rename_i hp
      rcases List.mem_cons.1 h with rfl | h
      · exact ⟨by simp, hp⟩
      · have := aGL h; exact ⟨by simp [this.1], this.2⟩
    · cases h
theorem aGM {w l : List Int} (h : iL (eF w) w = some l) {i j : Nat} (hij : i ≤ j) (hj : j < l.length) {key : bD} : (ltB key (iI w l i) = true → ltB key (iI w l j) = true) := by
  intro hk
  by_cases e : i = j
  · rw [← e]; exact hk
  · obtain ⟨_, n, _, _, _, _, _, _, hlt⟩ := mT h hj
    exact kK hk (hlt i (by omega))
/-! ### A look holds not more than a leaf's slots -/
def FewS (s : Sk) : Prop := s.refs.length ≤ 13 ∧ (s.over = false → (s.refs.length : Int) ≤ if mB s.turn = true then 12 - s.at_ else s.at_)
theorem aMX : FewS skZ := ⟨by decide, fun _ => by decide⟩
theorem aKY {w : List Int} {b : Int} {s : Sk} (h : qB w b = some s) : FewS s := by
  unfold qB at h
  split at h
  · split at h
    · cases h
    · cases h
      refine ⟨by simp, fun _ => ?_⟩
      simp only [List.length_nil]
      split <;> simp
  · cases h
theorem aMb {w : List Int} {s : Sk} (h : FewS s) : FewS (kU w s) := by
  unfold kU
  split
  · exact h
  · rename_i hc
    have hc : (s.over || decide (mR w s < 0)) = false := by simpa using hc
    rw [Bool.or_eq_false_iff, decide_eq_false_iff_not] at hc
    obtain ⟨ho, hsp⟩ := hc
    obtain ⟨h1, h2⟩ := h
    have h2 := h2 ho
    have hat : 0 ≤ s.at_ ∧ s.at_ < 13 := by
      unfold mR at hsp
      split at hsp
      · unfold oX at hsp
        split at hsp
        · rename_i hb
          simp only [Bool.and_eq_true, decide_eq_true_eq] at hb
          omega
        · omega
      · omega
    have hlen : (goOn (w.getD (mR w s).toNat 0) s).refs.length ≤ s.refs.length + 1 := by
      unfold goOn
      simp only
      split <;> simp
    have hto : (goOn (w.getD (mR w s).toNat 0) s).turn = s.turn := rfl
    refine ⟨?_, fun hov => ?_⟩
    · split at h2 <;> omega
    · rw [hto]
      have hov' : kF (w.getD (mR w s).toNat 0) s = false := hov
      have hatn : (goOn (w.getD (mR w s).toNat 0) s).at_ = if mB s.turn = true then s.at_ - 1 else s.at_ + 1 := by
        unfold goOn
        simp only
        rw [if_neg (by rw [hov']; decide)]
        split
        · exact w64 (by omega) (by omega)
        · exact w64 (by omega) (by omega)
      rw [hatn]
      split at h2
      · rename_i hd; rw [if_pos hd, if_pos hd]; omega
      · rename_i hd; rw [if_neg hd, if_neg hd]; omega
end Lam
namespace Lam
open Go Go.Proofs
def cE.loops : Nat → bW
 | 2 => ⟨[5], [false], [0, 1], [], [], []⟩
 | _ => ⟨[], [], [], [], [], []⟩
def cE.L1 (c : Ctx) (J1 : List AObj → Prop) (K : AOut → List AObj → Prop) (lv : List AV) (h0 : List AObj) (n0 : Nat) (c0 : AV) (c1 : AV) : Prop :=
 ∃ I : Nat → List AV → List AObj → Prop, (∃ n, I n lv h0) ∧ ∀ n h, ∀ t5, I n [t5] h →
 runD (lenD aK h c0) h fun t8 h =>
 runD (binD aB .lss t5 t8) h fun t9 h =>
 aU t9
 (runD (aH aK h c0 t5) h fun t14 h =>
 runD (fitD aB (aD h t14)) h fun t15 h =>
 runD (binD aB .eql t15 c1) h fun t17 h =>
 aU t17
 (K (.ret (.bool true)) h)
 (runD (binD aB .add t5 (.int .i64 1)) h fun t11 h =>
 (∃ m, m < n ∧ I m (AV.norms n0 h [t11]) (cH n0 h)) ∧ AV.norms n0 h [c0, c1] = [c0, c1]))
 (J1 h)
def cE.H (c : Ctx) (t0 : AV) (t1 : AV) (h : List AObj) (K : AOut → List AObj → Prop) : Prop :=
 aM (fun (J1 : List AObj → Prop) =>
 dC [false] [(.int .i64 0)] h fun lv h => cE.L1 c J1 K (AV.norms h.length h lv) (cH h.length h) h.length (AV.norm h.length h t0) (AV.norm h.length h t1))
 (fun h => K (.ret (.bool false)) h)
theorem cE.eq (F : List (FuncId × aE)) (S : List (FuncId × Con)) (t0 t1 : AV) (h : List AObj) (K : AOut → List AObj → Prop) : funW (ctx F S cE.loops) Tryz.f48 [t0, t1] h K = cE.H (ctx F S cE.loops) t0 t1 h K := by kernel_rfl
theorem cE.at : Tryz.prog.funcs[48]? = some Tryz.f48 := by kernel_rfl
theorem cE.nm : (Tryz.f48.name == "runtime.NumGoroutine") = false := by kernel_rfl
theorem cE.bd : Tryz.f48.body.isNone = false := by kernel_rfl
end Lam
namespace Lam
open Go Go.Proofs
def cE.C : aE
  | [.sl _ (.ints .i64 l), .int .i64 v] => some (false, pD (roomy l.length) (.bool (decide (v ∈ l))))
  | _ => none
theorem cE.spec : bI Tryz.prog 48 cE.C := by
  refine bI.of (bQ (F := []) (S := []) (by simp) (by simp) cE.loops) cE.at cE.nm cE.bd ?_
  intro vs b S v news e hS
  unfold cE.C at e
  split at e
  rotate_left
  · cases e
  cases e
  rw [cE.eq]
  unfold cE.H
  simp (maxSteps := 4000000) only [go_sem, reduceEqDiff, Nat.reduceLT, reduceAdd, reduceSub, reduceLeDiff, reduceReplicate, reduceToNat]
  rename_i _ l v
  rw [aA]
  unfold cE.L1
  have hr := hS
  unfold roomy at hr
  refine kT (σ := Nat) (fun k => .int .i64 k) (fun k => []) (fun k => l.length - k) (fun k => k ≤ l.length ∧ v ∉ l.take k) 0 rfl rfl ⟨Nat.zero_le _, by simp⟩ ?_
  rintro I back k ⟨hk, hall⟩
  simp only [go_sem, reduceEqDiff, Nat.reduceLT, reduceAdd, reduceSub, reduceLeDiff, reduceReplicate, reduceToNat]
  refine ⟨fun hlt => ⟨by omega, fun h => ?_, fun h => ?_⟩, fun hge => ?_⟩
  · have : v ∈ l := by rw [← h]; exact lI l k 0 (by omega)
    rw [decide_eq_true this]; exact aG rfl rfl
  · refine back (k + 1) (by omega) (by rw [eG (by omega)]) rfl ⟨by omega, fun hm => ?_⟩
    rw [gP l k 0 (by omega), List.mem_append, List.mem_singleton] at hm
    rcases hm with hm | hm
    · exact hall hm
    · exact h hm.symm
  · obtain rfl : k = l.length := by omega
    rw [List.take_length] at hall
    rw [decide_eq_false hall]; exact aG rfl rfl
end Lam
namespace Lam
open Go Go.Proofs
def cD.loops : Nat → bW
 | 4 => ⟨[8, 10], [false, false], [0, 1, 5, 9], [(3, none), (2, some [30, 32])], [], []⟩
 | 10 => ⟨[], [], [], [(4, none), (3, some [53, 56]), (2, none), (2, some [58, 60]), (2, none), (3, some [62, 65])], [], []⟩
 | _ => ⟨[], [], [], [], [], []⟩
def cD.L1 (c : Ctx) (J1 : List AObj → Prop) (K : AOut → List AObj → Prop) (lv : List AV) (h0 : List AObj) (n0 : Nat) (c0 : AV) (c1 : AV) (c5 : AV) (c9 : AV) : Prop :=
 ∃ I : Nat → List AV → List AObj → Prop, (∃ n, I n lv h0) ∧ ∀ n h, ∀ t8, ∀ t10, I n [t8, t10] h →
 runD (binD aB .lss t10 (.int .i64 300)) h fun t29 h =>
 aM (fun (J2 : AV → AV → List AObj → Prop) =>
 aX t29 true
 (runD (binD cN .eql c9 (.int .i64 0)) h fun t32 h =>
 J2 (.bool true) t32 h)
 (J2 (.bool false) .und h))
 (fun t30 t32 h => runD (bO t30 t32 (.bool false)) h fun t33 h =>
 aU t33
 (aR false c (.fn (.func 46) [] []) [c0, t8] h (fun t39 h =>
 runD (aW t39 0) h fun t40 h =>
 runD (aW t39 1) h fun t41 h =>
 cQ bA h fun t11 h =>
 runH (aP bA h t11 t40) h fun _ h =>
 aR false c (.fn (.func 47) [] []) [c0, t8] h (fun t45 h =>
 runD (aW t45 0) h fun t46 h =>
 runD (aW t45 1) h fun t47 h =>
 runD (binD cN .neq t41 (.int .i64 0)) h fun t49 h =>
 aU t49
 (K (.ret (.int .i64 1)) h)
 (runD (aC bA t11 0) h fun t50 h =>
 runD (fitD aB (aD h t50)) h fun t51 h =>
 runD (binD aB .eql t51 (.int .i64 0)) h fun t52 h =>
 aM (fun (J3 : AV → AV → List AObj → Prop) =>
 aX t52 true
 (aR false c (.fn (.func 48) [] []) [c5, t8] h (fun t56 h =>
 J3 (.bool true) t56 h)
 (fun v h => K (.pan v) h))
 (J3 (.bool false) .und h))
 (fun t53 t56 h => runD (bO t53 t56 (.bool false)) h fun t57 h =>
 aM (fun (J4 : AV → AV → List AObj → Prop) =>
 aX t57 true
 (runD (binD cN .eql t47 (.int .i64 0)) h fun t60 h =>
 J4 (.bool true) t60 h)
 (J4 (.bool false) .und h))
 (fun t58 t60 h => runD (bO t58 t60 (.bool false)) h fun t61 h =>
 aM (fun (J5 : AV → AV → List AObj → Prop) =>
 aX t61 true
 (runD (binD bT .leq t46 c1) h fun t65 h =>
 J5 (.bool true) t65 h)
 (J5 (.bool false) .und h))
 (fun t62 t65 h => runD (bO t62 t65 (.bool false)) h fun t66 h =>
 aU t66
 (K (.ret (.int .i64 1)) h)
 (runD (aC bA t11 0) h fun t67 h =>
 runD (fitD aB (aD h t67)) h fun t68 h =>
 runD (binD aB .eql t68 (.int .i64 0)) h fun t69 h =>
 aU t69
 (K (.ret (.int .i64 0)) h)
 (aR false c (.fn (.func 49) [] []) [c0, t8, c1, (.int .i64 0)] h (fun t74 h =>
 runD (aW t74 0) h fun t75 h =>
 runD (aW t74 1) h fun t76 h =>
 runD (binD cN .neq t76 (.int .i64 0)) h fun t78 h =>
 aU t78
 (K (.ret (.int .i64 1)) h)
 (runD (binD aB .add t10 (.int .i64 1)) h fun t35 h =>
 (∃ m, m < n ∧ I m (AV.norms n0 h [t75, t35]) (cH n0 h)) ∧ AV.norms n0 h [c0, c1, c5, c9] = [c0, c1, c5, c9]))
 (fun v h => K (.pan v) h))))))))
 (fun v h => K (.pan v) h))
 (fun v h => K (.pan v) h))
 (J1 h))
def cD.H (c : Ctx) (t0 : AV) (t1 : AV) (h : List AObj) (K : AOut → List AObj → Prop) : Prop :=
 aR false c (.fn (.func 24) [] []) [t0] h (fun t19 h =>
 runD (aW t19 0) h fun t20 h =>
 runD (aW t19 1) h fun t21 h =>
 aR false c (.fn (.func 38) [] []) [t0] h (fun t24 h =>
 runD (aW t24 0) h fun t25 h =>
 runD (aW t24 1) h fun t26 h =>
 runD (aW t24 2) h fun t27 h =>
 aM (fun (J1 : List AObj → Prop) =>
 dC [false, false] [t26, (.int .i64 0)] h fun lv h => cD.L1 c J1 K (AV.norms h.length h lv) (cH h.length h) h.length (AV.norm h.length h t0) (AV.norm h.length h t1) (AV.norm h.length h t20) (AV.norm h.length h t27))
 (fun h => K (.ret (.int .i64 0)) h))
 (fun v h => K (.pan v) h))
 (fun v h => K (.pan v) h)
theorem cD.eq (F : List (FuncId × aE)) (S : List (FuncId × Con)) (t0 t1 : AV) (h : List AObj) (K : AOut → List AObj → Prop) : funW (ctx F S cD.loops) Tryz.f23 [t0, t1] h K = cD.H (ctx F S cD.loops) t0 t1 h K := by kernel_rfl
theorem cD.at : Tryz.prog.funcs[23]? = some Tryz.f23 := by kernel_rfl
theorem cD.nm : (Tryz.f23.name == "runtime.NumGoroutine") = false := by kernel_rfl
theorem cD.bd : Tryz.f23.body.isNone = false := by kernel_rfl
end Lam
namespace Lam
open Go Go.Proofs
end Lam
namespace Lam
open Go Go.Proofs
def rC (w : List Int) : List Int := (kY (eF w) w).getD []
theorem aJt (w : List Int) : ∃ e, nE w = .tup [.sl false (.ints .i64 (rC w)), .int .i64 e] := by
  unfold rC nE
  cases kY (eF w) w with
  | none => exact ⟨_, rfl⟩
  | some l => exact ⟨_, rfl⟩
theorem aHG (w : List Int) : (rC w).length ≤ w.length / 16 := by
  unfold rC
  cases h : kY (eF w) w with
  | none => exact Nat.zero_le _
  | some l => exact (oE h).2.2.2.1
theorem aJu {w l : List Int} {key : bD} {k : Nat} {b : Int} (h : dF w b = none) : mC w l key (k + 1) b = true := by unfold mC; rw [h]
theorem aJv {w l : List Int} {key : bD} {k : Nat} {b : Int} {n : Nd} (h : dF w b = some n) (h0 : n.level = 0) : mC w l key (k + 1) b = (decide (b ∈ l) && (match lowO w n with
    | none => false
    | some low => !ltB key low)) := by unfold mC; rw [h]; simp only; rw [if_pos h0] <;> rfl
theorem aMc {w l : List Int} {key : bD} {k : Nat} {b : Int} {n : Nd} (h : dF w b = some n) (h0 : n.level ≠ 0) (hd : lG w b key 0 = none) : mC w l key (k + 1) b = true := by unfold mC; rw [h]; simp only; rw [if_neg h0, hd]
theorem aMd {w l : List Int} {key : bD} {k : Nat} {b t : Int} {n : Nd} (h : dF w b = some n) (h0 : n.level ≠ 0) (hd : lG w b key 0 = some t) : mC w l key (k + 1) b = mC w l key k t := by
  show (match dF w b with
    | none => true
    | some n => _) = _
  rw [h]; simp only; rw [if_neg h0, hd]
def yA (w : List Int) (key : bD) : Int := if eF w = true ∧ mC w (rC w) key 300 (w.getD 3 0) = true then 1 else 0
def cD.C : aE
  | [.sl _ (.ints .i64 w), .str key] => some (false, pD (iG w) (.int .i64 (yA w key)))
  | _ => none
theorem cD.spec : bI Tryz.prog 23 cD.C := by
  refine bI.of (bQ (F := [(24, dP.C), (38, dV.C), (46, cM.C), (47, dB.C), (48, cE.C), (49, dW.C)]) (S := []) (by simpa using ⟨dP.spec, dV.spec, cM.spec, dB.spec, cE.spec, dW.spec⟩) (by simp) cD.loops) cD.at cD.nm cD.bd ?_
  intro vs b S v news e hS
  unfold cD.C at e
  split at e
  rotate_left
  · cases e
  cases e
  rw [cD.eq]
  unfold cD.H
  simp (maxSteps := 4000000) only [go_sem, reduceEqDiff, Nat.reduceLT, reduceAdd, reduceSub, reduceLeDiff, reduceReplicate, reduceToNat, dP.C, dV.C, cM.C, dB.C, cE.C, dW.C]
  rename_i w key
  have hr := iG.roomy hS
  have hw := hS.1
  obtain ⟨el, hlv⟩ := aJt w
  have hll := aHG w
  have hrl : roomy (rC w).length := by unfold roomy; omega
  unfold yA
  generalize rC w = l at *
  cases hb : eF w with
  | false =>
    have hv : kN w = .tup [.int .i64 0, .int .i64 0, .int .i64 80] := by unfold kN; rw [hb]; rfl
    simp only [hlv, hv, aA, decide_false, decide_true, aA, gq, reduceEq, reduceLT, reduceLE, implies_true, reduceCtorEq, if_true, if_false, go_sem, reduceEqDiff, Nat.reduceLT, reduceAdd, reduceSub, reduceLeDiff, reduceReplicate, reduceToNat]
    refine ⟨hS, hr, ?_⟩
    unfold cD.L1
    refine oI (σ := Nat) (fun k => .int .i64 0) (fun k => .int .i64 k) (fun k => []) (fun k => 0) (fun k => True) 0 rfl rfl trivial ?_
    intro I back k hk
    by_cases hk3 : (k : Int) < 300
    · simp only [hk3, aA, decide_false, decide_true, aA, gq, reduceEq, reduceLT, reduceLE, implies_true, reduceCtorEq, if_true, if_false, go_sem, reduceEqDiff, Nat.reduceLT, reduceAdd, reduceSub, reduceLeDiff, reduceReplicate, reduceToNat]
      exact aG (by rw [if_neg (fun h => by cases h.1)]; rfl) rfl
    · simp only [hk3, aA, decide_false, decide_true, aA, gq, reduceEq, reduceLT, reduceLE, implies_true, reduceCtorEq, if_true, if_false, go_sem, reduceEqDiff, Nat.reduceLT, reduceAdd, reduceSub, reduceLeDiff, reduceReplicate, reduceToNat]
      exact aG (by rw [if_neg (fun h => by cases h.1)]; rfl) rfl
  | true =>
    have hv : kN w = .tup [.int .i64 (w.getD 1 0), .int .i64 (w.getD 3 0), .int .i64 0] := by unfold kN; rw [hb]; rfl
    simp only [hlv, hv, aA, decide_false, decide_true, aA, gq, reduceEq, reduceLT, reduceLE, implies_true, reduceCtorEq, if_true, if_false, go_sem, reduceEqDiff, Nat.reduceLT, reduceAdd, reduceSub, reduceLeDiff, reduceReplicate, reduceToNat]
    refine ⟨hS, hr, ?_⟩
    obtain ⟨N, hN⟩ : ∃ N : Nat, N = 300 := ⟨_, rfl⟩
    rw [← hN]
    obtain ⟨Q, hQ⟩ : ∃ Q, mC w l key N (w.getD 3 0) = Q := ⟨_, rfl⟩
    rw [hQ]
    unfold cD.L1
    refine oI (σ := Nat × Int) (fun s => .int .i64 s.2) (fun s => .int .i64 s.1) (fun s => []) (fun s => N - s.1) (fun s => s.1 ≤ N ∧ mC w l key (N - s.1) s.2 = Q) (0, w.getD 3 0) rfl rfl ⟨by simp only; omega, hQ⟩ ?_
    rintro I back ⟨k, at_⟩ ⟨hk, hland⟩
    simp only at hk hland ⊢
    by_cases hk3 : k < N
    rotate_left
    · obtain rfl : k = N := by omega
      clear back
      rw [Nat.sub_self] at hland
      have hl0 : Q = false := hland.symm
      have d1 : decide ((k : Int) < 300) = false := decide_eq_false (by omega)
      simp only [hl0, d1, aA, decide_false, decide_true, aA, gq, reduceEq, reduceLT, reduceLE, implies_true, reduceCtorEq, if_true, if_false, go_sem, reduceEqDiff, Nat.reduceLT, reduceAdd, reduceSub, reduceLeDiff, reduceReplicate, reduceToNat]
      exact aG rfl rfl
    have d1 : decide ((k : Int) < 300) = true := decide_eq_true (by omega)
    obtain ⟨e2, h2⟩ := aIi w at_
    obtain ⟨m, hm⟩ : ∃ m, N - k = m + 1 := ⟨N - 1 - k, by omega⟩
    have hb : ∀ t, mC w l key m t = Q → _ := fun t ht => @back (N - k) _ [] (k + 1, t) (by simp only; omega) rfl rfl ⟨by simp only; omega, by simp only; rw [show N - (k + 1) = m by omega]; exact ht⟩
    clear back
    rw [hm] at hland
    cases hn : dF w at_ with
    | none =>
      obtain ⟨e, he, h⟩ := nT hn
      rw [aJu hn] at hland
      simp only [cM.C, dB.C, h, h2, d1, jH, he, ← hland, decide_false, decide_true, aA, aA, gq, reduceEq, reduceLT, reduceLE, implies_true, reduceCtorEq, if_true, if_false, go_sem, reduceEqDiff, Nat.reduceLT, reduceAdd, reduceSub, reduceLeDiff, reduceReplicate, reduceToNat]
      exact ⟨hr, hS, aG rfl rfl⟩
    | some n =>
      by_cases h0 : n.level = 0
      · rw [aJv hn h0] at hland
        obtain ⟨n1, n2, n3, n4, n5⟩ := n
        simp only at h0
        subst h0
        clear hb
        cases hl : lowO w ⟨0, n2, n3, n4, n5⟩ with
        | none =>
          have hv : lowV w at_ = .tup [.str [], .int .i64 110] := by unfold lowV; rw [hn]; simp only [Option.bind_some, hl]
          rw [hl] at hland
          simp only [Bool.and_false] at hland
          subst hland
          cases hin : decide (at_ ∈ l) with
          | true =>
            simp only [cM.C, dB.C, cE.C, iM hn, Nd.V, hv, hin, d1, decide_false, decide_true, aA, aA, gq, reduceEq, reduceLT, reduceLE, implies_true, reduceCtorEq, if_true, if_false, go_sem, reduceEqDiff, Nat.reduceLT, reduceAdd, reduceSub, reduceLeDiff, reduceReplicate, reduceToNat]
            exact ⟨hr, hS, hrl, aG rfl rfl⟩
          | false =>
            simp only [cM.C, dB.C, cE.C, iM hn, Nd.V, hv, hin, d1, decide_false, decide_true, aA, aA, gq, reduceEq, reduceLT, reduceLE, implies_true, reduceCtorEq, if_true, if_false, go_sem, reduceEqDiff, Nat.reduceLT, reduceAdd, reduceSub, reduceLeDiff, reduceReplicate, reduceToNat]
            exact ⟨hr, hS, hrl, aG rfl rfl⟩
        | some low =>
          have hv : lowV w at_ = .tup [.str low, .int .i64 0] := by unfold lowV; rw [hn]; simp only [Option.bind_some, hl]
          rw [hl] at hland
          simp only at hland
          cases hin : decide (at_ ∈ l) with
          | true =>
            cases hlt : ltB key low with
            | true =>
              rw [hin, hlt] at hland
              subst hland
              simp only [cM.C, dB.C, cE.C, iM hn, Nd.V, hv, hin, hlt, d1, decide_false, decide_true, aA, aA, gq, reduceEq, reduceLT, reduceLE, implies_true, reduceCtorEq, if_true, if_false, go_sem, reduceEqDiff, Nat.reduceLT, reduceAdd, reduceSub, reduceLeDiff, reduceReplicate, reduceToNat]
              exact ⟨hr, hS, hrl, aG rfl rfl⟩
            | false =>
              rw [hin, hlt] at hland
              subst hland
              simp only [cM.C, dB.C, cE.C, iM hn, Nd.V, hv, hin, hlt, d1, decide_false, decide_true, aA, aA, gq, reduceEq, reduceLT, reduceLE, implies_true, reduceCtorEq, if_true, if_false, go_sem, reduceEqDiff, Nat.reduceLT, reduceAdd, reduceSub, reduceLeDiff, reduceReplicate, reduceToNat]
              exact ⟨hr, hS, hrl, aG rfl rfl⟩
          | false =>
            rw [hin, Bool.false_and] at hland
            subst hland
            simp only [cM.C, dB.C, cE.C, iM hn, Nd.V, hv, hin, d1, decide_false, decide_true, aA, aA, gq, reduceEq, reduceLT, reduceLE, implies_true, reduceCtorEq, if_true, if_false, go_sem, reduceEqDiff, Nat.reduceLT, reduceAdd, reduceSub, reduceLeDiff, reduceReplicate, reduceToNat]
            exact ⟨hr, hS, hrl, aG rfl rfl⟩
      · cases hd : lG w at_ key 0 with
        | none =>
          have hv : mQ w at_ key 0 = .tup [.int .i64 0, .int .i64 90] := by unfold mQ; rw [hd]
          rw [aMc hn h0 hd] at hland
          rw [← hland]
          obtain ⟨n1, n2, n3, n4, n5⟩ := n
          simp only at h0
          simp only [cM.C, dB.C, dW.C, iM hn, Nd.V, h2, hv, h0, d1, decide_false, decide_true, aA, aA, gq, reduceEq, reduceLT, reduceLE, implies_true, reduceCtorEq, if_true, if_false, go_sem, reduceEqDiff, Nat.reduceLT, reduceAdd, reduceSub, reduceLeDiff, reduceReplicate, reduceToNat]
          exact ⟨hr, hS, hS, aG rfl rfl⟩
        | some t =>
          have hv : mQ w at_ key 0 = .tup [.int .i64 t, .int .i64 0] := by unfold mQ; rw [hd]
          rw [aMd hn h0 hd] at hland
          have hb2 := hb t hland
          clear hb
          obtain ⟨n1, n2, n3, n4, n5⟩ := n
          simp only at h0
          simp only [cM.C, dB.C, dW.C, iM hn, Nd.V, h2, hv, h0, d1, eG (show k < 4611686018427387904 by omega), decide_false, decide_true, aA, aA, gq, reduceEq, reduceLT, reduceLE, implies_true, reduceCtorEq, if_true, if_false, go_sem, reduceEqDiff, Nat.reduceLT, reduceAdd, reduceSub, reduceLeDiff, reduceReplicate, reduceToNat] at hb2 ⊢
          exact ⟨hr, hS, hS, hb2⟩
end Lam
namespace Lam
open Go Go.Proofs
theorem aMY {w : List Int} (h1 : w.length ≤ 1000) (h2 : w.length % 16 = 0) : newM w = .tup [memV w w [], .int .i64 0] := by
  have hs : szB w.length = true := by
    unfold szB
    rw [decide_eq_true (by omega), Int.tmod_eq_emod_of_nonneg (by omega), decide_eq_true (by omega)]; rfl
  unfold newM
  rw [hs]; rfl
end Lam
namespace Lam
open Go Go.Proofs
theorem aJw {w l : List Int} {key : bD} (h : iL (eF w) w = some l) (hl : yA w key ≠ 0) : mC w l key 300 (w.getD 3 0) = true := by
  unfold yA rC at hl
  rw [(rX h).1] at hl
  by_cases hc : eF w = true ∧ mC w ((some l).getD []) key 300 (w.getD 3 0) = true
  · exact hc.2
  · rw [if_neg hc] at hl; exact absurd rfl hl
end Lam
namespace Lam
open Go
def iA (w : List Int) (s : Sc) : Sc :=
  if s.phase = 1 then qL w s else if s.phase = 2 then uO w s else if s.phase = 3 then tO w s else if s.phase = 4 then lA w s
  else if s.phase = 5 then { s with block := s.to_, phase := 2 } else if s.phase = 6 then { s with phase := 7 } else if s.phase = 7 then (if s.to_ = 0 then { s with phase := 8 } else { s with block := s.to_, phase := 2 }) else s
theorem aHH (w : List Int) (s : Sc) : nV ⟨w, w, []⟩ s = (⟨w, w, []⟩, iA w s) := by
  unfold nV iA
  simp only [aAK]
  split
  · rfl
  split
  · rfl
  split
  · rfl
  split
  · rfl
  split
  · rfl
  split
  · rfl
  split
  · rfl
  · rfl
def seqC (w : List Int) (s : Sc) : Nat → Sc
  | 0 => s
  | k + 1 => iA w (seqC w s k)
theorem sM (w : List Int) (s : Sc) (a : Nat) : ∀ b, seqC w s (a + b) = seqC w (seqC w s a) b
  | 0 => rfl
  | b + 1 => by show iA w (seqC w s (a + b)) = _; rw [sM w s a b]; rfl
theorem aJx {w : List Int} {s : Sc} (h : s.phase = 8) : iA w s = s := by
  unfold iA
  rw [if_neg (by omega), if_neg (by omega), if_neg (by omega), if_neg (by omega), if_neg (by omega), if_neg (by omega), if_neg (by omega)]
theorem aEU {w : List Int} {s : Sc} (h : s.phase = 8) : ∀ k, seqC w s k = s
  | 0 => rfl
  | k + 1 => by show iA w (seqC w s k) = s; rw [aEU h k]; exact aJx h
theorem aDA {w : List Int} {s : Sc} {a b : Nat} (h : (seqC w s a).phase = 8) (hab : a ≤ b) : seqC w s b = seqC w s a := by
  rw [show b = a + (b - a) by omega, sM]; exact aEU h _
theorem aKZ {w : List Int} {s : Sc} (h : s.phase = 1) : iA w s = qL w s := by unfold iA; rw [if_pos h]
theorem aNW {w : List Int} {s : Sc} (h : s.phase = 2) : iA w s = uO w s := by unfold iA; rw [if_neg (by omega), if_pos h]
theorem aLa {w : List Int} {s : Sc} (h : s.phase = 3) : iA w s = tO w s := by unfold iA; rw [if_neg (by omega), if_neg (by omega), if_pos h]
theorem aNX {w : List Int} {s : Sc} (h : s.phase = 4) : iA w s = lA w s := by unfold iA; rw [if_neg (by omega), if_neg (by omega), if_neg (by omega), if_pos h]
theorem aNY {w : List Int} {s : Sc} (h : s.phase = 5) : iA w s = { s with block := s.to_, phase := 2 } := by unfold iA; rw [if_neg (by omega), if_neg (by omega), if_neg (by omega), if_neg (by omega), if_pos h]
theorem aLb {w : List Int} {s : Sc} (h : s.phase = 6) : iA w s = { s with phase := 7 } := by unfold iA; rw [if_neg (by omega), if_neg (by omega), if_neg (by omega), if_neg (by omega), if_neg (by omega), if_pos h]
theorem aLc {w : List Int} {s : Sc} (h : s.phase = 7) : iA w s = if s.to_ = 0 then { s with phase := 8 } else { s with block := s.to_, phase := 2 } := by unfold iA; rw [if_neg (by omega), if_neg (by omega), if_neg (by omega), if_neg (by omega), if_neg (by omega), if_neg (by omega), if_pos h]
theorem aDB {w : List Int} {b : Int} {n : Nd} (h : dF w b = some n) (hb : b < 256) (r : Sc) (hp : r.phase = 3) (hs : r.seek = kW b n 0) {T : Nat} (hT : ∀ k, k < T → (kW b n k).over = false) : ∀ k, k < T → seqC w r k = { r with seek := kW b n k }
  | 0, _ => by show r = _; rw [← hs]
  | k + 1, hk => by
    show iA w (seqC w r k) = _
    have ih := aDB h hb r hp hs hT k (by omega)
    rw [ih, aLa (s := { r with seek := kW b n k }) hp]
    unfold tO
    simp only
    have e : kU w (kW b n k) = kW b n (k + 1) := by
      rw [← qC h hb k, ← qC h hb (k + 1)]; rfl
    rw [e, hT (k + 1) hk]
    simp
theorem aLd {w : List Int} {b : Int} {n : Nd} (h : dF w b = some n) (hb : b < 256) (r : Sc) (hp : r.phase = 2) (hblk : r.block = b) : ∃ T, T ≤ 14 ∧ ∃ a R, (R = plain n.slots ∨ R = (plain n.slots).reverse) ∧ seqC w r T = { r with seek := ⟨b, n.turn, a, R, true⟩, phase := 4 } := by
  have h13 := (lQ h).1.2.2.2.2.2.2.1
  obtain ⟨T, t1, t2, t3, t4⟩ := aJs (b := b) h13
  obtain ⟨a, R, h1, h2⟩ := aKV (b := b) h13
  refine ⟨1 + T, by omega, a, R, h2, ?_⟩
  rw [sM]
  have e1 : seqC w r 1 = { r with seek := kW b n 0, phase := 3 } := by
    show iA w r = _
    rw [aNW hp]
    unfold uO
    rw [hblk, aGI h hb]
  rw [e1]
  have hk := aDB h hb { r with seek := kW b n 0, phase := 3 } rfl rfl t4 (T - 1) (by omega)
  rw [show T = (T - 1) + 1 by omega]
  show iA w (seqC w _ (T - 1)) = _
  rw [hk, aLa rfl]
  unfold tO
  have e : kU w (kW b n (T - 1)) = kW b n T := by
    rw [← qC h hb (T - 1), ← qC h hb T, show T = (T - 1) + 1 by omega]; rfl
  simp only [e, t3, h1, if_true]
theorem aEV {w l : List Int} : ∀ {p : List Int} {b c : Int} (r : Sc), aBj w l r.from_ p b c → r.phase = 1 → r.block = b → seqC w r (p.length + 1) = { r with block := c, phase := 2 }
  | [], b, c, r, h, hp, hb => by
    show iA w r = _
    rw [aKZ hp]
    unfold qL
    rw [hb]
    rcases h with ⟨h1, rfl⟩ | ⟨n, h1, ⟨h2, _, _, rfl⟩ | ⟨h2, h3, rfl⟩⟩
    · rw [h1]
    · rw [h1]; simp only; rw [if_pos h2]
    · rw [h1]; simp only; rw [if_neg h2, h3]
  | x :: p, b, c, r, h, hp, hb => by
    obtain ⟨rfl, n, t, h1, h2, h3, h4⟩ := h
    have e : seqC w r 1 = { r with block := t } := by
      show iA w r = _
      rw [aKZ hp]
      unfold qL
      rw [hb, h1]; simp only; rw [if_neg h2, h3]
    rw [List.length_cons, show p.length + 1 + 1 = 1 + (p.length + 1) by omega, sM, e]
    exact aEV { r with block := t } h4 hp rfl
/-! ### What a scanner tells -/
def inR (lo hi : bD) (x : jK) : Bool := !ltB x.key lo && (decide (hi = []) || ltB x.key hi)
def qD (L : List jK) (lo hi : bD) (limit : Int) : List jK := (L.filter (inR lo hi)).take limit.toNat
theorem aEW {p : Rc → Bool} (hp : ∀ a b : Rc, ltB a.key b.key = true → p b = true → p a = true) : ∀ {L : List Rc}, L.Pairwise (fun a b => ltB a.key b.key = true) → L.takeWhile p = L.filter p
  | [], _ => rfl
  | a :: r, h => by
    rw [List.pairwise_cons] at h
    cases hpa : p a with
    | true => rw [List.takeWhile_cons, if_pos hpa, List.filter_cons, if_pos hpa, aEW hp h.2]
    | false =>
      rw [List.takeWhile_cons, if_neg (by rw [hpa]; decide), List.filter_cons, if_neg (by rw [hpa]; decide)]
      symm
      rw [List.filter_eq_nil_iff]
      intro x hx hpx
      rw [hp a x (h.1 x hx) hpx] at hpa; cases hpa
def ownR (w : List Int) (lo hi : bD) (b : Int) : List jK := (ownP w b).filter (inR lo hi)
theorem aAL {w l : List Int} (h : iL (eF w) w = some l) {i : Nat} (hi : i < l.length) {x : jK} (hx : x ∈ ownP w (l.getD i 0)) : ltB x.key (iI w l i) = false ∧ (i + 1 < l.length → ltB x.key (iI w l (i + 1)) = true) := by
  obtain ⟨hz, n, hn, hlev, hnx, hlow, hsl, _, _⟩ := mT h hi
  have hnz : nS w (l.getD i 0) = n := by unfold nS; rw [hn]; rfl
  unfold ownP ownL at hx
  rw [hnz] at hx
  obtain ⟨y, hy, rfl⟩ := List.mem_map.1 hx
  obtain ⟨hy1, hy2⟩ := aGL hy
  obtain ⟨s, hs, rfl⟩ := List.mem_map.1 hy1
  refine ⟨zC hsl s hs, fun hc => ?_⟩
  rw [if_pos hc] at hnx
  obtain ⟨hz2, _⟩ := mT h hc
  unfold ownB at hy2
  rw [hnx, decide_eq_false hz2, Bool.false_or] at hy2
  exact hy2
theorem aSd {w l : List Int} (h : iL (eF w) w = some l) {i : Nat} (hi : i < l.length) : ∀ {x : jK}, x ∈ allP w (l.take i) → ltB x.key (iI w l i) = true := by
  intro x hx
  unfold allP at hx
  obtain ⟨b, hb, hxb⟩ := List.mem_flatMap.1 hx
  obtain ⟨j, hj, rfl⟩ := List.getElem_of_mem hb
  rw [List.length_take] at hj
  have e : (l.take i)[j] = l.getD j 0 := by rw [List.getElem_take, List.getD_eq_getElem?_getD, List.getElem?_eq_getElem (by omega)]; rfl
  rw [e] at hxb
  exact aGM h (show j + 1 ≤ i by omega) hi (aAL h (by omega) hxb |>.2 (by omega))
theorem behind {w l : List Int} (h : iL (eF w) w = some l) {i : Nat} : ∀ {x : jK}, x ∈ allP w (l.drop i) → ltB x.key (iI w l i) = false := by
  intro x hx
  unfold allP at hx
  obtain ⟨b, hb, hxb⟩ := List.mem_flatMap.1 hx
  obtain ⟨j, hj, rfl⟩ := List.getElem_of_mem hb
  rw [List.length_drop] at hj
  have e : (l.drop i)[j] = l.getD (i + j) 0 := by rw [List.getElem_drop, List.getD_eq_getElem?_getD, List.getElem?_eq_getElem (by omega)]; rfl
  rw [e] at hxb
  cases hc : ltB x.key (iI w l i) with
  | false => rfl
  | true =>
    have := aGM h (show i ≤ i + j by omega) (by omega) hc
    rw [(aAL h (by omega) hxb).1] at this; cases this
theorem aJy (w l : List Int) (i : Nat) : allP w l = allP w (l.take i) ++ allP w (l.drop i) := by
  unfold allP
  rw [← List.flatMap_append, List.take_append_drop]
end Lam
namespace Lam
open Go
theorem aAM {p : RecT → Bool} {q : jK → Bool} {w : List Int} : ∀ (L : List Int), (∀ s ∈ L, p (recT w s) = q (kZ (recZ w s))) → ((L.map (recT w)).filter p).map kV = ((L.map (recZ w)).map kZ).filter q
  | [], _ => rfl
  | a :: r, h => by
    have ih := aAM r fun s hs => h s (by simp [hs])
    have ha := h a (by simp)
    simp only [List.map_cons, List.filter_cons, ha]
    cases q (kZ (recZ w a)) with
    | true => simp only [if_true, List.map_cons, ih]; rfl
    | false => simpa using ih
theorem aJz {w l : List Int} (h : iL (eF w) w = some l) {i : Nat} (hi : i < l.length) {s : Sc} {bnd : Bool} {high : bD} (hf : ltB s.from_ (iI w l i) = false) (hlo : s.from_ = s.lo ∨ (s.from_ = iI w l i ∧ ltB s.lo s.from_ = true))
    (hb : if i + 1 < l.length then bnd = true ∧ high = iI w l (i + 1) else bnd = false) : ((aDz w (l.getD i 0)).filter (sIn s high bnd)).map kV = ownR w s.lo s.hi (l.getD i 0) := by
  obtain ⟨hz, n, hn, hlev, hnx, hlow, hsl, _, _⟩ := mT h hi
  have hnz : nS w (l.getD i 0) = n := by unfold nS; rw [hn]; rfl
  have hpw : ((plain n.slots).map (recZ w)).Pairwise (fun a b => ltB a.key b.key = true) := by
    have := (zB hsl).1
    rw [List.pairwise_map] at this ⊢
    exact this
  have hown : ownP w (l.getD i 0) = (((plain n.slots).map (recZ w)).filter (ownB w n)).map kZ := by
    unfold ownP ownL
    rw [hnz, aEW (fun a b hab hpb => ?_) hpw]
    unfold ownB at hpb ⊢
    cases hz : decide (n.next = 0) with
    | true => rfl
    | false => rw [hz, Bool.false_or] at hpb; rw [Bool.false_or]; exact kK hab hpb
  unfold ownR aDz
  rw [hnz, hown]
  have hff : (((plain n.slots).map (recZ w)).filter (ownB w n)).map kZ = (((plain n.slots).map (recZ w)).map kZ).filter (fun y => decide (n.next = 0) || ltB y.key (lowZ w n.next)) := by
    symm
    exact List.filter_map (f := kZ) (p := fun y => decide (n.next = 0) || ltB y.key (lowZ w n.next)) (l := (plain n.slots).map (recZ w))
  rw [hff, List.filter_filter]
  refine aAM _ fun k hk => ?_
  have hge := zC hsl k hk
  show sIn s high bnd (recT w k) = (inR s.lo s.hi (kZ (recZ w k)) && (decide (n.next = 0) || ltB (recZ w k).key (lowZ w n.next)))
  unfold sIn inR
  have e1 : (recT w k).key = (recZ w k).key := rfl
  have e2 : (kZ (recZ w k)).key = (recZ w k).key := rfl
  rw [e1, e2]
  have hbe : (!bnd || ltB (recZ w k).key high) = (decide (n.next = 0) || ltB (recZ w k).key (lowZ w n.next)) := by
    by_cases hc : i + 1 < l.length
    · rw [if_pos hc] at hb hnx
      obtain ⟨hz2, _⟩ := mT h hc
      rw [hb.1, hb.2, hnx, decide_eq_false hz2]; rfl
    · rw [if_neg hc] at hb hnx
      rw [hb, hnx]; rfl
  have hlow2 : ltB (recZ w k).key (if ltB s.lo s.from_ = true then s.from_ else s.lo) = ltB (recZ w k).key s.lo := by
    rcases hlo with e | ⟨e, hlt⟩
    · rw [e, qR, if_neg (by decide)]
    · rw [if_pos hlt]
      have h1 : ltB (recZ w k).key s.from_ = false := by rw [e]; exact hge
      rw [h1]
      cases hc : ltB (recZ w k).key s.lo with
      | false => rfl
      | true => have := kK hc hlt; rw [h1] at this; cases this
  rw [hbe, hlow2]
structure aGN (w l : List Int) (lo hi : bD) (limit : Int) (i : Nat) (s : Sc) : Prop where
  phase : s.phase = 2
  block : s.block = l.getD i 0
  eqlo : s.lo = lo
  eqhi : s.hi = hi
  eqlim : s.limit = limit
  from_ : ltB s.from_ (iI w l i) = false
  lo_ : s.from_ = lo ∨ (s.from_ = iI w l i ∧ ltB lo s.from_ = true)
  out : s.out = (allP w (l.take i)).filter (inR lo hi)
  few : (s.out.length : Int) < limit
theorem aLe {w l : List Int} {lo hi : bD} {limit : Int} (h : iL (eF w) w = some l) (hN : w.length / 16 ≤ 256) {i : Nat} (hil : i < l.length) {s : Sc} (hs : aGN w l lo hi limit i s) :
    ∃ n, n ≤ 17 ∧ ((i + 1 < l.length ∧ aGN w l lo hi limit (i + 1) (seqC w s n)) ∨ ((seqC w s n).phase = 8 ∧ (seqC w s n).out = qD (allP w l) lo hi limit)) := by
  obtain ⟨hz, n, hn, hlev, hnx, hlow, hsl, _, _⟩ := mT h hil
  have hb : l.getD i 0 < 256 := by have := (lQ hn).2.2.1; omega
  obtain ⟨T, hT, a, R, hR, hst⟩ := aLd hn hb s hs.phase hs.block
  obtain ⟨slo, shi, slim, sph, sblk, sto, ssk, sfr, sout⟩ := s
  obtain ⟨h1, h2, h3, h4, h5, h6, h7, h8, h9⟩ := hs
  simp only at h1 h2 h3 h4 h5 h6 h7 h8 h9
  subst h1
  subst h2
  subst h3
  subst h4
  subst h5
  simp only at hst
  have hfe : iA w (seqC w ⟨slo, shi, slim, 2, l.getD i 0, sto, ssk, sfr, sout⟩ T) = lA w (seqC w ⟨slo, shi, slim, 2, l.getD i 0, sto, ssk, sfr, sout⟩ T) := aNX (by rw [hst])
  have hholds : tN w (l.getD i 0) n.turn = true := by unfold tN; rw [hn]; exact decide_eq_true rfl
  have hnz : nS w (l.getD i 0) = n := by unfold nS; rw [hn]; rfl
  have hits : uN (iX w R) = aDz w (l.getD i 0) := by
    unfold aDz
    rw [hnz]
    refine aKW (fun s hs => ?_) (zB hsl).1 hR
    obtain ⟨x, hx, _⟩ := aBF hsl s hs
    exact ⟨x, hx⟩
  have hright : vQ w (l.getD i 0) = if i + 1 < l.length then some (l.getD (i + 1) 0, iI w l (i + 1)) else none := by
    unfold vQ
    rw [hn]
    simp only
    by_cases hc : i + 1 < l.length
    · rw [if_pos hc] at hnx ⊢
      obtain ⟨hz2, n2, hn2, _, _, hlow2, _⟩ := mT h hc
      rw [hnx, if_neg hz2, hn2]
      simp only [Option.bind_some, hlow2]
      rfl
    · rw [if_neg hc] at hnx ⊢
      rw [hnx, if_pos rfl]
  have hnext : (allP w (l.take (i + 1))).filter (inR slo shi) = sout ++ ownR w slo shi (l.getD i 0) := by
    rw [aES hil, List.filter_append, h8]; rfl
  by_cases hmv : i + 1 < l.length ∧ ltB sfr (iI w l (i + 1)) = false
  · -- a move
    refine ⟨T + 1 + 1, by omega, .inl ⟨hmv.1, ?_⟩⟩
    have e1 : seqC w ⟨slo, shi, slim, 2, l.getD i 0, sto, ssk, sfr, sout⟩ (T + 1) = ⟨slo, shi, slim, 5, l.getD i 0, l.getD (i + 1) 0, ⟨l.getD i 0, n.turn, a, R, true⟩, sfr, sout⟩ := by
      show iA w (seqC w _ T) = _
      rw [hfe, hst]
      unfold lA
      simp only [hholds, hright, if_pos hmv.1, hmv.2]
      rfl
    have e2 : seqC w ⟨slo, shi, slim, 2, l.getD i 0, sto, ssk, sfr, sout⟩ (T + 1 + 1) = ⟨slo, shi, slim, 2, l.getD (i + 1) 0, l.getD (i + 1) 0, ⟨l.getD i 0, n.turn, a, R, true⟩, sfr, sout⟩ := by
      show iA w (seqC w _ (T + 1)) = _
      rw [e1, aNY rfl]
    rw [e2]
    have hlt2 : ltB (iI w l i) (iI w l (i + 1)) = true := (mT h hmv.1).2.choose_spec.2.2.2.2.2.2 i (by omega)
    have hfl : sfr = slo := by
      rcases h7 with e | ⟨e, _⟩
      · exact e
      · rw [e, hlt2] at hmv; cases hmv.2
    have hnone : ownR w slo shi (l.getD i 0) = [] := by
      unfold ownR
      rw [List.filter_eq_nil_iff]
      intro x hx
      have h1 := (aAL h hil hx).2 hmv.1
      have h2 : ltB x.key slo = true := by
        cases hc : ltB x.key slo with
        | true => rfl
        | false =>
          exfalso
          have : leB slo x.key := hc
          have h3 : leB (iI w l (i + 1)) slo := by unfold leB; rw [← hfl]; exact hmv.2
          have h4 := nI h3 this
          unfold leB at h4
          rw [h1] at h4; cases h4
      unfold inR
      rw [h2]; simp
    exact ⟨rfl, rfl, rfl, rfl, rfl, hmv.2, .inl hfl, by rw [hnext, hnone, List.append_nil], h9⟩
  · -- it tells
    obtain ⟨bnd, hbd⟩ : ∃ b : Bool, b = decide (i + 1 < l.length) := ⟨_, rfl⟩
    obtain ⟨high, hhi⟩ : ∃ x : bD, x = if i + 1 < l.length then iI w l (i + 1) else [] := ⟨_, rfl⟩
    obtain ⟨to, hto⟩ : ∃ x : Int, x = if i + 1 < l.length then l.getD (i + 1) 0 else 0 := ⟨_, rfl⟩
    obtain ⟨S, hS⟩ : ∃ S : Sc, S = ⟨slo, shi, slim, 4, l.getD i 0, sto, ⟨l.getD i 0, n.turn, a, R, true⟩, sfr, sout⟩ := ⟨_, rfl⟩
    have hF : lA w S = nZ w S bnd high to := by
      unfold lA
      rw [hS]
      simp only [hholds, hright]
      by_cases hc : i + 1 < l.length
      · rw [if_pos hc] at hhi hto ⊢
        rw [decide_eq_true hc] at hbd
        have : ltB sfr (iI w l (i + 1)) = true := by
          cases e : ltB sfr (iI w l (i + 1)) with
          | true => rfl
          | false => exact absurd ⟨hc, e⟩ hmv
        rw [hbd, hhi, hto]
        simp only [this]
        rfl
      · rw [if_neg hc] at hhi hto ⊢
        rw [decide_eq_false hc] at hbd
        rw [hbd, hhi, hto]
        rfl
    have hout : sOut w S high bnd = sout ++ (ownR w slo shi (l.getD i 0)).take (slim - sout.length).toNat := by
      unfold sOut
      rw [hS]
      simp only [hits]
      rw [aJz h hil (s := ⟨slo, shi, slim, 4, l.getD i 0, sto, ⟨l.getD i 0, n.turn, a, R, true⟩, sfr, sout⟩) h6 h7 (by
        by_cases hc : i + 1 < l.length
        · rw [if_pos hc, hbd, hhi, if_pos hc]; exact ⟨decide_eq_true hc, rfl⟩
        · rw [if_neg hc, hbd]; exact decide_eq_false hc)]
    obtain ⟨O, hO⟩ : ∃ O, sOut w S high bnd = O := ⟨_, rfl⟩
    have e1 : seqC w ⟨slo, shi, slim, 2, l.getD i 0, sto, ssk, sfr, sout⟩ (T + 1) = nZ w S bnd high to := by
      show iA w (seqC w _ T) = _
      rw [hfe, hst, ← hS, hF]
    have hwhole : allP w l = allP w (l.take (i + 1)) ++ allP w (l.drop (i + 1)) := aJy w l (i + 1)
    have hOr : O = ((allP w (l.take (i + 1))).filter (inR slo shi)).take slim.toNat := by
      rw [← hO, hout, hnext, List.take_append, List.take_of_length_le (l := sout) (by omega)]
      congr 2
      omega
    by_cases hgo : (bnd && decide (((sOut w S high bnd).length : Int) < S.limit) && (decide (S.hi = []) || ltB high S.hi)) = true
    · have hgo2 := hgo
      rw [hO] at hgo
      rw [hS] at hgo
      simp only [Bool.and_eq_true, Bool.or_eq_true, decide_eq_true_eq] at hgo
      obtain ⟨⟨g1, g2⟩, g3⟩ := hgo
      rw [hbd, decide_eq_true_eq] at g1
      rw [if_pos g1] at hhi hto
      have e2 : nZ w S bnd high to = ⟨slo, shi, slim, 6, l.getD i 0, l.getD (i + 1) 0, ⟨l.getD i 0, n.turn, a, R, true⟩, iI w l (i + 1), O⟩ := by
        unfold nZ
        rw [if_pos hgo2, hO, hS, hto, hhi]
      obtain ⟨hz2, _⟩ := mT h g1
      refine ⟨T + 1 + 1 + 1, by omega, .inl ⟨g1, ?_⟩⟩
      have e3 : seqC w ⟨slo, shi, slim, 2, l.getD i 0, sto, ssk, sfr, sout⟩ (T + 1 + 1) = ⟨slo, shi, slim, 7, l.getD i 0, l.getD (i + 1) 0, ⟨l.getD i 0, n.turn, a, R, true⟩, iI w l (i + 1), O⟩ := by
        show iA w (seqC w _ (T + 1)) = _
        rw [e1, e2, aLb rfl]
      have e4 : seqC w ⟨slo, shi, slim, 2, l.getD i 0, sto, ssk, sfr, sout⟩ (T + 1 + 1 + 1) = ⟨slo, shi, slim, 2, l.getD (i + 1) 0, l.getD (i + 1) 0, ⟨l.getD i 0, n.turn, a, R, true⟩, iI w l (i + 1), O⟩ := by
        show iA w (seqC w _ (T + 1 + 1)) = _
        rw [e3, aLc rfl]
        simp only
        rw [if_neg hz2]
      rw [e4]
      have hfh : ltB sfr (iI w l (i + 1)) = true := by
        cases e : ltB sfr (iI w l (i + 1)) with
        | true => rfl
        | false => exact absurd ⟨g1, e⟩ hmv
      have hlh : ltB slo (iI w l (i + 1)) = true := by
        rcases h7 with e | ⟨_, e⟩
        · rw [← e]; exact hfh
        · exact kK e hfh
      have hOall : O = (allP w (l.take (i + 1))).filter (inR slo shi) := by
        have hlen := congrArg List.length hOr
        rw [List.length_take] at hlen
        rw [hOr]
        exact List.take_of_length_le (by omega)
      exact ⟨rfl, rfl, rfl, rfl, rfl, qR _, .inr ⟨rfl, hlh⟩, hOall, g2⟩
    · have e2 : nZ w S bnd high to = ⟨slo, shi, slim, 6, l.getD i 0, 0, ⟨l.getD i 0, n.turn, a, R, true⟩, sfr, O⟩ := by
        unfold nZ
        rw [if_neg hgo, hO, hS]
      refine ⟨T + 1 + 1 + 1, by omega, .inr ?_⟩
      have e3 : seqC w ⟨slo, shi, slim, 2, l.getD i 0, sto, ssk, sfr, sout⟩ (T + 1 + 1) = ⟨slo, shi, slim, 7, l.getD i 0, 0, ⟨l.getD i 0, n.turn, a, R, true⟩, sfr, O⟩ := by
        show iA w (seqC w _ (T + 1)) = _
        rw [e1, e2, aLb rfl]
      have e4 : seqC w ⟨slo, shi, slim, 2, l.getD i 0, sto, ssk, sfr, sout⟩ (T + 1 + 1 + 1) = ⟨slo, shi, slim, 8, l.getD i 0, 0, ⟨l.getD i 0, n.turn, a, R, true⟩, sfr, O⟩ := by
        show iA w (seqC w _ (T + 1 + 1)) = _
        rw [e3, aLc rfl]
        rfl
      rw [e4]
      refine ⟨rfl, ?_⟩
      show O = _
      unfold qD
      rw [hwhole, List.filter_append]
      by_cases hful : slim ≤ O.length
      · have hlen := congrArg List.length hOr
        rw [List.length_take] at hlen
        rw [List.take_append_of_le_length (by omega)]
        exact hOr
      · have hlast : (allP w (l.drop (i + 1))).filter (inR slo shi) = [] := by
          rw [List.filter_eq_nil_iff]
          intro x hx
          by_cases hc : i + 1 < l.length
          · rw [if_pos hc] at hhi
            have hbt : bnd = true := by rw [hbd]; exact decide_eq_true hc
            have h1 := behind h hx
            have h2 : ¬(shi = [] ∨ ltB (iI w l (i + 1)) shi = true) := fun hh => hgo (by
              rw [hO, hbt, hhi, hS]
              simp only [Bool.and_eq_true, Bool.or_eq_true, decide_eq_true_eq]
              exact ⟨⟨trivial, by omega⟩, hh⟩)
            have h3 : ltB x.key shi = false := by
              cases e : ltB x.key shi with
              | false => rfl
              | true =>
                exfalso
                have h4 : leB shi (iI w l (i + 1)) := by
                  unfold leB
                  cases e2 : ltB (iI w l (i + 1)) shi with
                  | false => rfl
                  | true => exact absurd (.inr e2) h2
                have h5 := nI h4 h1
                unfold leB at h5
                rw [e] at h5; cases h5
            unfold inR
            rw [h3, decide_eq_false fun hh => h2 (.inl hh)]; simp
          · rw [List.drop_of_length_le (by omega)] at hx
            cases hx
        rw [hlast, List.append_nil]
        exact hOr
end Lam
namespace Lam
open Go
theorem aGO {w l : List Int} {lo hi : bD} {limit : Int} (h : iL (eF w) w = some l) (hN : w.length / 16 ≤ 256) : ∀ (d i : Nat), i + d + 1 = l.length → ∀ (s : Sc), aGN w l lo hi limit i s → ∃ n, n ≤ 17 * (d + 1) ∧ (seqC w s n).phase = 8 ∧ (seqC w s n).out = qD (allP w l) lo hi limit
  | d, i, hd, s, hs => by
    obtain ⟨n, hn, h1 | h1⟩ := aLe h hN (show i < l.length by omega) hs
    · obtain ⟨q1, q2⟩ := h1
      cases d with
      | zero => omega
      | succ d =>
        obtain ⟨n2, g1, g2, g3⟩ := aGO h hN d (i + 1) (by omega) _ q2
        rw [← sM] at g2 g3
        exact ⟨n + n2, by omega, g2, g3⟩
    · exact ⟨n, by omega, h1.1, h1.2⟩
theorem aJA {w l : List Int} {lo hi : bD} {limit : Int} (h : iL (eF w) w = some l) (hN : w.length / 16 ≤ 256) (hl : mC w l lo 300 (w.getD 3 0) = true) (hlim : 1 ≤ limit) : ∀ N, 17 * l.length + w.length / 16 + 1 ≤ N → (seqC w (sc0 w lo hi limit) N).phase = 8 ∧ (seqC w (sc0 w lo hi limit) N).out = qD (allP w l) lo hi limit := by
  obtain ⟨p, c, hp, hnd, hno⟩ := aET _ _ hl
  have hpl : p.length ≤ w.length / 16 := aGr hnd fun x hx => by
    obtain ⟨n, hn⟩ := hno x hx
    obtain ⟨_, q0, q1, _⟩ := lQ hn
    exact ⟨q0, q1⟩
  have hroot : aBh w = w.getD 3 0 := by unfold aBh; rw [(rX h).2.2]; rfl
  have e1 := aEV (sc0 w lo hi limit) hp rfl hroot
  obtain ⟨i, hi2, hc, hlo⟩ := aGK h hp
  have hnone : (allP w (l.take i)).filter (inR lo hi) = [] := by
    rw [List.filter_eq_nil_iff]
    intro x hx
    have h1 := aSd h hi2 hx
    have h2 : ltB x.key lo = true := by
      cases e : ltB x.key lo with
      | true => rfl
      | false =>
        exfalso
        have h4 := nI (a := iI w l i) (b := lo) (c := x.key) hlo e
        unfold leB at h4
        rw [h1] at h4; cases h4
    unfold inR
    rw [h2]; simp
  obtain ⟨n, hn, hph, hout⟩ := aGO h hN (l.length - i - 1) i (by omega) { sc0 w lo hi limit with block := c, phase := 2 } ⟨rfl, hc, rfl, rfl, rfl, hlo, .inl rfl, hnone.symm, by show ((0 : Nat) : Int) < limit; omega⟩
  have e2 : seqC w (sc0 w lo hi limit) (p.length + 1 + n) = seqC w { sc0 w lo hi limit with block := c, phase := 2 } n := by rw [sM, e1]
  rw [← e2] at hph hout
  intro N hN2
  have hb : n ≤ 17 * l.length := Nat.le_trans hn (Nat.mul_le_mul_left 17 (by omega))
  have hst := aDA (w := w) (s := sc0 w lo hi limit) (a := p.length + 1 + n) (b := N) hph (by omega)
  rw [hst]
  exact ⟨hph, hout⟩
/-! ### What a scanner holds -/
def FewC (s : Sc) : Prop := FewS s.seek ∧ s.limit ≤ 100 ∧ s.out.length ≤ 100
theorem aMZ (w : List Int) (lo hi : bD) {limit : Int} (h : limit ≤ 100) : FewC (sc0 w lo hi limit) := ⟨aMX, h, Nat.zero_le _⟩
theorem aGP {w : List Int} {s : Sc} (h : FewC s) (bnd : Bool) (high : bD) (to : Int) : FewC (nZ w s bnd high to) := by
  obtain ⟨h1, h2, h3⟩ := h
  have ho : (sOut w s high bnd).length ≤ 100 := by
    unfold sOut
    rw [List.length_append, List.length_take]; omega
  unfold nZ
  split
  · exact ⟨h1, h2, ho⟩
  · exact ⟨h1, h2, ho⟩
theorem aLf {w : List Int} {s : Sc} (h : FewC s) : FewC (iA w s) := by
  obtain ⟨h1, h2, h3⟩ := h
  unfold iA
  split
  · unfold qL
    split
    · exact ⟨h1, h2, h3⟩
    · split
      · exact ⟨h1, h2, h3⟩
      · split <;> exact ⟨h1, h2, h3⟩
  split
  · unfold uO
    split
    · exact ⟨h1, h2, h3⟩
    · rename_i x hx; exact ⟨aKY hx, h2, h3⟩
  split
  · exact ⟨aMb h1, h2, h3⟩
  split
  · unfold lA
    split
    · exact ⟨h1, h2, h3⟩
    · split
      · exact aGP ⟨h1, h2, h3⟩ _ _ _
      · split
        · exact ⟨h1, h2, h3⟩
        · exact aGP ⟨h1, h2, h3⟩ _ _ _
  split
  · exact ⟨h1, h2, h3⟩
  split
  · exact ⟨h1, h2, h3⟩
  split
  · split <;> exact ⟨h1, h2, h3⟩
  · exact ⟨h1, h2, h3⟩
theorem aGQ {w : List Int} {s : Sc} (h : FewC s) : ∀ k, FewC (seqC w s k)
  | 0 => h
  | k + 1 => aLf (aGQ h k)
end Lam
namespace Lam
open Go Go.Proofs
def cF.loops : Nat → bW
 | 4 => ⟨[5], [false], [0, 1], [], [], []⟩
 | _ => ⟨[], [], [], [], [], []⟩
def cF.L1 (c : Ctx) (J1 : List AObj → Prop) (K : AOut → List AObj → Prop) (lv : List AV) (h0 : List AObj) (n0 : Nat) (c0 : AV) (c1 : AV) : Prop :=
 ∃ I : Nat → List AV → List AObj → Prop, (∃ n, I n lv h0) ∧ ∀ n h, ∀ t5, I n [t5] h →
 runD (lenD cJ h c0) h fun t13 h =>
 runD (binD aB .lss t5 t13) h fun t14 h =>
 aU t14
 (runD (aH cJ h c0 t5) h fun t19 h =>
 runD (fitD iR (aD h t19)) h fun t20 h =>
 runD (aH cJ h c1 t5) h fun t23 h =>
 runD (fitD iR (aD h t23)) h fun t24 h =>
 runD (binD iR .neq t20 t24) h fun t25 h =>
 aU t25
 (K (.ret (.bool false)) h)
 (runD (binD aB .add t5 (.int .i64 1)) h fun t16 h =>
 (∃ m, m < n ∧ I m (AV.norms n0 h [t16]) (cH n0 h)) ∧ AV.norms n0 h [c0, c1] = [c0, c1]))
 (J1 h)
def cF.H (c : Ctx) (t0 : AV) (t1 : AV) (h : List AObj) (K : AOut → List AObj → Prop) : Prop :=
 runD (lenD cJ h t0) h fun t7 h =>
 runD (lenD cJ h t1) h fun t9 h =>
 runD (binD aB .neq t7 t9) h fun t10 h =>
 aU t10
 (K (.ret (.bool false)) h)
 (aM (fun (J1 : List AObj → Prop) =>
 dC [false] [(.int .i64 0)] h fun lv h => cF.L1 c J1 K (AV.norms h.length h lv) (cH h.length h) h.length (AV.norm h.length h t0) (AV.norm h.length h t1))
 (fun h => K (.ret (.bool true)) h))
theorem cF.eq (F : List (FuncId × aE)) (S : List (FuncId × Con)) (t0 t1 : AV) (h : List AObj) (K : AOut → List AObj → Prop) : funW (ctx F S cF.loops) Tryz.f20 [t0, t1] h K = cF.H (ctx F S cF.loops) t0 t1 h K := by kernel_rfl
theorem cF.at : Tryz.prog.funcs[20]? = some Tryz.f20 := by kernel_rfl
theorem cF.nm : (Tryz.f20.name == "runtime.NumGoroutine") = false := by kernel_rfl
theorem cF.bd : Tryz.f20.body.isNone = false := by kernel_rfl
end Lam
namespace Lam
open Go Go.Proofs
def cF.C : aE
  | [.sl _ (.pairs a), .sl _ (.pairs b)] => some (false, pD (roomy a.length) (.bool (decide (a = b))))
  | _ => none
theorem cF.spec : bI Tryz.prog 20 cF.C := by
  refine bI.of (bQ (F := []) (S := []) (by simp) (by simp) cF.loops) cF.at cF.nm cF.bd ?_
  intro vs b S v news e hS
  unfold cF.C at e
  split at e
  rotate_left
  · cases e
  cases e
  rw [cF.eq]
  unfold cF.H
  simp (maxSteps := 4000000) only [go_sem, reduceEqDiff, Nat.reduceLT, reduceAdd, reduceSub, reduceLeDiff, reduceReplicate, reduceToNat]
  rename_i a _ b
  unfold roomy at hS
  refine ⟨fun hne => ?_, fun heq => ?_⟩
  · have : decide (a = b) = false := by rw [decide_eq_false_iff_not]; rintro rfl; exact hne rfl
    rw [this]; exact aG rfl rfl
  rw [aA]
  unfold cF.L1
  have hlen : a.length = b.length := by omega
  refine kT (fun k : Nat => .int .i64 k) (fun _ => []) (fun k => a.length - k) (fun k => k ≤ a.length ∧ ∀ i, i < k → a.getD i ⟨[], []⟩ = b.getD i ⟨[], []⟩) 0 rfl rfl ⟨Nat.zero_le _, fun i hi => absurd hi (Nat.not_lt_zero i)⟩ ?_
  rintro I back k ⟨hk, hall⟩
  simp only [go_sem, reduceEqDiff, Nat.reduceLT, reduceAdd, reduceSub, reduceLeDiff, reduceReplicate, reduceToNat]
  have hp : ∀ x y : jK, (decide (x.key = y.key) && decide (x.val = y.val)) = decide (x = y) := fun x y => by
    obtain ⟨x1, x2⟩ := x
    obtain ⟨y1, y2⟩ := y
    rw [Bool.eq_iff_iff]
    simp only [Bool.and_eq_true, decide_eq_true_eq, jK.mk.injEq]
  simp only [hp, decide_eq_true_eq, decide_eq_false_iff_not]
  refine ⟨fun hlt => ⟨by omega, by omega, fun h0 => ?_, fun h0 => ?_⟩, fun hge => ?_⟩
  · have : decide (a = b) = false := by rw [decide_eq_false_iff_not]; rintro rfl; exact h0 rfl
    rw [this]; exact aG rfl rfl
  · refine back (k + 1) (by omega) (by rw [eG (by omega)]) rfl ⟨by omega, fun i hi => ?_⟩
    by_cases e : i = k
    · subst e; exact h0
    · exact hall i (by omega)
  · rw [decide_eq_true (aMq ⟨[], []⟩ hlen fun i hi => hall i (by omega))]; exact aG rfl rfl
end Lam
namespace Lam
open Go Go.Proofs
def cR.loops : Nat → bW
 | 1 => ⟨[], [], [], [(4, none), (7, some [10, 17])], [], []⟩
 | _ => ⟨[], [], [], [], [], []⟩
def cR.H (c : Ctx) (t0 : AV) (t1 : AV) (t2 : AV) (h : List AObj) (K : AOut → List AObj → Prop) : Prop :=
 runD (binD bT .geq t0 t1) h fun t9 h =>
 aM (fun (J1 : AV → AV → List AObj → Prop) =>
 aX t9 true
 (runD (binD bT .eql t2 (.str [])) h fun t12 h =>
 aM (fun (J2 : AV → AV → List AObj → Prop) =>
 aX t12 false
 (runD (binD bT .lss t0 t2) h fun t16 h =>
 J2 (.bool false) t16 h)
 (J2 (.bool true) .und h))
 (fun t13 t16 h => runD (bO t13 (.bool true) t16) h fun t17 h =>
 J1 (.bool true) t17 h))
 (J1 (.bool false) .und h))
 (fun t10 t17 h => runD (bO t10 t17 (.bool false)) h fun t18 h =>
 K (.ret t18) h)
def cB.loops : Nat → bW
 | 3 => ⟨[9, 10], [true, false], [0, 1, 2, 3], [], [], []⟩
 | 5 => ⟨[], [], [], [(9, none), (4, some [25, 29])], [], []⟩
 | _ => ⟨[], [], [], [], [], []⟩
def cB.L1 (c : Ctx) (J1 : AV → List AObj → Prop) (K : AOut → List AObj → Prop) (lv : List AV) (h0 : List AObj) (n0 : Nat) (c0 : AV) (c1 : AV) (c2 : AV) (c3 : AV) : Prop :=
 ∃ I : Nat → List AV → List AObj → Prop, (∃ n, I n lv h0) ∧ ∀ n h, ∀ t9, ∀ t10, I n [t9, t10] h →
 runD (lenD cJ h c0) h fun t13 h =>
 runD (binD aB .lss t10 t13) h fun t14 h =>
 aU t14
 (runD (aH cJ h c0 t10) h fun t19 h =>
 runD (aC iR t19 0) h fun t20 h =>
 runD (fitD bT (aD h t20)) h fun t21 h =>
 aR false c (.fn (.func 21) [] []) [t21, c1, c2] h (fun t24 h =>
 aM (fun (J2 : AV → AV → List AObj → Prop) =>
 aX t24 true
 (runD (lenD cJ h t9) h fun t27 h =>
 runD (binD aB .lss t27 c3) h fun t29 h =>
 J2 (.bool true) t29 h)
 (J2 (.bool false) .und h))
 (fun t25 t29 h => runD (bO t25 t29 (.bool false)) h fun t30 h =>
 aM (fun (J3 : AV → List AObj → Prop) =>
 aU t30
 (runD (aH cJ h c0 t10) h fun t34 h =>
 runD (fitD iR (aD h t34)) h fun t35 h =>
 runD (eO cJ 1 [(0, t35)] h.length) h fun t36 h =>
 jM (fT cJ h t9 t36 h.length) (gH cJ h t9 t36) h fun t37 h =>
 J3 t37 h)
 (J3 t9 h))
 (fun t9 h => runD (binD aB .add t10 (.int .i64 1)) h fun t16 h =>
 (∃ m, m < n ∧ I m (AV.norms n0 h [t9, t16]) (cH n0 h)) ∧ AV.norms n0 h [c0, c1, c2, c3] = [c0, c1, c2, c3])))
 (fun v h => K (.pan v) h))
 (J1 t9 h)
def cB.H (c : Ctx) (t0 : AV) (t1 : AV) (t2 : AV) (t3 : AV) (h : List AObj) (K : AOut → List AObj → Prop) : Prop :=
 aM (fun (J1 : AV → List AObj → Prop) =>
 dC [true, false] [(.sl true (.pairs [])), (.int .i64 0)] h fun lv h => cB.L1 c J1 K (AV.norms h.length h lv) (cH h.length h) h.length (AV.norm h.length h t0) (AV.norm h.length h t1) (AV.norm h.length h t2) (AV.norm h.length h t3))
 (fun t9 h => K (.ret t9) h)
theorem cR.eq (F : List (FuncId × aE)) (S : List (FuncId × Con)) (t0 t1 t2 : AV) (h : List AObj) (K : AOut → List AObj → Prop) : funW (ctx F S cR.loops) Tryz.f21 [t0, t1, t2] h K = cR.H (ctx F S cR.loops) t0 t1 t2 h K := by kernel_rfl
theorem cB.eq (F : List (FuncId × aE)) (S : List (FuncId × Con)) (t0 t1 t2 t3 : AV) (h : List AObj) (K : AOut → List AObj → Prop) : funW (ctx F S cB.loops) Tryz.f30 [t0, t1, t2, t3] h K = cB.H (ctx F S cB.loops) t0 t1 t2 t3 h K := by kernel_rfl
theorem cR.at : Tryz.prog.funcs[21]? = some Tryz.f21 := by kernel_rfl
theorem cR.nm : (Tryz.f21.name == "runtime.NumGoroutine") = false := by kernel_rfl
theorem cR.bd : Tryz.f21.body.isNone = false := by kernel_rfl
theorem cB.at : Tryz.prog.funcs[30]? = some Tryz.f30 := by kernel_rfl
theorem cB.nm : (Tryz.f30.name == "runtime.NumGoroutine") = false := by kernel_rfl
theorem cB.bd : Tryz.f30.body.isNone = false := by kernel_rfl
end Lam
namespace Lam
open Go Go.Proofs
def cR.C : aE
  | [.str k, .str lo, .str hi] => some (false, pD True (.bool (!ltB k lo && (decide (hi = []) || ltB k hi))))
  | _ => none
theorem cR.spec : bI Tryz.prog 21 cR.C := by
  refine bI.of (bQ (F := []) (S := []) (by simp) (by simp) cR.loops) cR.at cR.nm cR.bd ?_
  intro vs b S v news e hS
  unfold cR.C at e
  split at e
  rotate_left
  · cases e
  cases e
  rw [cR.eq]
  unfold cR.H
  simp (maxSteps := 4000000) only [go_sem, reduceEqDiff, Nat.reduceLT, reduceAdd, reduceSub, reduceLeDiff, reduceReplicate, reduceToNat]
  rename_i k lo hi
  exact aG rfl rfl
def cB.C : aE
  | [.sl _ (.pairs l), .str lo, .str hi, .int .i64 limit] => some (false, pD (l.length ≤ 1000) (.sl false (.pairs (qD l lo hi limit))))
  | _ => none
theorem cB.spec : bI Tryz.prog 30 cB.C := by
  refine bI.of (bQ (F := [(21, cR.C)]) (S := []) (by simpa using cR.spec) (by simp) cB.loops) cB.at cB.nm cB.bd ?_
  intro vs b S v news e hS
  unfold cB.C at e
  split at e
  rotate_left
  · cases e
  cases e
  rw [cB.eq]
  unfold cB.H
  simp (maxSteps := 4000000) only [go_sem, reduceEqDiff, Nat.reduceLT, reduceAdd, reduceSub, reduceLeDiff, reduceReplicate, reduceToNat, cR.C]
  rename_i l lo hi limit
  rw [aA]
  unfold cB.L1
  refine oI (σ := Nat × Nat) (fun s => .sref false 0 s.2 0 (((l.take s.1).filter (inR lo hi)).take limit.toNat).length) (fun s => .int .i64 s.1) (fun s => [.row .own s.2 (.pairs (((l.take s.1).filter (inR lo hi)).take limit.toNat))]) (fun s => l.length - s.1) (fun s => s.1 ≤ l.length) (0, 0) (by simp) (by simp) (Nat.zero_le _) ?_
  rintro I back ⟨k, v⟩ hk
  simp only at hk ⊢
  by_cases hkl : k < l.length
  · have hb : ∀ v2 n lv1 lv h, _ := fun v2 n lv1 lv h => @back n (lv1 :: lv) h (k + 1, v2)
    clear back
    have d1 : decide ((k : Int) < (l.length : Int)) = true := decide_eq_true (by omega)
    have hlen : (((l.take k).filter (inR lo hi)).take limit.toNat).length ≤ 1000 := by
      rw [List.length_take]
      have := List.length_filter_le (inR lo hi) (l.take k)
      rw [List.length_take] at this
      omega
    have hnx : (l.take (k + 1)).filter (inR lo hi) = (l.take k).filter (inR lo hi) ++ if inR lo hi (l.getD k ⟨[], []⟩) = true then [l.getD k ⟨[], []⟩] else [] := by
      rw [gP l k ⟨[], []⟩ hkl, List.filter_append, List.filter_cons, List.filter_nil]
    have hin : inR lo hi (l.getD k ⟨[], []⟩) = (!ltB (l.getD k ⟨[], []⟩).key lo && (decide (hi = []) || ltB (l.getD k ⟨[], []⟩).key hi)) := rfl
    have hstep : ((l.take (k + 1)).filter (inR lo hi)).take limit.toNat = if (inR lo hi (l.getD k ⟨[], []⟩) && decide (((((l.take k).filter (inR lo hi)).take limit.toNat).length : Int) < limit)) = true then ((l.take k).filter (inR lo hi)).take limit.toNat ++ [l.getD k ⟨[], []⟩] else ((l.take k).filter (inR lo hi)).take limit.toNat := by
      rw [hnx]
      generalize (l.take k).filter (inR lo hi) = F
      cases hx : inR lo hi (l.getD k ⟨[], []⟩) with
      | false =>
        rw [if_neg (by decide), List.append_nil, Bool.false_and, if_neg (by decide)]
      | true =>
        rw [if_pos rfl, Bool.true_and]
        by_cases hc : ((F.take limit.toNat).length : Int) < limit
        · rw [if_pos (decide_eq_true hc)]
          rw [List.length_take] at hc
          have h1 : F.length < limit.toNat := by omega
          rw [List.take_of_length_le (l := F ++ [l.getD k ⟨[], []⟩]) (by rw [List.length_append, List.length_singleton]; omega), List.take_of_length_le (l := F) (by omega)]
        · rw [if_neg (by rw [decide_eq_false hc]; decide)]
          rw [List.length_take] at hc
          rw [List.take_append_of_le_length (by omega)]
    rw [hin] at hstep
    simp only [hstep] at hb
    clear hstep hnx hin
    generalize ((l.take k).filter (inR lo hi)).take limit.toNat = O at *
    have hro : roomy (O ++ [l.getD k ⟨[], []⟩]).length := by
      unfold roomy; rw [List.length_append, List.length_singleton]; omega
    simp only [cR.C, d1, Int.toNat_natCast, aA, eG (show k < 4611686018427387904 by omega), aA, gq, reduceEq, reduceLT, reduceLE, implies_true, reduceCtorEq, if_true, if_false, go_sem, reduceEqDiff, Nat.reduceLT, reduceAdd, reduceSub, reduceLeDiff, reduceReplicate, reduceToNat]
    refine ⟨⟨by omega, by omega⟩, ?_⟩
    have het : (⟨(l.getD k ⟨[], []⟩).key, (l.getD k ⟨[], []⟩).val⟩ : jK) = l.getD k ⟨[], []⟩ := rfl
    rw [het]
    generalize (!ltB (l.getD k ⟨[], []⟩).key lo && (decide (hi = []) || ltB (l.getD k ⟨[], []⟩).key hi)) = c at *
    cases c with
    | false =>
      simp only [Bool.false_and, Bool.false_eq_true, if_false] at hb
      simp only [yS]
      exact hb v _ _ _ _ (by omega) rfl rfl (by omega)
    | true =>
      simp only [yQ]
      refine ⟨fun hc => ⟨⟨by omega, by omega⟩, hro, ?_⟩, fun hc => ?_⟩
      · simp only [Bool.true_and, decide_eq_true hc, if_true] at hb
        exact hb (v + 1) _ _ _ _ (by omega) rfl rfl (by omega)
      · simp only [Bool.true_and, decide_eq_false hc, Bool.false_eq_true, if_false] at hb
        exact hb v _ _ _ _ (by omega) rfl rfl (by omega)
  · obtain rfl : k = l.length := by omega
    have d1 : decide ((l.length : Int) < (l.length : Int)) = false := decide_eq_false (by omega)
    clear back
    rw [List.take_length]
    simp only [d1, aA, aA, gq, reduceEq, reduceLT, reduceLE, implies_true, reduceCtorEq, if_true, if_false, go_sem, reduceEqDiff, Nat.reduceLT, reduceAdd, reduceSub, reduceLeDiff, reduceReplicate, reduceToNat]
    refine aG ?_ rfl
    unfold qD
    simp only [go_sem, reduceEqDiff, Nat.reduceLT, reduceAdd, reduceSub, reduceLeDiff, reduceReplicate, reduceToNat]
end Lam
namespace Lam
open Go Go.Proofs
theorem aLg {w : List Int} (hw : w.length ≤ 1000) (hi : i64s w) (s : Sc) (h : FewC s) : (lW w w [] ∧ iG w ∧ s.seek.refs.length ≤ 200 ∧ s.out.length ≤ 1000) ∧ nV ⟨w, w, []⟩ s = (⟨w, w, []⟩, iA w s) :=
  ⟨⟨⟨by unfold roomy; omega, by unfold roomy; omega, by unfold roomy; decide⟩, ⟨by omega, hi⟩, Nat.le_trans h.1.1 (by decide), Nat.le_trans h.2.2 (by decide)⟩, aHH w s⟩
theorem aLh (L : List jK) (lo hi : bD) (limit : Int) : (qD L lo hi limit).length ≤ L.length := by
  unfold qD
  rw [List.length_take]
  have := List.length_filter_le (inR lo hi) L
  omega
end Lam
namespace Lam
open Go Go.Proofs
def dO.loops : Nat → bW
 | 2 => ⟨[], [], [], [(4, none), (4, some [23, 27]), (2, none), (3, some [29, 32]), (2, none), (3, some [34, 37])], [], []⟩
 | 6 => ⟨[], [], [], [(3, none), (2, some [55, 57]), (2, none), (4, some [59, 63])], [], []⟩
 | 11 => ⟨[18], [false], [0, 1, 2, 3, 9, 10, 12, 14, 16], [(11, none), (3, some [86, 89])], [], []⟩
 | _ => ⟨[], [], [], [], [], []⟩
def dO.L1 (c : Ctx) (J6 : AV → AV → AV → AV → AV → AV → AV → AV → List AObj → Prop) (K : AOut → List AObj → Prop) (lv : List AV) (h0 : List AObj) (n0 : Nat) (c0 : AV) (c1 : AV) (c2 : AV) (c3 : AV) (c9 : AV) (c10 : AV) (c12 : AV) (c14 : AV) (c16 : AV) : Prop :=
 ∃ I : Nat → List AV → List AObj → Prop, (∃ n, I n lv h0) ∧ ∀ n h, ∀ t18, I n [t18] h →
 runD (lenD aK h c14) h fun t78 h =>
 runD (binD aB .mul (.int .i64 20) t78) h fun t79 h =>
 runD (binD aB .add t79 (.int .i64 20)) h fun t80 h =>
 runD (lenD aK h c0) h fun t82 h =>
 runD (binD aB .quo t82 (.int .i64 16)) h fun t83 h =>
 runD (binD aB .add t80 t83) h fun t84 h =>
 runD (binD aB .lss t18 t84) h fun t85 h =>
 aM (fun (J7 : AV → AV → List AObj → Prop) =>
 aX t85 true
 (runD (aC aJ c12 3) h fun t87 h =>
 runD (fitD aB (aD h t87)) h fun t88 h =>
 runD (binD aB .neq t88 (.int .i64 8)) h fun t89 h =>
 J7 (.bool true) t89 h)
 (J7 (.bool false) .und h))
 (fun t86 t89 h => runD (bO t86 t89 (.bool false)) h fun t90 h =>
 aU t90
 (runD (fitD aN (aD h c16)) h fun t94 h =>
 runD (fitD aJ (aD h c12)) h fun t95 h =>
 aR false c (.fn (.func 19) [] []) [t94, t95] h (fun t96 h =>
 runD (aW t96 0) h fun t97 h =>
 runD (aW t96 1) h fun t98 h =>
 runH (aP aN h c16 t97) h fun _ h =>
 runH (aP aJ h c12 t98) h fun _ h =>
 runD (binD aB .add t18 (.int .i64 1)) h fun t92 h =>
 (∃ m, m < n ∧ I m (AV.norms n0 h [t92]) (cH n0 h)) ∧ AV.norms n0 h [c0, c1, c2, c3, c9, c10, c12, c14, c16] = [c0, c1, c2, c3, c9, c10, c12, c14, c16])
 (fun v h => K (.pan v) h))
 (J6 c0 c1 c2 c3 c9 c10 c12 c16 h))
def dO.H (c : Ctx) (t0 : AV) (t1 : AV) (t2 : AV) (t3 : AV) (h : List AObj) (K : AOut → List AObj → Prop) : Prop :=
 aR false c (.fn (.func 17) [] []) [] h (fun t19 h =>
 runD (lenD aK h t0) h fun t21 h =>
 runD (binD aB .gtr t21 (.int .i64 1000)) h fun t22 h =>
 aM (fun (J1 : AV → AV → List AObj → Prop) =>
 aX t22 false
 (runD (lenD aK h t0) h fun t25 h =>
 runD (binD aB .rem t25 (.int .i64 16)) h fun t26 h =>
 runD (binD aB .neq t26 (.int .i64 0)) h fun t27 h =>
 J1 (.bool false) t27 h)
 (J1 (.bool true) .und h))
 (fun t23 t27 h => runD (bO t23 (.bool true) t27) h fun t28 h =>
 aM (fun (J2 : AV → AV → List AObj → Prop) =>
 aX t28 false
 (runD (lenD bT h t1) h fun t31 h =>
 runD (binD aB .gtr t31 (.int .i64 100)) h fun t32 h =>
 J2 (.bool false) t32 h)
 (J2 (.bool true) .und h))
 (fun t29 t32 h => runD (bO t29 (.bool true) t32) h fun t33 h =>
 aM (fun (J3 : AV → AV → List AObj → Prop) =>
 aX t33 false
 (runD (lenD bT h t2) h fun t36 h =>
 runD (binD aB .gtr t36 (.int .i64 100)) h fun t37 h =>
 J3 (.bool false) t37 h)
 (J3 (.bool true) .und h))
 (fun t34 t37 h => runD (bO t34 (.bool true) t37) h fun t38 h =>
 aU t38
 (K (.ret t19) h)
 (aR false c (.fn (.func 26) [] []) [t0] h (fun t42 h =>
 runD (aW t42 0) h fun t43 h =>
 runD (aW t42 1) h fun t44 h =>
 aR false c (.fn (.func 18) [] []) [t0, t1, t2, t3] h (fun t50 h =>
 runD (aW t50 0) h fun t51 h =>
 runD (aW t50 1) h fun t52 h =>
 cQ aJ h fun t12 h =>
 runH (aP aJ h t12 t51) h fun _ h =>
 runD (binD cN .neq t44 (.int .i64 0)) h fun t54 h =>
 aM (fun (J4 : AV → AV → List AObj → Prop) =>
 aX t54 false
 (runD (binD cN .neq t52 (.int .i64 0)) h fun t57 h =>
 J4 (.bool false) t57 h)
 (J4 (.bool true) .und h))
 (fun t55 t57 h => runD (bO t55 (.bool true) t57) h fun t58 h =>
 aM (fun (J5 : AV → AV → List AObj → Prop) =>
 aX t58 false
 (aR false c (.fn (.func 23) [] []) [t0, t1] h (fun t62 h =>
 runD (binD aB .eql t62 (.int .i64 0)) h fun t63 h =>
 J5 (.bool false) t63 h)
 (fun v h => K (.pan v) h))
 (J5 (.bool true) .und h))
 (fun t59 t63 h => runD (bO t59 (.bool true) t63) h fun t64 h =>
 aU t64
 (K (.ret t19) h)
 (aR false c (.fn (.func 24) [] []) [t0] h (fun t68 h =>
 runD (aW t68 0) h fun t69 h =>
 runD (aW t68 1) h fun t70 h =>
 aR false c (.fn (.func 28) [] []) [t0] h (fun t73 h =>
 runD (aW t73 0) h fun t74 h =>
 runD (aW t73 1) h fun t75 h =>
 cQ aN h fun t16 h =>
 runH (aP aN h t16 t74) h fun _ h =>
 aM (fun (J6 : AV → AV → AV → AV → AV → AV → AV → AV → List AObj → Prop) =>
 dC [false] [(.int .i64 0)] h fun lv h => dO.L1 c J6 K (AV.norms h.length h lv) (cH h.length h) h.length (AV.norm h.length h t0) (AV.norm h.length h t1) (AV.norm h.length h t2) (AV.norm h.length h t3) (AV.norm h.length h t19) (AV.norm h.length h t43) (AV.norm h.length h t12) (AV.norm h.length h t69) (AV.norm h.length h t16))
 (fun t0 t1 t2 t3 t9 t10 t12 t16 h => aM (fun (J8 : AV → AV → List AObj → Prop) =>
 aX t9 true
 (runD (aC aJ t12 3) h fun t101 h =>
 runD (fitD aB (aD h t101)) h fun t102 h =>
 runD (binD aB .eql t102 (.int .i64 8)) h fun t103 h =>
 J8 (.bool true) t103 h)
 (J8 (.bool false) .und h))
 (fun t100 t103 h => runD (bO t100 t103 (.bool false)) h fun t104 h =>
 aM (fun (J9 : AV → AV → List AObj → Prop) =>
 aX t104 true
 (runD (aC aJ t12 8) h fun t106 h =>
 runD (fitD cJ (aD h t106)) h fun t107 h =>
 aR false c.noS (.fn (.func 30) [] []) [t10, t1, t2, t3] h (fun t112 h =>
 aR false c.noS (.fn (.func 20) [] []) [t107, t112] h (fun t113 h =>
 J9 (.bool true) t113 h)
 (fun _ _ => False))
 (fun _ _ => False))
 (J9 (.bool false) .und h))
 (fun t105 t113 h => runD (bO t105 t113 (.bool false)) h fun t114 h =>
 aM (fun (J10 : AV → AV → List AObj → Prop) =>
 aX t114 true
 (runD (aC aN t16 0) h fun t116 h =>
 runD (fitD aK (aD h t116)) h fun t117 h =>
 aR false c.noS (.fn (.func 15) [] []) [t117, t0] h (fun t119 h =>
 J10 (.bool true) t119 h)
 (fun _ _ => False))
 (J10 (.bool false) .und h))
 (fun t115 t119 h => runD (bO t115 t119 (.bool false)) h fun t120 h =>
 K (.ret t120) h)))))
 (fun v h => K (.pan v) h))
 (fun v h => K (.pan v) h)))))
 (fun v h => K (.pan v) h))
 (fun v h => K (.pan v) h))))))
 (fun v h => K (.pan v) h)
theorem dO.eq (F : List (FuncId × aE)) (S : List (FuncId × Con)) (t0 t1 t2 t3 : AV) (h : List AObj) (K : AOut → List AObj → Prop) : funW (ctx F S dO.loops) Tryz.f8 [t0, t1, t2, t3] h K = dO.H (ctx F S dO.loops) t0 t1 t2 t3 h K := by kernel_rfl
end Lam
namespace Lam
open Go Go.Proofs
abbrev qM : Ctx := ctx [(17, cK.C), (26, fE.C), (18, eU.C), (23, cD.C), (24, dP.C), (28, gN.C), (19, fJ.C), (30, cB.C), (20, cF.C), (15, bY.C)] [] dO.loops
set_option maxHeartbeats 1000000 in
theorem aGR (words : List Int) (lo : bD) (hi : bD) (limit : Int) (w_words : wfL (.ints .i64 words)) (n_words : words.length ≤ maxLen) (w_limit : (Lit.int .i64 limit).wf = true) : dO.H qM (.sl false (.ints .i64 words)) (.str lo) (.str hi) (.int .i64 limit) [] Told := by
  unfold dO.H
  simp (maxSteps := 4000000) only [go_sem, reduceEqDiff, Nat.reduceLT, reduceAdd, reduceSub, reduceLeDiff, reduceReplicate, reduceToNat, cK.C, fE.C, eU.C, cD.C, dP.C, gN.C, fJ.C, cB.C, cF.C, bY.C]
  have hi64 := aMQ w_words
  have hs : ¬ 1000 < (words.length : Int) → iG words := fun h => ⟨by omega, hi64⟩
  refine ⟨fun _ => by decide, fun _ => rfl, fun hg => ?_⟩
  simp only [Bool.or_eq_false_iff, decide_eq_false_iff_not, Bool.not_eq_false', decide_eq_true_eq] at hg
  obtain ⟨⟨⟨g1, g2⟩, g3⟩, g4⟩ := hg
  have hS := hs g1
  have hw : words.length ≤ 1000 := by omega
  have h16 : words.length % 16 = 0 := by rw [Int.tmod_eq_emod_of_nonneg (by omega)] at g2; omega
  have hr := iG.roomy hS
  refine ⟨hS, ?_⟩
  cases hl : iL (eF words) words with
  | none =>
    have hp : xZ words = .tup [.sl false (.pairs []), .int .i64 110] := by unfold xZ; rw [hl]
    obtain ⟨r, eb, hbg⟩ : ∃ r e, iY words lo hi limit = .tup [Sc.V r, .int .i64 e] := by
      unfold iY
      split
      · exact ⟨_, _, rfl⟩
      · split
        · exact ⟨_, _, rfl⟩
        · exact ⟨_, _, rfl⟩
    obtain ⟨r1, r2, r3, r4, r5, r6, ⟨s1, s2, s3, s4, s5⟩, r7, r8⟩ := r
    simp only [hp, hbg, Sc.V, Sk.V, decide_false, decide_true, aA, aA, gq, reduceEq, reduceLT, reduceLE, implies_true, reduceCtorEq, if_true, if_false, go_sem, reduceEqDiff, Nat.reduceLT, reduceAdd, reduceSub, reduceLeDiff, reduceReplicate, reduceToNat]
    exact ⟨hr, rfl⟩
  | some l =>
  have hp : xZ words = .tup [.sl false (.pairs (allP words l)), .int .i64 0] := by unfold xZ; rw [hl]
  by_cases hk : ¬(21 < lo.length ∨ 21 < hi.length) ∧ ¬(limit < 1 ∨ 100 < limit)
  rotate_left
  · obtain ⟨eb, he, hbg⟩ : ∃ e, e ≠ 0 ∧ iY words lo hi limit = .tup [scZ.V, .int .i64 e] := by
      unfold iY
      by_cases h1 : 21 < lo.length ∨ 21 < hi.length
      · rw [if_pos h1]; exact ⟨20, by decide, rfl⟩
      · rw [if_neg h1, if_pos (Classical.not_not.1 fun h2 => hk ⟨h1, h2⟩)]; exact ⟨1, by decide, rfl⟩
    simp only [hp, hbg, he, scZ, Sc.V, skZ, Sk.V, decide_false, decide_true, aA, aA, gq, reduceEq, reduceLT, reduceLE, implies_true, reduceCtorEq, if_true, if_false, go_sem, reduceEqDiff, Nat.reduceLT, reduceAdd, reduceSub, reduceLeDiff, reduceReplicate, reduceToNat]
    exact ⟨hr, rfl⟩
  have hbg : iY words lo hi limit = .tup [(sc0 words lo hi limit).V, .int .i64 0] := by unfold iY; rw [if_neg hk.1, if_neg hk.2]
  have hfew : FewC (sc0 words lo hi limit) := aMZ _ _ _ (by omega)
  obtain ⟨hch, hlv, hrd⟩ := rX hl
  have hleaves : nE words = .tup [.sl false (.ints .i64 l), .int .i64 0] := by unfold nE; rw [hch]
  have hll := (oE hch).2.2.2.1
  have hal := aCm words l
  have hfound : yA words lo ≠ 0 → ∀ N, 17 * l.length + words.length / 16 + 1 ≤ N → (seqC words (sc0 words lo hi limit) N).phase = 8 ∧ (seqC words (sc0 words lo hi limit) N).out = qD (allP words l) lo hi limit := fun h => aJA hl (by omega) (aJw hl h) (by omega)
  have hst : ∀ k, _ := fun k => aLg hw hi64 _ (aGQ (w := words) hfew k)
  have hnx : ∀ k, iA words (seqC words (sc0 words lo hi limit) k) = seqC words (sc0 words lo hi limit) (k + 1) := fun _ => rfl
  have hend : ∀ k N, k ≤ N → (seqC words (sc0 words lo hi limit) k).phase = 8 → seqC words (sc0 words lo hi limit) N = seqC words (sc0 words lo hi limit) k := fun k N hk h => aDA h hk
  have h0 : seqC words (sc0 words lo hi limit) 0 = sc0 words lo hi limit := rfl
  have hnm := aMY hw h16
  generalize seqC words (sc0 words lo hi limit) = f at *
  generalize sc0 words lo hi limit = r0 at *
  have hrl := aLh (allP words l) lo hi limit
  generalize hRg : qD (allP words l) lo hi limit = Rg at *
  generalize allP words l = P at *
  obtain ⟨r1, r2, r3, r4, r5, r6, ⟨s1, s2, s3, s4, s5⟩, r7, r8⟩ := r0
  by_cases hz : yA words lo = 0
  · simp only [hp, hbg, hz, Sc.V, Sk.V, decide_false, decide_true, aA, aA, gq, reduceEq, reduceLT, reduceLE, implies_true, reduceCtorEq, if_true, if_false, go_sem, reduceEqDiff, Nat.reduceLT, reduceAdd, reduceSub, reduceLeDiff, reduceReplicate, reduceToNat]
    exact ⟨hr, hS, rfl⟩
  have hfound := hfound hz
  simp only [hp, hbg, hz, hleaves, hnm, memV, Sc.V, Sk.V, decide_false, decide_true, aA, aA, gq, reduceEq, reduceLT, reduceLE, implies_true, reduceCtorEq, if_true, if_false, go_sem, reduceEqDiff, Nat.reduceLT, reduceAdd, reduceSub, reduceLeDiff, reduceReplicate, reduceToNat]
  refine ⟨hr, hS, hS, hr, ?_⟩
  obtain ⟨N, hN⟩ : ∃ N : Nat, N = 20 * l.length + 20 + words.length / 16 := ⟨_, rfl⟩
  have hfound := hfound N (by omega)
  have hbd : IntKind.i64.wrap (IntKind.i64.wrap (IntKind.i64.wrap (20 * (l.length : Int)) + 20) + IntKind.i64.wrap ((words.length : Int).tdiv 16)) = (N : Int) := by
    rw [w64 (n := 20 * (l.length : Int)) (by omega) (by omega), w64 (n := 20 * (l.length : Int) + 20) (by omega) (by omega), aNI (by omega), w64 (by omega) (by omega)]
    omega
  have hP1 : P.length ≤ 1000 := by omega
  have hrR : roomy Rg.length := by unfold roomy; omega
  obtain ⟨Z, hZ⟩ : ∃ Z, f N = Z := ⟨_, rfl⟩
  have hend : ∀ k, k ≤ N → (f k).phase = 8 → Z = f k := fun k h1 h2 => hZ ▸ hend k N h1 h2
  rw [hZ] at hfound
  obtain ⟨z1, z2, z3, z4, z5, z6, ⟨v1, v2, v3, v4, v5⟩, z7, z8⟩ := Z
  simp only at hfound
  obtain ⟨rfl, rfl⟩ := hfound
  unfold dO.L1
  refine kT (σ := Nat) (fun k => .int .i64 k) (fun k => [.box (f k).V, .box (memV words words [])]) (fun k => N - k) (fun k => k ≤ N) 0 rfl (by rw [h0]; rfl) (Nat.zero_le _) ?_
  intro I back k hkN
  simp only
  obtain ⟨hst, hsv⟩ := hst k
  have hb : k < N → _ := fun h => @back (N - k) _ _ (k + 1) (by omega) rfl rfl (by omega)
  have hend := hend k hkN
  rw [hnx] at hsv
  clear back hnx
  by_cases hkn : k < N
  · have d1 : decide ((k : Int) < (N : Int)) = true := decide_eq_true (by omega)
    generalize f (k + 1) = y at *
    generalize f k = x at *
    obtain ⟨x1, x2, x3, x4, x5, x6, ⟨y1, y2, y3, y4, y5⟩, x7, x8⟩ := x
    simp only at hst hend
    by_cases h8 : x4 = 8
    · subst h8
      have hend := hend rfl
      clear hb hst hsv
      simp only [Sc.mk.injEq, Sk.mk.injEq] at hend
      obtain ⟨rfl, rfl, rfl, _, rfl, rfl, ⟨rfl, rfl, rfl, rfl, rfl⟩, rfl, rfl⟩ := hend
      simp only [cB.C, cF.C, hRg, bY.C, Sc.V, Sk.V, memV, hbd, d1, decide_false, decide_true, aA, aA, gq, reduceEq, reduceLT, reduceLE, implies_true, reduceCtorEq, if_true, if_false, go_sem, reduceEqDiff, Nat.reduceLT, reduceAdd, reduceSub, reduceLeDiff, reduceReplicate, reduceToNat]
      exact ⟨hP1, hrR, hr, rfl⟩
    · have hb := hb hkn
      obtain ⟨a1, a2, a3, a4, a5, a6, ⟨b1, b2, b3, b4, b5⟩, a7, a8⟩ := y
      simp only [fJ.C, hsv, Mm.V, Sc.V, Sk.V, memV, hbd, d1, h8, eG (show k < 4611686018427387904 by omega), decide_false, decide_true, aA, aA, gq, reduceEq, reduceLT, reduceLE, implies_true, reduceCtorEq, if_true, if_false, go_sem, reduceEqDiff, Nat.reduceLT, reduceAdd, reduceSub, reduceLeDiff, reduceReplicate, reduceToNat] at hb ⊢
      exact ⟨hst, hb⟩
  · obtain rfl : k = N := by omega
    have d1 : decide ((k : Int) < (k : Int)) = false := decide_eq_false (by omega)
    clear hb hend hst hsv
    rw [hZ]
    simp only [cB.C, cF.C, hRg, bY.C, Sc.V, Sk.V, memV, hbd, d1, decide_false, decide_true, aA, aA, gq, reduceEq, reduceLT, reduceLE, implies_true, reduceCtorEq, if_true, if_false, go_sem, reduceEqDiff, Nat.reduceLT, reduceAdd, reduceSub, reduceLeDiff, reduceReplicate, reduceToNat]
    exact ⟨hP1, hrR, hr, rfl⟩
theorem ScanAlone_ok : Ok Tryz.prog qM := bQ (by simpa using ⟨cK.spec, fE.spec, eU.spec, cD.spec, dP.spec, gN.spec, fJ.spec, cB.spec, cF.spec, bY.spec⟩) (by simp) _
theorem ScanAlone_law (words : Lst) (lo : bD) (hi : bD) (limit : Int) (k_words : words.kind = (.int .i64)) (w_words : wfL words) (n_words : words.len ≤ maxLen) (w_limit : (Lit.int .i64 limit).wf = true) : funW qM Tryz.f8 [(.sl false words), (.str lo), (.str hi), (.int .i64 limit)] [] Told := by
  obtain ⟨words, rfl⟩ := aIJ k_words
  rw [qM, dO.eq]
  exact aGR words lo hi limit w_words n_words w_limit
end Lam
