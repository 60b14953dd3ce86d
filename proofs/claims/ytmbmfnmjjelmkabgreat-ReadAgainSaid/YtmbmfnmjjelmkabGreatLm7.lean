/- What functions of the program come to, each proved from its code. -/
import Derived.Test.YtmbmfnmjjelmkabGreatLm6
set_option linter.unusedVariables false
set_option linter.unusedSimpArgs false
set_option linter.unnecessarySimpa false
set_option linter.unusedSectionVars false
open Nat (reduceEqDiff reduceAdd reduceSub reduceLeDiff)
open Int (reduceToNat reduceEq reduceLE reduceLT)
open List (reduceReplicate)
set_option maxRecDepth 20000
namespace Lam
open Go
def recZ (w : List Int) (s : Int) : Rc := (recO w s).getD ⟨0, [], [], 0⟩
def lowZ (w : List Int) (b : Int) : bD := ((dJ w b).bind (lowO w)).getD []
def nY (w : List Int) (b : Int) : Nd := (dJ w b).getD ⟨0, 0, 0, 0, []⟩
def ownB (w : List Int) (n : Nd) (x : Rc) : Bool := decide (n.next = 0) || ltB x.key (lowZ w n.next)
def ownL (w : List Int) (n : Nd) : List Rc := ((plain n.slots).map (recZ w)).takeWhile (ownB w n)
def nI (x : Rc) : oG := ⟨x.key, x.val⟩
def ownP (w : List Int) (b : Int) : List oG := (ownL w (nY w b)).map nI
def allP (w : List Int) (l : List Int) : List oG := l.flatMap (ownP w)
theorem aIj {α : Type} (p : α → Bool) (d : α) : ∀ (L : List α) (j : Nat), j ≤ L.length → (∀ i, i < j → p (L.getD i d) = true) → (j < L.length → p (L.getD j d) = false) → L.takeWhile p = L.take j
  | [], j, h, _, _ => by simp
  | a :: L, 0, _, _, h => by
    have := h (by simp)
    rw [List.takeWhile_cons, show p a = false from this]; rfl
  | a :: L, j + 1, h1, h2, h3 => by
    have h0 := h2 0 (by omega)
    rw [List.takeWhile_cons, show p a = true from h0, if_pos rfl, aIj p d L j (by simp at h1; omega) (fun i hi => h2 (i + 1) (by omega)) (fun hj => h3 (by simp; omega))]
    rfl
end Lam
namespace Lam
open Go
theorem aBF {w : List Int} {low : bD} : ∀ {l : List Int} {k : Nat} {last : bD}, lM w low l k last = true → ∀ s ∈ l, ∃ x, recO w s = some x ∧ x.kind = 1
  | [], _, _, _, s, hs => by cases hs
  | a :: r, k, last, h, s, hs => by
    simp only [lM] at h
    cases hx : recO w a with
    | none => rw [hx] at h; cases h
    | some x =>
      rw [hx] at h
      simp only [Bool.and_eq_true, decide_eq_true_eq] at h
      rcases List.mem_cons.1 hs with rfl | hs
      · exact ⟨x, hx, h.1.1.1⟩
      · exact aBF h.2 s hs
theorem aJy {w : List Int} {i : Nat} {last low : bD} {b : Int} (h : nD w i last b = some low) : ∃ n, dJ w b = some n ∧ lowO w n = some low ∧ lM w low (plain n.slots) 0 low = true := by
  unfold nD at h
  cases hn : dJ w b with
  | none => rw [hn] at h; cases h
  | some n =>
    rw [hn] at h
    simp only at h
    cases hw : lowO w n with
    | none => rw [hw] at h; cases h
    | some lo =>
      rw [hw] at h
      simp only at h
      split at h
      rotate_left
      · cases h
      rename_i hc
      cases h
      simp only [Bool.and_eq_true] at hc
      exact ⟨n, rfl, hw, hc.2⟩
end Lam
namespace Lam
open Go
theorem vX {w : List Int} {b : Int} {n : Nd} (h : dJ w b = some n) (hb : b < 256) : aDW w b n.slots := by
  obtain ⟨hok, h0, h1, hr⟩ := lR h
  have hw := (aDl hr).2
  have h13 := hok.2.2.2.2.2.2.1
  refine ⟨⟨h0, hb, h1⟩, h13, fun x hx => by have := hok.2.2.2.2.2.2.2 x hx; omega, fun k hk => ?_⟩
  have e1 : mW w b k = (kT w b.toNat).getD (k + 1 + 1 + 1) 0 := by
    unfold mW kT
    rw [aKx, if_pos (by omega), aKy]
    congr 1; omega
  rw [e1, ← hw]
  unfold gP
  rw [List.getD_cons_succ, List.getD_cons_succ, List.getD_cons_succ]
  rcases Nat.lt_or_ge k n.slots.length with h1 | h1
  · rw [List.getD_eq_getElem?_getD, List.getElem?_append_left h1, ← List.getD_eq_getElem?_getD]
  · rw [List.getD_eq_getElem?_getD, List.getElem?_append_right h1, List.getD_eq_getElem?_getD, List.getElem?_eq_none h1, List.getElem?_replicate]
    split <;> rfl
def aGI (w : List Int) (s : Sk) : Nat → Sk
  | 0 => s
  | k + 1 => kW w (aGI w s k)
def kY (b : Int) (n : Nd) (k : Nat) : Sk := if mE n.turn = true then yE b n.turn n.slots k else upAt b n.turn n.slots k
theorem qI {w : List Int} {b : Int} {n : Nd} (h : dJ w b = some n) (hb : b < 256) : ∀ k, aGI w (kY b n 0) k = kY b n k
  | 0 => rfl
  | k + 1 => by
    unfold aGI
    rw [qI h hb k]
    unfold kY
    cases hd : mE n.turn with
    | true => exact aKW (vX h hb) hd k
    | false => exact aNd (vX h hb) hd k
theorem aKX {b : Int} {n : Nd} (h13 : n.slots.length ≤ 13) : ∃ a R, kY b n 13 = ⟨b, n.turn, a, R, true⟩ ∧ (R = plain n.slots ∨ R = (plain n.slots).reverse) := by
  unfold kY
  by_cases hd : mE n.turn = true
  · rw [if_pos hd]
    exact ⟨_, _, rfl, .inr (aER _)⟩
  · rw [if_neg hd]
    unfold upAt
    rw [if_neg (by omega)]
    exact ⟨_, _, rfl, .inl rfl⟩
def recT (w : List Int) (s : Int) : RecT := rcT ((recO w s).getD kE)
theorem zD {w : List Int} {low : bD} : ∀ {l : List Int} {k : Nat} {last : bD}, lM w low l k last = true → (l.map (recT w)).Pairwise ltR ∧ (k ≠ 0 → ∀ s ∈ l, ltB last (recT w s).key = true)
  | [], _, _, _ => ⟨List.Pairwise.nil, fun _ s hs => by cases hs⟩
  | a :: r, k, last, h => by
    simp only [lM] at h
    cases hx : recO w a with
    | none => rw [hx] at h; cases h
    | some x =>
      rw [hx] at h
      simp only [Bool.and_eq_true, Bool.or_eq_true, decide_eq_true_eq] at h
      obtain ⟨⟨_, hk⟩, hr⟩ := h
      have ex : recT w a = rcT x := by unfold recT; rw [hx]; rfl
      obtain ⟨h1, h2⟩ := zD hr
      have h2 := h2 (by omega)
      have hstep : ∀ s ∈ r, ltB x.key (recT w s).key = true ∧ (ltB last x.key = true → ltB last (recT w s).key = true) := by
        intro s hs
        have := h2 s hs
        by_cases hl : ltB last x.key = true
        · rw [if_pos hl] at this
          exact ⟨this, fun h => lV h this⟩
        · rw [if_neg hl] at this
          have hle : leB x.key last := by unfold leB; simpa using hl
          refine ⟨?_, fun h => absurd h hl⟩
          rcases aBe x.key last with e | e | e
          · exact lV e this
          · rw [e]; exact this
          · exact absurd e hl
      refine ⟨?_, fun hk0 s hs => ?_⟩
      · rw [List.map_cons, List.pairwise_cons]
        refine ⟨fun y hy => ?_, h1⟩
        obtain ⟨s, hs, rfl⟩ := List.mem_map.1 hy
        unfold ltR
        rw [ex]
        exact (hstep s hs).1
      · have hlt : ltB last x.key = true := by rcases hk with h | h; exact absurd h hk0; exact h
        rcases List.mem_cons.1 hs with rfl | hs
        · rw [ex]; exact hlt
        · exact (hstep s hs).2 hlt
theorem aGJ {w : List Int} : ∀ {l : List Int} {out : List RecT}, (∀ s ∈ l, ∃ x, recO w s = some x) → ((out ++ l.map (recT w)).map (·.key)).Nodup → l.foldl (hitS w) out = out ++ l.map (recT w)
  | [], out, _, _ => by simp
  | a :: r, out, h, hn => by
    obtain ⟨x, hx⟩ := h a (by simp)
    have ex : recT w a = rcT x := by unfold recT; rw [hx]; rfl
    have hni : x.key ∉ out.map (·.key) := by
      intro hm
      rw [List.map_append, List.nodup_append] at hn
      refine hn.2.2 _ hm x.key ?_ rfl
      rw [List.map_map, List.map_cons, List.mem_cons]
      left
      show x.key = (recT w a).key
      rw [ex]; rfl
    have hs : hitS w out a = out ++ [recT w a] := by
      unfold hitS
      rw [hx]
      simp only [hni, if_false, ex]
    rw [List.foldl_cons, hs, aGJ (fun s hs => h s (by simp [hs])) (by simpa using hn)]
    simp
theorem aHI {l : List RecT} (h : l.Pairwise ltR) : (l.map (·.key)).Nodup := by
  unfold List.Nodup
  rw [List.pairwise_map]
  exact h.imp fun {a b} hab e => by unfold ltR at hab; rw [e, vT] at hab; cases hab
theorem aKY {w R L : List Int} (hrec : ∀ s ∈ L, ∃ x, recO w s = some x) (hr : (L.map (recT w)).Pairwise ltR) (hR : R = L ∨ R = L.reverse) : uT (jC w R) = L.map (recT w) := by
  have hp : (R.map (recT w)).Perm (L.map (recT w)) := by
    rcases hR with rfl | rfl
    · exact .refl _
    · exact (List.reverse_perm L).map _
  have hn : ((R.map (recT w)).map (·.key)).Nodup := (hp.map _).nodup_iff.2 (aHI hr)
  have e : jC w R = R.map (recT w) := by
    unfold jC
    rw [aGJ (fun s hs => hrec s (by rcases hR with rfl | rfl; exact hs; exact List.mem_reverse.1 hs)) (by simpa using hn)]
    simp
  rw [e]
  exact aCj (xA hn) hr ((sA _).trans hp)
theorem aBG {w l : List Int} {i : Nat} {last : bD} (hi : i < l.length) (h : lH w (l.drop i) i last = true) : ∃ low, nD w i last (l.getD i 0) = some low ∧ lH w (l.drop (i + 1)) (i + 1) low = true := by
  rw [wJ l i 0 hi] at h
  simp only [lH] at h
  split at h
  · cases h
  · rename_i low hl; exact ⟨low, hl, h⟩
theorem wQ {w : List Int} {i : Nat} {last : bD} {b : Int} {low : bD} (h : nD w i last b = some low) : (dJ w b).bind (lowO w) = some low ∧ ((i = 0 ∧ low = []) ∨ (0 < i ∧ ltB last low = true)) := by
  unfold nD at h
  cases hn : dJ w b with
  | none => rw [hn] at h; cases h
  | some n =>
    rw [hn] at h
    simp only at h
    cases hw : lowO w n with
    | none => rw [hw] at h; cases h
    | some lo =>
      rw [hw] at h
      simp only at h
      split at h
      rotate_left
      · cases h
      rename_i hc
      cases h
      refine ⟨hw, ?_⟩
      simp only [Bool.and_eq_true, Bool.or_eq_true, decide_eq_true_eq] at hc
      rcases hc.1 with ⟨h1, h2⟩ | ⟨h1, h2⟩
      · left
        unfold lowO at hw
        rw [if_pos h2] at hw
        cases hw
        exact ⟨h1, rfl⟩
      · exact .inr ⟨h1, h2⟩
theorem aNe (a : bD) : ltB a [] = false := by cases a <;> rfl
theorem pT {w l : List Int} (hl : iV (eL w) w = some l) : lA (eL w) w = some l ∧ lH w l 0 [] = true ∧ eL w = true := by
  unfold iV at hl
  split at hl
  · cases hl
  · rename_i l' hl'
    split at hl
    · rename_i hb; cases hl; exact ⟨hl', hb, (mX hl').1⟩
    · cases hl
def aFx (w : List Int) : Int → List Int → Prop
  | b, [] => b = 0
  | b, x :: r => b ≠ 0 ∧ x = b ∧ ∃ n, dJ w b = some n ∧ n.level = 0 ∧ aFx w n.next r
theorem aBH {w : List Int} : ∀ (m : Nat) (b : Int) (out l : List Int), tP w m b out = some l → ∃ r, l = out ++ r ∧ aFx w b r
  | 0, b, out, l, h => by cases h
  | m + 1, b, out, l, h => by
    simp only [tP] at h
    split at h
    · rename_i h0; cases h; exact ⟨[], by simp, h0⟩
    · rename_i h0
      cases hn : dJ w b with
      | none => rw [hn] at h; cases h
      | some n =>
        rw [hn] at h
        simp only at h
        split at h
        · rename_i hc
          obtain ⟨r, hr, hl⟩ := aBH m n.next (out ++ [b]) l h
          exact ⟨b :: r, by rw [hr]; simp, h0, rfl, n, hn, hc.1, hl⟩
        · cases h
theorem aGK {w : List Int} : ∀ {b : Int} {l : List Int}, aFx w b l → ∀ {i : Nat}, i < l.length → l.getD i 0 ≠ 0 ∧ ∃ n, dJ w (l.getD i 0) = some n ∧ n.level = 0 ∧ n.next = if i + 1 < l.length then l.getD (i + 1) 0 else 0
  | b, [], _, i, hi => absurd hi (Nat.not_lt_zero _)
  | b, x :: r, h, 0, hi => by
    obtain ⟨h0, rfl, n, hn, hl, hk⟩ := h
    refine ⟨h0, n, hn, hl, ?_⟩
    cases r with
    | nil => exact hk
    | cons y r' => exact hk.2.1.symm
  | b, x :: r, h, i + 1, hi => by
    obtain ⟨h0, rfl, n, hn, hl, hk⟩ := h
    obtain ⟨q0, n', q1, q2, q3⟩ := aGK hk (i := i) (by simpa using hi)
    refine ⟨q0, n', q1, q2, ?_⟩
    rw [q3]
    by_cases hc : i + 1 < r.length
    · rw [if_pos hc, if_pos (by simp; omega)]; rfl
    · rw [if_neg hc, if_neg (by simp; omega)]
theorem aIk {w : List Int} {b : Int} {low : bD} (h : (dJ w b).bind (lowO w) = some low) : lowZ w b = low := by unfold lowZ; rw [h]; rfl
theorem aIl {w l : List Int} (h : lH w l 0 [] = true) : ∀ i, i < l.length → ∃ last low, nD w i last (l.getD i 0) = some low ∧ lH w (l.drop (i + 1)) (i + 1) low = true ∧ (i = 0 → low = []) ∧ ∀ j, j < i → ltB (lowZ w (l.getD j 0)) low = true
  | 0, hi => by
    obtain ⟨low, h1, h2⟩ := aBG (last := []) hi (by rw [List.drop_zero]; exact h)
    refine ⟨[], low, h1, h2, fun _ => ?_, fun j hj => by omega⟩
    rcases (wQ h1).2 with h | h
    · exact h.2
    · omega
  | i + 1, hi => by
    obtain ⟨last, low, h1, h2, h3, h4⟩ := aIl h i (by omega)
    obtain ⟨low', q1, q2⟩ := aBG hi h2
    have hlt : ltB low low' = true := by
      rcases (wQ q1).2 with h | h
      · omega
      · exact h.2
    refine ⟨low, low', q1, q2, fun h => by omega, fun j hj => ?_⟩
    by_cases e : j = i
    · rw [e, aIk (wQ h1).1]; exact hlt
    · exact lV (h4 j (by omega)) hlt
theorem qW {w l : List Int} (h : iV (eL w) w = some l) {i : Nat} (hi : i < l.length) :
    l.getD i 0 ≠ 0 ∧ ∃ n, dJ w (l.getD i 0) = some n ∧ n.level = 0 ∧ n.next = (if i + 1 < l.length then l.getD (i + 1) 0 else 0) ∧ lowO w n = some (lowZ w (l.getD i 0)) ∧ lM w (lowZ w (l.getD i 0)) (plain n.slots) 0 (lowZ w (l.getD i 0)) = true ∧
      (i = 0 → lowZ w (l.getD i 0) = []) ∧ ∀ j, j < i → ltB (lowZ w (l.getD j 0)) (lowZ w (l.getD i 0)) = true := by
  obtain ⟨h1, h2, hrd⟩ := pT h
  have hlk : aFx w 1 l := by
    unfold lA at h1
    rw [if_pos hrd] at h1
    obtain ⟨r, hr, hl⟩ := aBH _ _ _ _ h1
    rw [List.nil_append] at hr
    rw [hr]; exact hl
  obtain ⟨q0, n, q1, q2, q3⟩ := aGK hlk hi
  obtain ⟨last, low, g1, _, g3, g4⟩ := aIl h2 i hi
  have hlow := aIk (wQ g1).1
  obtain ⟨n', r1, r2, r3⟩ := aJy g1
  rw [q1] at r1
  cases r1
  rw [hlow]
  exact ⟨q0, n, q1, q2, q3, r2, r3, g3, g4⟩
end Lam
namespace Lam
open Go Go.Proofs
def fM.loops : Nat → bU
 | 6 => ⟨[2, 21], [true, false], [0, 19, 20], [], [], []⟩
 | _ => ⟨[], [], [], [], [], []⟩
def fM.L1 (c : Ctx) (J1 : AV → List AObj → Prop) (K : AOut → List AObj → Prop) (lv : List AV) (h0 : List AObj) (n0 : Nat) (c0 : AV) (c19 : AV) (c20 : AV) : Prop :=
 ∃ I : Nat → List AV → List AObj → Prop, (∃ n, I n lv h0) ∧ ∀ n h, ∀ t2, ∀ t21, I n [t2, t21] h →
 runD (binD aB .lss t21 c20) h fun t22 h =>
 bE t22
 (runD (aG aK h c19 t21) h fun t23 h =>
 runD (fitD aB (aD h t23)) h fun t24 h =>
 aP false c (.fn (.func 52) [] []) [c0, t24] h (fun t28 h =>
 aP false c (.fn (.func 51) [] []) [t2, t28] h (fun t29 h =>
 runD (binD aB .add t21 (.int .i64 1)) h fun t30 h =>
 (∃ m, m < n ∧ I m (AV.norms n0 h [t29, t30]) (cJ n0 h)) ∧ AV.norms n0 h [c0, c19, c20] = [c0, c19, c20])
 (fun v h => K (.pan v) h))
 (fun v h => K (.pan v) h))
 (J1 t2 h)
def fM.H (c : Ctx) (t0 : AV) (h : List AObj) (K : AOut → List AObj → Prop) : Prop :=
 aP false c (.fn (.func 22) [] []) [t0] h (fun t10 h =>
 runD (binD cN .neq t10 (.int .i64 0)) h fun t12 h =>
 bE t12
 (K (.ret (.tup [(.sl true (.pairs [])), t10])) h)
 (aP false c (.fn (.func 24) [] []) [t0] h (fun t16 h =>
 runD (aW t16 0) h fun t17 h =>
 runD (aW t16 1) h fun t18 h =>
 runD (lenD aK h t17) h fun t20 h =>
 aL (fun (J1 : AV → List AObj → Prop) =>
 dM [true, false] [(.sl true (.pairs [])), (.int .i64 0)] h fun lv h => fM.L1 c J1 K (AV.norms h.length h lv) (cJ h.length h) h.length (AV.norm h.length h t0) (AV.norm h.length h t17) (AV.norm h.length h t20))
 (fun t2 h => K (.ret (.tup [t2, (.int .i64 0)])) h))
 (fun v h => K (.pan v) h)))
 (fun v h => K (.pan v) h)
def iG.loops : Nat → bU
 | _ => ⟨[], [], [], [], [], []⟩
def iG.H (c : Ctx) (t0 : AV) (t1 : AV) (h : List AObj) (K : AOut → List AObj → Prop) : Prop :=
 boxW aK t0 h fun t2 h =>
 boxW aB t1 h fun t3 h =>
 K (.ret (.fn (.func 84) [] [t2, t3])) h
def eM.loops : Nat → bU
 | 3 => ⟨[29], [false], [0, 1, 4, 6, 27, 28], [], [], []⟩
 | 6 => ⟨[], [], [], [(4, none), (4, some [42, 46]), (2, none), (8, some [48, 56])], [], []⟩
 | _ => ⟨[], [], [], [], [], []⟩
def eM.L1 (c : Ctx) (J1 : List AObj → Prop) (K : AOut → List AObj → Prop) (lv : List AV) (h0 : List AObj) (n0 : Nat) (c0 : AV) (c1 : AV) (c4 : AV) (c6 : AV) (c27 : AV) (c28 : AV) : Prop :=
 ∃ I : Nat → List AV → List AObj → Prop, (∃ n, I n lv h0) ∧ ∀ n h, ∀ t29, I n [t29] h →
 runD (binD aB .lss t29 c28) h fun t30 h =>
 bE t30
 (runD (aG aK h c27 t29) h fun t31 h =>
 runD (fitD aB (aD h t31)) h fun t32 h =>
 runD (fitD aK (aD h c1)) h fun t34 h =>
 aP false c (.fn (.func 79) [] []) [t34, t32] h (fun t36 h =>
 runD (aW t36 0) h fun t37 h =>
 runD (aW t36 1) h fun t38 h =>
 cS aJ h fun t10 h =>
 runH (aR aJ h t10 t37) h fun _ h =>
 runD (aC bA c4 2) h fun t39 h =>
 runD (fitD aB (aD h t39)) h fun t40 h =>
 runD (binD aB .neq t40 (.int .i64 0)) h fun t41 h =>
 aL (fun (J2 : AV → AV → List AObj → Prop) =>
 bF t41 true
 (runD (aC aJ t10 1) h fun t43 h =>
 runD (fitD cE (aD h t43)) h fun t44 h =>
 runD (binD cE .geq t44 c6) h fun t46 h =>
 J2 (.bool true) t46 h)
 (J2 (.bool false) .und h))
 (fun t42 t46 h => runD (bT t42 t46 (.bool false)) h fun t47 h =>
 aL (fun (J3 : AV → AV → List AObj → Prop) =>
 bF t47 false
 (runD (aC aJ t10 1) h fun t50 h =>
 runD (fitD cE (aD h t50)) h fun t51 h =>
 runD (aC aJ t10 2) h fun t52 h =>
 runD (fitD cE (aD h t52)) h fun t53 h =>
 runD (gY lT [(0, t51), (1, t53)]) h fun t54 h =>
 aP false c c0 [t54] h (fun t55 h =>
 runD (unD .not t55) h fun t56 h =>
 J3 (.bool false) t56 h)
 (fun v h => K (.pan v) h))
 (J3 (.bool true) .und h))
 (fun t48 t56 h => runD (bT t48 (.bool true) t56) h fun t57 h =>
 bE t57
 (K (.ret (.tup [])) h)
 (runD (binD aB .add t29 (.int .i64 1)) h fun t58 h =>
 (∃ m, m < n ∧ I m (AV.norms n0 h [t58]) (cJ n0 h)) ∧ AV.norms n0 h [c0, c1, c4, c6, c27, c28] = [c0, c1, c4, c6, c27, c28]))))
 (fun v h => K (.pan v) h))
 (J1 h)
def eM.H (c : Ctx) (t0 : AV) (t1 : AV) (t2 : AV) (h : List AObj) (K : AOut → List AObj → Prop) : Prop :=
 runD (fitD aK (aD h t1)) h fun t13 h =>
 runD (fitD aB (aD h t2)) h fun t14 h =>
 aP false c (.fn (.func 46) [] []) [t13, t14] h (fun t15 h =>
 runD (aW t15 0) h fun t16 h =>
 runD (aW t15 1) h fun t17 h =>
 cS bA h fun t4 h =>
 runH (aR bA h t4 t16) h fun _ h =>
 runD (fitD aK (aD h t1)) h fun t19 h =>
 runD (aC bA t4 2) h fun t20 h =>
 runD (fitD aB (aD h t20)) h fun t21 h =>
 aP false c (.fn (.func 47) [] []) [t19, t21] h (fun t22 h =>
 runD (aW t22 0) h fun t23 h =>
 runD (aW t22 1) h fun t24 h =>
 runD (aC bA t4 4) h fun t25 h =>
 runD (fitD aK (aD h t25)) h fun t26 h =>
 aP false c (.fn (.func 78) [] []) [t26] h (fun t27 h =>
 runD (lenD aK h t27) h fun t28 h =>
 aL (fun (J1 : List AObj → Prop) =>
 dM [false] [(.int .i64 0)] h fun lv h => eM.L1 c J1 K (AV.norms h.length h lv) (cJ h.length h) h.length (AV.norm h.length h t0) (AV.norm h.length h t1) (AV.norm h.length h t4) (AV.norm h.length h t23) (AV.norm h.length h t27) (AV.norm h.length h t28))
 (fun h => K (.ret (.tup [])) h))
 (fun v h => K (.pan v) h))
 (fun v h => K (.pan v) h))
 (fun v h => K (.pan v) h)
theorem fM.eq (F : List (FuncId × aE)) (S : List (FuncId × Con)) (t0 : AV) (h : List AObj) (K : AOut → List AObj → Prop) : funW (ctx F S fM.loops) Tryz.f26 [t0] h K = fM.H (ctx F S fM.loops) t0 h K := by kernel_rfl
theorem iG.eq (F : List (FuncId × aE)) (S : List (FuncId × Con)) (t0 t1 : AV) (h : List AObj) (K : AOut → List AObj → Prop) : funW (ctx F S iG.loops) Tryz.f52 [t0, t1] h K = iG.H (ctx F S iG.loops) t0 t1 h K := by kernel_rfl
theorem eM.eq (F : List (FuncId × aE)) (S : List (FuncId × Con)) (l : Nat) (Y : Con) (t0 t1 t2 : AV) (h : List AObj) (K : AOut → List AObj → Prop) : funW ((ctx F S eM.loops).withY l Y) Tryz.f84 [t0, t1, t2] h K = eM.H ((ctx F S eM.loops).withY l Y) t0 t1 t2 h K := by kernel_rfl
theorem fM.at : Tryz.prog.funcs[26]? = some Tryz.f26 := by kernel_rfl
theorem fM.nm : (Tryz.f26.name == "runtime.NumGoroutine") = false := by kernel_rfl
theorem fM.bd : Tryz.f26.body.isNone = false := by kernel_rfl
theorem iG.at : Tryz.prog.funcs[52]? = some Tryz.f52 := by kernel_rfl
theorem iG.nm : (Tryz.f52.name == "runtime.NumGoroutine") = false := by kernel_rfl
theorem iG.bd : Tryz.f52.body.isNone = false := by kernel_rfl
theorem eM.at : Tryz.prog.funcs[84]? = some Tryz.f84 := by kernel_rfl
theorem eM.nm : (Tryz.f84.name == "runtime.NumGoroutine") = false := by kernel_rfl
theorem eM.bd : Tryz.f84.body.isNone = false := by kernel_rfl
end Lam
namespace Lam
open Go Go.Proofs
def eM.I : Con → Con := fun Y args h K => match args with
  | [.fn (.yield l) [] [], a0, a1] => eM.H ((ctx [(46, cK.C), (47, dG.C), (78, eI.C), (79, dW.C)] [] eM.loops).withY l Y) (.fn (.yield l) [] []) a0 a1 h K
  | _ => False
theorem eM.spec : sX Tryz.prog 84 eM.I := by
  refine sX.of (bQ (F := [(46, cK.C), (47, dG.C), (78, eI.C), (79, dW.C)]) (S := []) (by simpa using ⟨cK.spec, dG.spec, eI.spec, dW.spec⟩) (by simp) eM.loops).toOkI eM.at eM.nm eM.bd ?_
  intro Yc l cap h K hC
  unfold eM.I at hC
  split at hC
  · rename_i e
    simp only [List.cons.injEq, AV.fn.injEq, Fn.yield.injEq, and_true, true_and] at e
    obtain ⟨rfl, rfl⟩ := e
    rw [eM.eq]; exact hC
  · exact hC.elim
def iG.K : Con := fun args h K => match args with
  | [a0, a1] => iG.H (ctx [] [] iG.loops) a0 a1 h K
  | _ => False
theorem iG.spec : cP Tryz.prog 52 iG.K := by
  refine cP.of (bQ (F := []) (S := []) (by simp) (by simp) iG.loops) iG.at iG.nm iG.bd ?_
  intro args h K hC
  unfold iG.K at hC
  split at hC
  · rw [iG.eq]; exact hC
  · exact hC.elim
def bC.K : Con := fun args h K => match args with
  | [a0, a1] => bC.H (ctxI [] [] [(84, eM.I)] bC.loops) a0 a1 h K
  | _ => False
theorem bC.spec : cP Tryz.prog 51 bC.K := by
  refine cP.of (aDU (F := []) (S := []) (Is := [(84, eM.I)]) (by simp) (by simp) (by simpa using eM.spec) bC.loops) bC.at bC.nm bC.bd ?_
  intro args h K hC
  unfold bC.K at hC
  split at hC
  · rw [bC.eq]; exact hC
  · exact hC.elim
def aDx (w : List Int) : AV := match iV (eL w) w with
  | none => .tup [.sl false (.pairs []), .int .i64 110]
  | some l => .tup [.sl false (.pairs (allP w l)), .int .i64 0]
theorem aMb (w : List Int) (b : Int) : ∃ e, qM w b = .tup [(nY w b).V, .int .i64 e] := by
  unfold nY
  cases hn : dJ w b with
  | none =>
    obtain ⟨e, _, hv⟩ := nV hn
    exact ⟨e, hv⟩
  | some n => exact ⟨0, iS hn⟩
theorem aIm (w : List Int) (b : Int) : ∃ e, lowV w b = .tup [.str (lowZ w b), .int .i64 e] := by
  unfold lowV lowZ
  cases h : (dJ w b).bind (lowO w) with
  | none => exact ⟨_, rfl⟩
  | some l => exact ⟨_, rfl⟩
theorem aKZ (w : List Int) (s : Int) : ∃ e, pF w s = .tup [(recZ w s).V, .int .i64 e] := by
  unfold recZ
  cases hn : recO w s with
  | none =>
    obtain ⟨e, _, hv⟩ := tA hn
    exact ⟨e, hv⟩
  | some n => exact ⟨0, sZ hn⟩
theorem aBI (w : List Int) (b : Int) : (nY w b).slots.length ≤ 13 := by
  unfold nY
  cases hn : dJ w b with
  | none => exact Nat.zero_le _
  | some n => exact (lR hn).1.2.2.2.2.2.2.1
theorem aGL {α β : Type} (f : α → β) (L : List α) (d : α) {e : β} {i : Nat} (h : i < L.length) : (L.map f).getD i e = f (L.getD i d) := by
  rw [List.getD_eq_getElem?_getD, List.getElem?_map, List.getElem?_eq_getElem h, List.getD_eq_getElem?_getD, List.getElem?_eq_getElem h]; rfl
theorem aMc (w : List Int) (b : Int) (out : List oG) (v : Nat) (hw : iI w) (hro : out.length ≤ 100000) (K : AOut → List AObj → Prop)
    (hK : ∀ h' v', K (.ret (.sref false 0 v' 0 (out ++ ownP w b).length)) (.row .own v' (.pairs (out ++ ownP w b)) :: h')) :
    bC.K [.sref false 0 v 0 out.length, .fn (.func 84) [] [.ptr 1 [], .ptr 2 []]] [.row .own v (.pairs out), .box (.sl false (.ints .i64 w)), .box (.int .i64 b)] K := by
  obtain ⟨e1, h1⟩ := aMb w b
  obtain ⟨e2, h2⟩ := aIm w (nY w b).next
  have hr := iI.roomy hw
  unfold bC.K bC.H
  simp only [eM.I, eM.H, cK.C, h1, Nd.V, dG.C, h2, eI.C, aA, aA, gq, reduceEq, reduceLT, reduceLE, implies_true, reduceCtorEq, if_true, if_false, go_sem, reduceEqDiff, Nat.reduceLT, reduceAdd, reduceSub, reduceLeDiff, reduceReplicate, reduceToNat]
  intro lp r
  obtain ⟨⟨n1, n2, n3, n4, n5⟩, hnd⟩ : ∃ n, nY w b = n := ⟨_, rfl⟩
  have hok := aBI w b
  rw [hnd] at hok ⊢
  have hrn : roomy n5.length := by unfold roomy; simp only at hok; omega
  have hpl := Nat.le_trans (wK n5) hok
  have hsl : (plain n5).length ≤ 13 := hpl
  generalize hS : plain n5 = S at *
  have hP : ownP w b = ((S.map (recZ w)).takeWhile (ownB w ⟨n1, n2, n3, n4, n5⟩)).map nI := by
    unfold ownP ownL; rw [hnd, ← hS]
  refine ⟨hr, hw, hrn, ?_⟩
  have hlo : lowZ w (nY w b).next = lowZ w n3 := by rw [hnd]
  simp only
  unfold eM.L1
  refine lF (σ := Nat × Nat) (fun s => .int .i64 s.1) (fun s => [.row .own s.2 (.pairs (out ++ (S.take s.1).map fun s => nI (recZ w s))), .box (.sl false (.ints .i64 w)), .box (.int .i64 b), .box (.sref false 0 s.2 0 (out ++ (S.take s.1).map fun s => nI (recZ w s)).length), .lp .ready none r, .box (.agg [.int .i64 n1, .int .i64 n2, .int .i64 n3, .int .i64 n4, .sl false (.ints .i64 n5)])]) (fun s => S.length - s.1) (fun s => s.1 ≤ S.length ∧ ∀ i, i < s.1 → ownB w ⟨n1, n2, n3, n4, n5⟩ (recZ w (S.getD i 0)) = true) (0, v) rfl (by simp) ⟨Nat.zero_le _, fun i hi => absurd hi (Nat.not_lt_zero _)⟩ ?_
  rintro I back ⟨k, v1⟩ ⟨hk, hall⟩
  simp only at hk hall ⊢
  have htw : (k < S.length → ownB w ⟨n1, n2, n3, n4, n5⟩ (recZ w (S.getD k 0)) = false) → ownP w b = (S.take k).map fun s => nI (recZ w s) := fun h => by
    rw [hP, aIj (ownB w ⟨n1, n2, n3, n4, n5⟩) (recZ w 0) (S.map (recZ w)) k (by simp; exact hk) (fun i hi => ?_) (fun hi => ?_), ← List.map_take, List.map_map]
    · rfl
    · rw [aGL _ _ _ (by omega)]; exact hall i hi
    · rw [List.length_map] at hi
      rw [aGL _ _ _ hi]; exact h hi
  have hlen : (out ++ (S.take k).map fun s => nI (recZ w s)).length ≤ 100013 := by
    rw [List.length_append, List.length_map, List.length_take]; omega
  by_cases hkl : k < S.length
  · have hb : ∀ v2 n lv h, _ := fun v2 n lv h => @back n lv h (k + 1, v2)
    simp only [iH S k 0 hkl, List.map_append, List.map_cons, List.map_nil] at hb
    have d1 : decide ((k : Int) < (S.length : Int)) = true := decide_eq_true (by omega)
    obtain ⟨e3, h3⟩ := aKZ w (S.getD k 0)
    have hall2 : ownB w ⟨n1, n2, n3, n4, n5⟩ (recZ w (S.getD k 0)) = true → ∀ i, i < k + 1 → ownB w ⟨n1, n2, n3, n4, n5⟩ (recZ w (S.getD i 0)) = true := fun h i hi => by
      by_cases e : i = k
      · rw [e]; exact h
      · exact hall i (by omega)
    generalize hR : (S.take k).map (fun s => nI (recZ w s)) = R at *
    generalize recZ w (S.getD k 0) = x at *
    obtain ⟨x1, x2, x3, x4⟩ := x
    unfold ownB at htw hall2
    simp only at htw hall2
    have hlp : roomy (out ++ (R ++ [(⟨x2, x3⟩ : oG)])).length := by
      unfold roomy; rw [← List.append_assoc, List.length_append]; simp only [List.length_cons, List.length_nil]; omega
    simp only [dW.C, h3, Rc.V, d1, aA, eS (show k < 4611686018427387904 by omega), aA, gq, reduceEq, reduceLT, reduceLE, implies_true, reduceCtorEq, if_true, if_false, go_sem, reduceEqDiff, Nat.reduceLT, reduceAdd, reduceSub, reduceLeDiff, reduceReplicate, reduceToNat]
    refine ⟨⟨by omega, by omega⟩, hr, ?_⟩
    by_cases h0 : n3 = 0
    · simp only [h0, decide_true, aA, gq, reduceEq, reduceLT, reduceLE, implies_true, reduceCtorEq, if_true, if_false, go_sem, reduceEqDiff, Nat.reduceLT, reduceAdd, reduceSub, reduceLeDiff, reduceReplicate, reduceToNat]
      exact ⟨hlp, hb (v1 + 1) _ _ _ (by omega) rfl (by simp only [h0, nI]) ⟨by omega, hall2 (by simp [h0])⟩⟩
    · cases hlt : ltB x2 (lowZ w n3) with
      | true =>
        simp only [h0, hlt, decide_false, aA, gq, reduceEq, reduceLT, reduceLE, implies_true, reduceCtorEq, if_true, if_false, go_sem, reduceEqDiff, Nat.reduceLT, reduceAdd, reduceSub, reduceLeDiff, reduceReplicate, reduceToNat]
        exact ⟨hlp, hb (v1 + 1) _ _ _ (by omega) rfl rfl ⟨by omega, hall2 (by simp [hlt])⟩⟩
      | false =>
        have e := htw (fun _ => by simp [h0, hlt])
        simp only [h0, hlt, decide_false, aA, gq, reduceEq, reduceLT, reduceLE, implies_true, reduceCtorEq, if_true, if_false, go_sem, reduceEqDiff, Nat.reduceLT, reduceAdd, reduceSub, reduceLeDiff, reduceReplicate, reduceToNat]
        rw [← e]
        exact hK _ _
  · obtain rfl : k = S.length := by omega
    have d1 : decide ((S.length : Int) < (S.length : Int)) = false := decide_eq_false (by omega)
    rw [← htw (fun h => absurd h hkl)]
    simp only [d1, aA, aA, gq, reduceEq, reduceLT, reduceLE, implies_true, reduceCtorEq, if_true, if_false, go_sem, reduceEqDiff, Nat.reduceLT, reduceAdd, reduceSub, reduceLeDiff, reduceReplicate, reduceToNat]
    exact hK _ _
theorem aLa {w : List Int} {l : List Int} {k : Nat} (h : k < l.length) : allP w (l.take (k + 1)) = allP w (l.take k) ++ ownP w (l.getD k 0) := by
  unfold allP
  rw [iH l k 0 h, List.flatMap_append, List.flatMap_cons, List.flatMap_nil, List.append_nil]
theorem aMd (w : List Int) (b : Int) : (ownP w b).length ≤ 13 := by
  unfold ownP ownL
  rw [List.length_map]
  refine Nat.le_trans (List.takeWhile_sublist _).length_le ?_
  rw [List.length_map]
  exact Nat.le_trans (wK _) (aBI w b)
theorem aCk (w : List Int) : ∀ l : List Int, (allP w l).length ≤ 13 * l.length
  | [] => Nat.le_refl _
  | b :: l => by
    have h1 := aCk w l
    have h2 := aMd w b
    unfold allP at h1 ⊢
    rw [List.flatMap_cons, List.length_append, List.length_cons]; omega
def fM.C : aE
  | [.sl _ (.ints .i64 w)] => some (false, pD (iI w) (aDx w))
  | _ => none
theorem fM.spec : bN Tryz.prog 26 fM.C := by
  refine bN.of (bQ (F := [(22, fT.C), (24, eF.C)]) (S := [(52, iG.K), (51, bC.K)]) (by simpa using ⟨fT.spec, eF.spec⟩) (by simpa using ⟨iG.spec, bC.spec⟩) fM.loops) fM.at fM.nm fM.bd ?_
  intro vs b S v news e hS
  unfold fM.C at e
  split at e
  rotate_left
  · cases e
  cases e
  rw [fM.eq]
  unfold fM.H
  simp (maxSteps := 4000000) only [go_sem, reduceEqDiff, Nat.reduceLT, reduceAdd, reduceSub, reduceLeDiff, reduceReplicate, reduceToNat, fT.C, eF.C]
  rename_i w
  unfold aDx
  cases hl : iV (eL w) w with
  | none =>
    have hc : rZ w = 110 := by unfold rZ; rw [hl]; rfl
    simp only [hc, aA, decide_false, aA, gq, reduceEq, reduceLT, reduceLE, implies_true, reduceCtorEq, if_true, if_false, go_sem, reduceEqDiff, Nat.reduceLT, reduceAdd, reduceSub, reduceLeDiff, reduceReplicate, reduceToNat]
    exact ⟨hS, aH rfl rfl⟩
  | some l =>
    have hc : rZ w = 0 := by unfold rZ; rw [hl]; rfl
    have hch : lA (eL w) w = some l := by
      unfold iV at hl
      cases h : lA (eL w) w with
      | none => rw [h] at hl; cases hl
      | some l' =>
        rw [h] at hl
        simp only at hl
        split at hl
        · cases hl; rfl
        · cases hl
    have hlv : pS w = .tup [.sl false (.ints .i64 l), .int .i64 0] := by unfold pS; rw [hch]
    have hll := (mX hch).2.2.2.1
    have hw := hS.1
    simp only [hc, hlv, aA, decide_true, decide_false, aA, gq, reduceEq, reduceLT, reduceLE, implies_true, reduceCtorEq, if_true, if_false, go_sem, reduceEqDiff, Nat.reduceLT, reduceAdd, reduceSub, reduceLeDiff, reduceReplicate, reduceToNat]
    refine ⟨hS, hS, ?_⟩
    unfold fM.L1
    refine pP (σ := Nat × Nat) (fun s => .sref false 0 s.2 0 (allP w (l.take s.1)).length) (fun s => .int .i64 s.1) (fun s => [.row .own s.2 (.pairs (allP w (l.take s.1)))]) (fun s => l.length - s.1) (fun s => s.1 ≤ l.length) (0, 0) rfl rfl (Nat.zero_le _) ?_
    rintro I back ⟨k, v⟩ hk
    simp only at hk ⊢
    have hal := aCk w (l.take k)
    rw [List.length_take] at hal
    by_cases hkl : k < l.length
    · have hb : ∀ v2 n lv h, _ := fun v2 n lv h => @back n lv h (k + 1, v2)
      simp only [aLa hkl] at hb
      have d1 : decide ((k : Int) < (l.length : Int)) = true := decide_eq_true (by omega)
      simp only [iG.K, iG.H, d1, Int.toNat_natCast, aA, eS (show k < 4611686018427387904 by omega), aA, gq, reduceEq, reduceLT, reduceLE, implies_true, reduceCtorEq, if_true, if_false, go_sem, reduceEqDiff, Nat.reduceLT, reduceAdd, reduceSub, reduceLeDiff, reduceReplicate, reduceToNat]
      refine ⟨⟨by omega, by omega⟩, ?_⟩
      refine aMc w (l.getD k 0) (allP w (l.take k)) v hS (by omega) _ fun h' v' => ?_
      simp only [eS (show k < 4611686018427387904 by omega), aA, gq, reduceEq, reduceLT, reduceLE, implies_true, reduceCtorEq, if_true, if_false, go_sem, reduceEqDiff, Nat.reduceLT, reduceAdd, reduceSub, reduceLeDiff, reduceReplicate, reduceToNat]
      exact hb v' _ _ _ (by omega) rfl rfl (by omega)
    · obtain rfl : k = l.length := by omega
      have d1 : decide ((l.length : Int) < (l.length : Int)) = false := decide_eq_false (by omega)
      clear back
      rw [List.take_length]
      simp only [d1, aA, aA, gq, reduceEq, reduceLT, reduceLE, implies_true, reduceCtorEq, if_true, if_false, go_sem, reduceEqDiff, Nat.reduceLT, reduceAdd, reduceSub, reduceLeDiff, reduceReplicate, reduceToNat]
      refine aH ?_ rfl
      simp only [go_sem, reduceEqDiff, Nat.reduceLT, reduceAdd, reduceSub, reduceLeDiff, reduceReplicate, reduceToNat]
def getP (l : List oG) (key : bD) : Option oG := l.find? fun x => decide (x.key = key)
end Lam
namespace Lam
open Go
def iF (w : List Int) (r : Rd) : Rd :=
  if r.phase = 1 then qP w r else if r.phase = 2 then sB w r else if r.phase = 3 then qH w r else if r.phase = 4 then mU w r
  else if r.phase = 5 then { r with block := r.to_, phase := 2 } else if r.phase = 6 then { r with phase := 7 } else if r.phase = 7 then { r with phase := 8 } else r
theorem aHJ (w : List Int) (r : Rd) : nX ⟨w, w, []⟩ r = (⟨w, w, []⟩, iF w r) := by
  unfold nX iF
  simp only [aAK]
  split
  · rfl
  split
  · rfl
  split
  · rfl
  split
  · rfl
  split
  · rfl
  split
  · rfl
  split
  · rfl
  · rfl
def seqR (w : List Int) (r : Rd) : Nat → Rd
  | 0 => r
  | k + 1 => iF w (seqR w r k)
theorem sR (w : List Int) (r : Rd) (a : Nat) : ∀ b, seqR w r (a + b) = seqR w (seqR w r a) b
  | 0 => rfl
  | b + 1 => by show iF w (seqR w r (a + b)) = _; rw [sR w r a b]; rfl
theorem aJz {w : List Int} {r : Rd} (h : r.phase = 8) : iF w r = r := by
  unfold iF
  rw [if_neg (by omega), if_neg (by omega), if_neg (by omega), if_neg (by omega), if_neg (by omega), if_neg (by omega), if_neg (by omega)]
theorem aES {w : List Int} {r : Rd} (h : r.phase = 8) : ∀ k, seqR w r k = r
  | 0 => rfl
  | k + 1 => by show iF w (seqR w r k) = r; rw [aES h k]; exact aJz h
theorem aDy {w : List Int} {r : Rd} {a b : Nat} (h : (seqR w r a).phase = 8) (hab : a ≤ b) : seqR w r b = seqR w r a := by
  rw [show b = a + (b - a) by omega, sR]; exact aES h _
theorem aMB {w : List Int} {r : Rd} (h : r.phase = 1) : iF w r = qP w r := by unfold iF; rw [if_pos h]
theorem aSm {w : List Int} {r : Rd} (h : r.phase = 2) : iF w r = sB w r := by unfold iF; rw [if_neg (by omega), if_pos h]
theorem aMC {w : List Int} {r : Rd} (h : r.phase = 3) : iF w r = qH w r := by unfold iF; rw [if_neg (by omega), if_neg (by omega), if_pos h]
theorem aSn {w : List Int} {r : Rd} (h : r.phase = 4) : iF w r = mU w r := by unfold iF; rw [if_neg (by omega), if_neg (by omega), if_neg (by omega), if_pos h]
theorem aSo {w : List Int} {r : Rd} (h : r.phase = 5) : iF w r = { r with block := r.to_, phase := 2 } := by unfold iF; rw [if_neg (by omega), if_neg (by omega), if_neg (by omega), if_neg (by omega), if_pos h]
theorem aSp {w : List Int} {r : Rd} (h : r.phase = 6) : iF w r = { r with phase := 7 } := by unfold iF; rw [if_neg (by omega), if_neg (by omega), if_neg (by omega), if_neg (by omega), if_neg (by omega), if_pos h]
theorem aSq {w : List Int} {r : Rd} (h : r.phase = 7) : iF w r = { r with phase := 8 } := by unfold iF; rw [if_neg (by omega), if_neg (by omega), if_neg (by omega), if_neg (by omega), if_neg (by omega), if_neg (by omega), if_pos h]
/-! ### A look through a leaf -/
theorem aGM {w : List Int} {b : Int} {n : Nd} (h : dJ w b = some n) (hb : b < 256) : qG w b = some (kY b n 0) := by
  obtain ⟨_, h13, _⟩ := vX h hb
  unfold qG
  rw [h]
  simp only
  rw [if_neg (by omega)]
  unfold kY
  by_cases hd : mE n.turn = true
  · simp only [hd, if_true]
    unfold yE
    rw [if_pos (by decide), List.drop_of_length_le (by omega)]
    rfl
  · rw [show (if mE n.turn = true then (12 : Int) else 0) = 0 from if_neg hd, if_neg hd]
    unfold upAt
    rw [if_pos (by omega)]
    rfl
theorem aJA {b : Int} {n : Nd} (h13 : n.slots.length ≤ 13) : ∃ T, 1 ≤ T ∧ T ≤ 13 ∧ kY b n T = kY b n 13 ∧ ∀ k, k < T → (kY b n k).over = false := by
  unfold kY
  by_cases hd : mE n.turn = true
  · refine ⟨13, by decide, by decide, rfl, fun k hk => ?_⟩
    rw [if_pos hd]; unfold yE; rw [if_pos (by omega)]
  · refine ⟨min n.slots.length 12 + 1, by omega, by omega, ?_, fun k hk => ?_⟩
    · rw [if_neg hd, if_neg hd]; unfold upAt; rw [if_neg (by omega), if_neg (by omega)]
    · rw [if_neg hd]; unfold upAt; rw [if_pos (by omega)]
theorem aDz {w : List Int} {b : Int} {n : Nd} (h : dJ w b = some n) (hb : b < 256) (r : Rd) (hp : r.phase = 3) (hs : r.seek = kY b n 0) {T : Nat} (hT : ∀ k, k < T → (kY b n k).over = false) : ∀ k, k < T → seqR w r k = { r with seek := kY b n k }
  | 0, _ => by show r = _; rw [← hs]
  | k + 1, hk => by
    show iF w (seqR w r k) = _
    have ih := aDz h hb r hp hs hT k (by omega)
    rw [ih, aMC (r := { r with seek := kY b n k }) hp]
    unfold qH
    simp only
    have e : kW w (kY b n k) = kY b n (k + 1) := by
      rw [← qI h hb k, ← qI h hb (k + 1)]; rfl
    rw [e, hT (k + 1) hk]
    simp
theorem aLb {w : List Int} {b : Int} {n : Nd} (h : dJ w b = some n) (hb : b < 256) (r : Rd) (hp : r.phase = 2) (hblk : r.block = b) : ∃ T, T ≤ 14 ∧ ∃ a R, (R = plain n.slots ∨ R = (plain n.slots).reverse) ∧ seqR w r T = { r with seek := ⟨b, n.turn, a, R, true⟩, phase := 4 } := by
  have h13 := (lR h).1.2.2.2.2.2.2.1
  obtain ⟨T, t1, t2, t3, t4⟩ := aJA (b := b) h13
  obtain ⟨a, R, h1, h2⟩ := aKX (b := b) h13
  refine ⟨1 + T, by omega, a, R, h2, ?_⟩
  rw [sR]
  have e1 : seqR w r 1 = { r with seek := kY b n 0, phase := 3 } := by
    show iF w r = _
    rw [aSm hp]
    unfold sB
    rw [hblk, aGM h hb]
  rw [e1]
  have hk := aDz h hb { r with seek := kY b n 0, phase := 3 } rfl rfl t4 (T - 1) (by omega)
  rw [show T = (T - 1) + 1 by omega]
  show iF w (seqR w _ (T - 1)) = _
  rw [hk, aMC rfl]
  unfold qH
  have e : kW w (kY b n (T - 1)) = kY b n T := by
    rw [← qI h hb (T - 1), ← qI h hb T, show T = (T - 1) + 1 by omega]; rfl
  simp only [e, t3, h1, if_true]
end Lam
namespace Lam
open Go
def aAL (w : List Int) (b : Int) : List RecT := (plain (nY w b).slots).map (recT w)
def mF (w l : List Int) (i : Nat) : bD := lowZ w (l.getD i 0)
def nJ (w : List Int) (b : Int) (key : bD) : Bool × bD := match idxR key (aAL w b) with
  | none => (false, [])
  | some x => (true, x.val)
theorem aNf {w l : List Int} (h : iV (eL w) w = some l) (hN : w.length / 16 ≤ 256) {i : Nat} (hi : i < l.length) (r : Rd) (hp : r.phase = 2) (hblk : r.block = l.getD i 0) :
    ∃ n, n ≤ 17 ∧ (seqR w r n).key = r.key ∧ ((i + 1 < l.length ∧ ltB r.key (mF w l (i + 1)) = false ∧ (seqR w r n).phase = 2 ∧ (seqR w r n).block = l.getD (i + 1) 0) ∨
      ((i + 1 < l.length → ltB r.key (mF w l (i + 1)) = true) ∧ (seqR w r n).phase = 8 ∧ ((seqR w r n).found, (seqR w r n).val) = nJ w (l.getD i 0) r.key)) := by
  obtain ⟨hz, n, hn, hlev, hnx, hlow, hsl, _, _⟩ := qW h hi
  have hb : l.getD i 0 < 256 := by have := (lR hn).2.2.1; omega
  obtain ⟨T, hT, a, R, hR, hs⟩ := aLb hn hb r hp hblk
  have hnz : nY w (l.getD i 0) = n := by unfold nY; rw [hn]; rfl
  obtain ⟨hr4, hr4e⟩ : ∃ r4, r4 = seqR w r T := ⟨_, rfl⟩
  have hfe : iF w (seqR w r T) = mU w (seqR w r T) := aSn (by rw [hs])
  have hholds : tV w (l.getD i 0) n.turn = true := by unfold tV; rw [hn]; exact decide_eq_true rfl
  have hits : uT (jC w R) = aAL w (l.getD i 0) := by
    unfold aAL
    rw [hnz]
    refine aKY (fun s hs => ?_) (zD hsl).1 hR
    obtain ⟨x, hx, _⟩ := aBF hsl s hs
    exact ⟨x, hx⟩
  have hright : vV w (l.getD i 0) = if i + 1 < l.length then some (l.getD (i + 1) 0, mF w l (i + 1)) else none := by
    unfold vV
    rw [hn]
    simp only
    by_cases hc : i + 1 < l.length
    · rw [if_pos hc] at hnx ⊢
      obtain ⟨hz2, n2, hn2, _, _, hlow2, _⟩ := qW h hc
      rw [hnx, if_neg hz2, hn2]
      simp only [Option.bind_some, hlow2]
      rfl
    · rw [if_neg hc] at hnx ⊢
      rw [hnx, if_pos rfl]
  by_cases hmv : i + 1 < l.length ∧ ltB r.key (mF w l (i + 1)) = false
  · refine ⟨T + 1 + 1, by omega, ?_⟩
    have e1 : seqR w r (T + 1) = { r with seek := ⟨l.getD i 0, n.turn, a, R, true⟩, phase := 5, to_ := l.getD (i + 1) 0 } := by
      show iF w (seqR w r T) = _
      rw [hfe, hs]
      unfold mU
      simp only [hholds, hblk, hright, if_pos hmv.1, hmv.2]
      rfl
    have e2 : seqR w r (T + 1 + 1) = { r with seek := ⟨l.getD i 0, n.turn, a, R, true⟩, phase := 2, to_ := l.getD (i + 1) 0, block := l.getD (i + 1) 0 } := by
      show iF w (seqR w r (T + 1)) = _
      rw [e1, aSo rfl]
    rw [e2]
    exact ⟨rfl, .inl ⟨hmv.1, hmv.2, rfl, rfl⟩⟩
  · refine ⟨T + 1 + 1 + 1, by omega, ?_⟩
    have hst : i + 1 < l.length → ltB r.key (mF w l (i + 1)) = true := fun h1 => by
      cases e : ltB r.key (mF w l (i + 1)) with
      | true => rfl
      | false => exact absurd ⟨h1, e⟩ hmv
    have e1 : seqR w r (T + 1) = sC w { r with seek := ⟨l.getD i 0, n.turn, a, R, true⟩, phase := 4 } := by
      show iF w (seqR w r T) = _
      rw [hfe, hs]
      unfold mU
      simp only [hholds, hblk, hright]
      by_cases hc : i + 1 < l.length
      · rw [if_pos hc]; simp only [hst hc]; rfl
      · rw [if_neg hc]; rfl
    have e2 : (sC w { r with seek := ⟨l.getD i 0, n.turn, a, R, true⟩, phase := 4 }) = { r with seek := ⟨l.getD i 0, n.turn, a, R, true⟩, phase := 6, found := (nJ w (l.getD i 0) r.key).1, val := (nJ w (l.getD i 0) r.key).2 } := by
      unfold sC nJ
      simp only [hits]
      cases idxR r.key (aAL w (l.getD i 0)) with
      | none => rfl
      | some x => rfl
    have e3 : seqR w r (T + 1 + 1) = { r with seek := ⟨l.getD i 0, n.turn, a, R, true⟩, phase := 7, found := (nJ w (l.getD i 0) r.key).1, val := (nJ w (l.getD i 0) r.key).2 } := by
      show iF w (seqR w r (T + 1)) = _
      rw [e1, e2, aSp rfl]
    have e4 : seqR w r (T + 1 + 1 + 1) = { r with seek := ⟨l.getD i 0, n.turn, a, R, true⟩, phase := 8, found := (nJ w (l.getD i 0) r.key).1, val := (nJ w (l.getD i 0) r.key).2 } := by
      show iF w (seqR w r (T + 1 + 1)) = _
      rw [e3, aSq rfl]
    rw [e4]
    exact ⟨rfl, .inr ⟨hst, rfl, rfl⟩⟩
theorem aGN {w l : List Int} (h : iV (eL w) w = some l) (hN : w.length / 16 ≤ 256) : ∀ (d i : Nat), i + d + 1 = l.length → ∀ (r : Rd), r.phase = 2 → r.block = l.getD i 0 → ltB r.key (mF w l i) = false →
    ∃ n, n ≤ 17 * (d + 1) ∧ (seqR w r n).phase = 8 ∧ ∃ j, i ≤ j ∧ j < l.length ∧ ltB r.key (mF w l j) = false ∧ (j + 1 < l.length → ltB r.key (mF w l (j + 1)) = true) ∧ ((seqR w r n).found, (seqR w r n).val) = nJ w (l.getD j 0) r.key
  | d, i, hd, r, hp, hb, hlo => by
    have hi : i < l.length := by omega
    obtain ⟨n, hn, hk, h1 | h1⟩ := aNf h hN hi r hp hb
    · obtain ⟨q1, q2, q3, q4⟩ := h1
      cases d with
      | zero => omega
      | succ d =>
        obtain ⟨n2, g1, g2, j, g3, g4, g5, g6, g7⟩ := aGN h hN d (i + 1) (by omega) (seqR w r n) q3 q4 (by rw [hk]; exact q2)
        rw [hk] at g5 g6 g7
        rw [← sR] at g2 g7
        exact ⟨n + n2, by omega, g2, j, by omega, g4, g5, g6, g7⟩
    · exact ⟨n, by omega, h1.2.1, i, Nat.le_refl _, hi, hlo, h1.1, h1.2.2⟩
/-! ### The way down -/
def mG (w l : List Int) (key : bD) : Nat → Int → Bool
  | 0, _ => false
  | k + 1, b => match dJ w b with
    | none => true
    | some n => if n.level = 0 then decide (b ∈ l) && (match lowO w n with
        | none => false
        | some low => !ltB key low) else match lS w b key 0 with
      | none => true
      | some t => mG w l key k t
def aBk (w l : List Int) (key : bD) : List Int → Int → Int → Prop
  | [], b, c => (dJ w b = none ∧ c = 1) ∨ ∃ n, dJ w b = some n ∧ ((n.level = 0 ∧ b ∈ l ∧ ltB key (lowZ w b) = false ∧ c = b) ∨ (n.level ≠ 0 ∧ lS w b key 0 = none ∧ c = 1))
  | x :: p, b, c => x = b ∧ ∃ n t, dJ w b = some n ∧ n.level ≠ 0 ∧ lS w b key 0 = some t ∧ aBk w l key p t c
theorem aGO {w l : List Int} {key : bD} : ∀ {q : List Int} {b t c : Int} {q' : List Int}, aBk w l key (q ++ b :: q') t c → aBk w l key (b :: q') b c
  | [], b, t, c, q', h => by
    obtain ⟨e, hr⟩ := h
    subst e
    exact ⟨rfl, hr⟩
  | x :: q, b, t, c, q', h => by
    obtain ⟨_, n, t', _, _, _, h⟩ := h
    exact aGO h
theorem aET {w l : List Int} {key : bD} : ∀ (k : Nat) (b : Int), mG w l key k b = true → ∃ p c, aBk w l key p b c ∧ p.Nodup ∧ ∀ x ∈ p, ∃ n, dJ w x = some n
  | 0, b, h => by cases h
  | k + 1, b, h => by
    unfold mG at h
    cases hn : dJ w b with
    | none => exact ⟨[], 1, .inl ⟨hn, rfl⟩, List.nodup_nil, fun x hx => by cases hx⟩
    | some n =>
      rw [hn] at h
      simp only at h
      by_cases h0 : n.level = 0
      · rw [if_pos h0] at h
        cases hl : lowO w n with
        | none => rw [hl] at h; simp at h
        | some low =>
          rw [hl] at h
          simp only [Bool.and_eq_true, decide_eq_true_eq, Bool.not_eq_true'] at h
          have hz : lowZ w b = low := by unfold lowZ; rw [hn]; simp only [Option.bind_some, hl]; rfl
          exact ⟨[], b, .inr ⟨n, hn, .inl ⟨h0, h.1, by rw [hz]; exact h.2, rfl⟩⟩, List.nodup_nil, fun x hx => by cases hx⟩
      · rw [if_neg h0] at h
        cases hd : lS w b key 0 with
        | none => exact ⟨[], 1, .inr ⟨n, hn, .inr ⟨h0, hd, rfl⟩⟩, List.nodup_nil, fun x hx => by cases hx⟩
        | some t =>
          rw [hd] at h
          simp only at h
          obtain ⟨p, c, h1, h2, h3⟩ := aET k t h
          by_cases hm : b ∈ p
          · obtain ⟨q, q', rfl⟩ := List.append_of_mem hm
            refine ⟨b :: q', c, aGO h1, ?_, fun x hx => h3 x (List.mem_append_right _ hx)⟩
            exact (List.nodup_append.1 h2).2.1
          · refine ⟨b :: p, c, ⟨rfl, n, t, hn, h0, hd, h1⟩, List.nodup_cons.2 ⟨hm, h2⟩, fun x hx => ?_⟩
            rcases List.mem_cons.1 hx with rfl | hx
            · exact ⟨n, hn⟩
            · exact h3 x hx
theorem aEU {w l : List Int} : ∀ {p : List Int} {b c : Int} (r : Rd), aBk w l r.key p b c → r.phase = 1 → r.block = b → seqR w r (p.length + 1) = { r with block := c, phase := 2 }
  | [], b, c, r, h, hp, hb => by
    show iF w r = _
    rw [aMB hp]
    unfold qP
    rw [hb]
    rcases h with ⟨h1, rfl⟩ | ⟨n, h1, ⟨h2, _, _, rfl⟩ | ⟨h2, h3, rfl⟩⟩
    · rw [h1]
    · rw [h1]; simp only; rw [if_pos h2]
    · rw [h1]; simp only; rw [if_neg h2, h3]
  | x :: p, b, c, r, h, hp, hb => by
    obtain ⟨rfl, n, t, h1, h2, h3, h4⟩ := h
    have e : seqR w r 1 = { r with block := t } := by
      show iF w r = _
      rw [aMB hp]
      unfold qP
      rw [hb, h1]; simp only; rw [if_neg h2, h3]
    rw [List.length_cons, show p.length + 1 + 1 = 1 + (p.length + 1) by omega, sR, e]
    exact aEU { r with block := t } h4 hp rfl
theorem aGP {w l : List Int} {key : bD} (h : iV (eL w) w = some l) : ∀ {p : List Int} {b c : Int}, aBk w l key p b c → ∃ i, i < l.length ∧ c = l.getD i 0 ∧ ltB key (mF w l i) = false
  | [], b, c, hp => by
    have hone : ∃ i, i < l.length ∧ (1 : Int) = l.getD i 0 ∧ ltB key (mF w l i) = false := by
      obtain ⟨r, hr⟩ := (mX (pT h).1).2.2.2.2.1
      have hl : 0 < l.length := by rw [hr]; simp
      have := (qW h hl)
      obtain ⟨_, n, _, _, _, _, _, h0, _⟩ := this
      refine ⟨0, hl, by rw [hr]; rfl, ?_⟩
      unfold mF
      rw [h0 rfl]; exact aNe key
    rcases hp with ⟨_, rfl⟩ | ⟨n, _, ⟨_, hm, hk, rfl⟩ | ⟨_, _, rfl⟩⟩
    · exact hone
    · obtain ⟨i, hi, e⟩ := List.getElem_of_mem hm
      have e2 : l.getD i 0 = c := by rw [List.getD_eq_getElem?_getD, List.getElem?_eq_getElem hi]; exact e
      exact ⟨i, hi, e2.symm, by unfold mF; rw [e2]; exact hk⟩
    · exact hone
  | x :: p, b, c, hp => by
    obtain ⟨_, n, t, _, _, _, h4⟩ := hp
    exact aGP h h4
end Lam
namespace Lam
open Go
def aAM : Option oG → Bool × bD
  | none => (false, [])
  | some x => (true, x.val)
theorem aAN {β : Type} {f : Int → Option β} : ∀ (l : List Int) (j : Nat), j < l.length → (∀ k, k < l.length → k ≠ j → f (l.getD k 0) = none) → l.findSome? f = f (l.getD j 0)
  | [], j, h, _ => absurd h (Nat.not_lt_zero _)
  | a :: r, 0, _, h => by
    rw [List.findSome?_cons]
    have hr : r.findSome? f = none := by
      rw [List.findSome?_eq_none_iff]
      intro x hx
      obtain ⟨i, hi, rfl⟩ := List.getElem_of_mem hx
      have := h (i + 1) (by simpa using hi) (by omega)
      rw [List.getD_cons_succ, List.getD_eq_getElem?_getD, List.getElem?_eq_getElem hi] at this
      exact this
    rw [hr]
    show (match f a with | some b => some b | none => none) = f a
    cases f a <;> rfl
  | a :: r, j + 1, hj, h => by
    have h0 : f a = none := h 0 (by simp) (by omega)
    rw [List.findSome?_cons, h0]
    simp only
    rw [aAN r j (by simpa using hj) fun k hk hkj => by
      have := h (k + 1) (by simpa using hk) (by omega)
      rwa [List.getD_cons_succ] at this]
    rfl
theorem aIn {p : Rc → Bool} {key : bD} (hp : ∀ x : Rc, (x.key = key ∨ ltB x.key key = true) → p x = true) : ∀ {L : List Rc}, L.Pairwise (fun a b => ltB a.key b.key = true) → (L.takeWhile p).find? (fun x => decide (x.key = key)) = L.find? (fun x => decide (x.key = key))
  | [], _ => rfl
  | a :: r, h => by
    rw [List.pairwise_cons] at h
    cases hpa : p a with
    | true =>
      rw [List.takeWhile_cons, if_pos hpa, List.find?_cons, List.find?_cons, aIn hp h.2]
    | false =>
      rw [List.takeWhile_cons, if_neg (by rw [hpa]; decide), List.find?_nil]
      symm
      rw [List.find?_eq_none]
      intro x hx
      rw [decide_eq_true_eq]
      intro e
      rcases List.mem_cons.1 hx with rfl | hx
      · rw [hp x (.inl e)] at hpa; cases hpa
      · have := h.1 x hx
        rw [e] at this
        rw [hp a (.inr this)] at hpa; cases hpa
theorem aDA {w : List Int} {low : bD} : ∀ {l : List Int} {k : Nat} {last : bD}, lM w low l k last = true → ∀ s ∈ l, ltB (recZ w s).key low = false
  | [], _, _, _, s, hs => by cases hs
  | a :: r, k, last, h, s, hs => by
    simp only [lM] at h
    cases hx : recO w a with
    | none => rw [hx] at h; cases h
    | some x =>
      rw [hx] at h
      simp only [Bool.and_eq_true, Bool.not_eq_true'] at h
      rcases List.mem_cons.1 hs with rfl | hs
      · have : recZ w s = x := by unfold recZ; rw [hx]; rfl
        rw [this]; exact h.1.1.2
      · exact aDA h.2 s hs
theorem aGQ {α : Type} {p : α → Bool} : ∀ {L : List α} {x : α}, x ∈ L.takeWhile p → x ∈ L ∧ p x = true
  | [], x, h => by cases h
  | a :: r, x, h => by
    rw [List.takeWhile_cons] at h
    split at h
    · rename_i hp
      rcases List.mem_cons.1 h with rfl | h
      · exact ⟨by simp, hp⟩
      · have := aGQ h; exact ⟨by simp [this.1], this.2⟩
    · cases h
theorem aGR (w : List Int) (key : bD) : ∀ L : List Int, (match idxR key (L.map (recT w)) with | none => (false, []) | some x => (true, x.val)) = aAM (getP ((L.map (recZ w)).map nI) key)
  | [] => rfl
  | a :: r => by
    have ih := aGR w key r
    unfold idxR getP at ih ⊢
    simp only [List.map_cons, List.find?_cons]
    have e1 : (recT w a).key = (recZ w a).key := rfl
    have e2 : (nI (recZ w a)).key = (recZ w a).key := rfl
    rw [e1, e2]
    by_cases h : (recZ w a).key = key
    · rw [decide_eq_true h]; rfl
    · rw [decide_eq_false h]; exact ih
theorem aAO (p : Rc → Bool) (key : bD) : ∀ L : List Rc, getP (L.map nI) key = (L.find? fun x => decide (x.key = key)).map nI
  | [] => rfl
  | a :: r => by
    have ih := aAO p key r
    unfold getP at ih ⊢
    simp only [List.map_cons, List.find?_cons]
    have e2 : (nI a).key = a.key := rfl
    rw [e2]
    by_cases h : a.key = key
    · rw [decide_eq_true h]; rfl
    · rw [decide_eq_false h]; exact ih
theorem aGS {w l : List Int} (h : iV (eL w) w = some l) {i j : Nat} (hij : i ≤ j) (hj : j < l.length) {key : bD} : (ltB key (mF w l i) = true → ltB key (mF w l j) = true) := by
  intro hk
  by_cases e : i = j
  · rw [← e]; exact hk
  · obtain ⟨_, n, _, _, _, _, _, _, hlt⟩ := qW h hj
    exact lV hk (hlt i (by omega))
theorem aMe {w l : List Int} (h : iV (eL w) w = some l) {j : Nat} (hj : j < l.length) {key : bD} (h1 : ltB key (mF w l j) = false) (h2 : j + 1 < l.length → ltB key (mF w l (j + 1)) = true) : nJ w (l.getD j 0) key = aAM (getP (allP w l) key) := by
  have hall : getP (allP w l) key = l.findSome? fun b => getP (ownP w b) key := by
    unfold getP allP
    rw [List.find?_flatMap]
  have hone : l.findSome? (fun b => getP (ownP w b) key) = getP (ownP w (l.getD j 0)) key := by
    refine aAN (f := fun b => getP (ownP w b) key) l j hj fun k hk hkj => ?_
    obtain ⟨hz, n, hn, hlev, hnx, hlow, hsl, _, _⟩ := qW h hk
    have hnz : nY w (l.getD k 0) = n := by unfold nY; rw [hn]; rfl
    show getP (ownP w (l.getD k 0)) key = none
    unfold getP
    rw [List.find?_eq_none]
    intro x hx
    rw [decide_eq_true_eq]
    intro hxk
    unfold ownP ownL at hx
    rw [hnz] at hx
    obtain ⟨y, hy, rfl⟩ := List.mem_map.1 hx
    obtain ⟨hy1, hy2⟩ := aGQ hy
    obtain ⟨s, hs, rfl⟩ := List.mem_map.1 hy1
    have hk2 : (recZ w s).key = key := hxk
    have hge := aDA hsl s hs
    rw [hk2] at hge
    rcases Nat.lt_or_ge k j with hlt | hge2
    · have hk1 : k + 1 < l.length := by omega
      rw [if_pos hk1] at hnx
      obtain ⟨hz2, _⟩ := qW h hk1
      unfold ownB at hy2
      rw [hnx, decide_eq_false hz2, Bool.false_or, hk2] at hy2
      have := aGS h (show k + 1 ≤ j by omega) hj (key := key) hy2
      rw [h1] at this; cases this
    · have := aGS h (show j + 1 ≤ k by omega) hk (key := key) (h2 (by omega))
      have e : mF w l k = lowZ w (l.getD k 0) := rfl
      rw [e, hge] at this; cases this
  obtain ⟨hz, n, hn, hlev, hnx, hlow, hsl, _, _⟩ := qW h hj
  have hnz : nY w (l.getD j 0) = n := by unfold nY; rw [hn]; rfl
  rw [hall, hone]
  unfold nJ aAL
  rw [hnz]
  refine Eq.trans (aGR w key (plain n.slots)) ?_
  unfold ownP ownL
  rw [hnz, aAO (fun _ => true), aAO (fun _ => true), aIn]
  · intro x hx
    unfold ownB
    by_cases hc : j + 1 < l.length
    · rw [if_pos hc] at hnx
      have hk := h2 hc
      rw [hnx]
      have : ltB x.key (lowZ w (l.getD (j + 1) 0)) = true := by
        rcases hx with e | e
        · rw [e]; exact hk
        · exact lV e hk
      rw [this, Bool.or_true]
    · rw [if_neg hc] at hnx
      rw [hnx]; rfl
  · have := (zD hsl).1
    rw [List.pairwise_map] at this ⊢
    exact this
def rd0 (w : List Int) (key : bD) : Rd := ⟨key, 1, zC w, 0, skZ, [], false⟩
theorem aSr {w l : List Int} {key : bD} (h : iV (eL w) w = some l) (hN : w.length / 16 ≤ 256) (hl : mG w l key 300 (w.getD 3 0) = true) : ∀ N, 17 * l.length + w.length / 16 + 1 ≤ N → (seqR w (rd0 w key) N).phase = 8 ∧ ((seqR w (rd0 w key) N).found, (seqR w (rd0 w key) N).val) = aAM (getP (allP w l) key) := by
  obtain ⟨p, c, hp, hnd, hno⟩ := aET _ _ hl
  have hpl : p.length ≤ w.length / 16 := aGu hnd fun x hx => by
    obtain ⟨n, hn⟩ := hno x hx
    obtain ⟨_, q0, q1, _⟩ := lR hn
    exact ⟨q0, q1⟩
  have hroot : zC w = w.getD 3 0 := by unfold zC; rw [(pT h).2.2]; rfl
  have e1 := aEU (rd0 w key) hp rfl hroot
  obtain ⟨i, hi, hc, hlo⟩ := aGP h hp
  obtain ⟨n, hn, hph, j, hij, hj, hj1, hj2, hfv⟩ := aGN h hN (l.length - i - 1) i (by omega) { rd0 w key with block := c, phase := 2 } rfl hc hlo
  have e2 : seqR w (rd0 w key) (p.length + 1 + n) = seqR w { rd0 w key with block := c, phase := 2 } n := by rw [sR, e1]
  rw [← e2] at hph hfv
  have hf := aMe h hj (key := key) hj1 hj2
  intro N hN2
  have hb : n ≤ 17 * l.length := Nat.le_trans hn (Nat.mul_le_mul_left 17 (by omega))
  have hst := aDy (w := w) (r := rd0 w key) (a := p.length + 1 + n) (b := N) hph (by omega)
  rw [hst]
  exact ⟨hph, by rw [hfv]; exact hf⟩
/-! ### A look holds not more than a leaf's slots -/
def FewS (s : Sk) : Prop := s.refs.length ≤ 13 ∧ (s.over = false → (s.refs.length : Int) ≤ if mE s.turn = true then 12 - s.at_ else s.at_)
theorem aIo : FewS skZ := ⟨by decide, fun _ => by decide⟩
theorem aLc {w : List Int} {b : Int} {s : Sk} (h : qG w b = some s) : FewS s := by
  unfold qG at h
  split at h
  · split at h
    · cases h
    · cases h
      refine ⟨by simp, fun _ => ?_⟩
      simp only [List.length_nil]
      split <;> simp
  · cases h
theorem aMf {w : List Int} {s : Sk} (h : FewS s) : FewS (kW w s) := by
  unfold kW
  split
  · exact h
  · rename_i hc
    have hc : (s.over || decide (mT w s < 0)) = false := by simpa using hc
    rw [Bool.or_eq_false_iff, decide_eq_false_iff_not] at hc
    obtain ⟨ho, hsp⟩ := hc
    obtain ⟨h1, h2⟩ := h
    have h2 := h2 ho
    have hat : 0 ≤ s.at_ ∧ s.at_ < 13 := by
      unfold mT at hsp
      split at hsp
      · unfold oZ at hsp
        split at hsp
        · rename_i hb
          simp only [Bool.and_eq_true, decide_eq_true_eq] at hb
          omega
        · omega
      · omega
    have hlen : (goOn (w.getD (mT w s).toNat 0) s).refs.length ≤ s.refs.length + 1 := by
      unfold goOn
      simp only
      split <;> simp
    have hto : (goOn (w.getD (mT w s).toNat 0) s).turn = s.turn := rfl
    refine ⟨?_, fun hov => ?_⟩
    · split at h2 <;> omega
    · rw [hto]
      have hov' : kI (w.getD (mT w s).toNat 0) s = false := hov
      have hatn : (goOn (w.getD (mT w s).toNat 0) s).at_ = if mE s.turn = true then s.at_ - 1 else s.at_ + 1 := by
        unfold goOn
        simp only
        rw [if_neg (by rw [hov']; decide)]
        split
        · exact w64 (by omega) (by omega)
        · exact w64 (by omega) (by omega)
      rw [hatn]
      split at h2
      · rename_i hd; rw [if_pos hd, if_pos hd]; omega
      · rename_i hd; rw [if_neg hd, if_neg hd]; omega
theorem aLd (w : List Int) (r : Rd) : (mU w r).seek = r.seek := by
  have hf : (sC w r).seek = r.seek := by unfold sC; split <;> rfl
  unfold mU
  split
  · rfl
  · split
    · exact hf
    · split
      · rfl
      · exact hf
theorem aMg {w : List Int} {r : Rd} (h : FewS r.seek) : FewS (iF w r).seek := by
  unfold iF
  split
  · unfold qP
    split
    · exact h
    · split
      · exact h
      · split <;> exact h
  split
  · unfold sB
    split
    · exact h
    · rename_i x hx; exact aLc hx
  split
  · exact aMf h
  split
  · rw [aLd]; exact h
  split
  · exact h
  split
  · exact h
  split
  · exact h
  · exact h
theorem aIp {w : List Int} {r : Rd} (h : FewS r.seek) : ∀ k, FewS (seqR w r k).seek
  | 0 => h
  | k + 1 => aMg (aIp h k)
end Lam
namespace Lam
open Go Go.Proofs
def cD.loops : Nat → bU
 | 2 => ⟨[5], [false], [0, 1], [], [], []⟩
 | _ => ⟨[], [], [], [], [], []⟩
def cD.L1 (c : Ctx) (J1 : List AObj → Prop) (K : AOut → List AObj → Prop) (lv : List AV) (h0 : List AObj) (n0 : Nat) (c0 : AV) (c1 : AV) : Prop :=
 ∃ I : Nat → List AV → List AObj → Prop, (∃ n, I n lv h0) ∧ ∀ n h, ∀ t5, I n [t5] h →
 runD (lenD aK h c0) h fun t8 h =>
 runD (binD aB .lss t5 t8) h fun t9 h =>
 bE t9
 (runD (aG aK h c0 t5) h fun t14 h =>
 runD (fitD aB (aD h t14)) h fun t15 h =>
 runD (binD aB .eql t15 c1) h fun t17 h =>
 bE t17
 (K (.ret (.bool true)) h)
 (runD (binD aB .add t5 (.int .i64 1)) h fun t11 h =>
 (∃ m, m < n ∧ I m (AV.norms n0 h [t11]) (cJ n0 h)) ∧ AV.norms n0 h [c0, c1] = [c0, c1]))
 (J1 h)
def cD.H (c : Ctx) (t0 : AV) (t1 : AV) (h : List AObj) (K : AOut → List AObj → Prop) : Prop :=
 aL (fun (J1 : List AObj → Prop) =>
 dM [false] [(.int .i64 0)] h fun lv h => cD.L1 c J1 K (AV.norms h.length h lv) (cJ h.length h) h.length (AV.norm h.length h t0) (AV.norm h.length h t1))
 (fun h => K (.ret (.bool false)) h)
theorem cD.eq (F : List (FuncId × aE)) (S : List (FuncId × Con)) (t0 t1 : AV) (h : List AObj) (K : AOut → List AObj → Prop) : funW (ctx F S cD.loops) Tryz.f48 [t0, t1] h K = cD.H (ctx F S cD.loops) t0 t1 h K := by kernel_rfl
theorem cD.at : Tryz.prog.funcs[48]? = some Tryz.f48 := by kernel_rfl
theorem cD.nm : (Tryz.f48.name == "runtime.NumGoroutine") = false := by kernel_rfl
theorem cD.bd : Tryz.f48.body.isNone = false := by kernel_rfl
end Lam
namespace Lam
open Go Go.Proofs
def cD.C : aE
  | [.sl _ (.ints .i64 l), .int .i64 v] => some (false, pD (roomy l.length) (.bool (decide (v ∈ l))))
  | _ => none
theorem cD.spec : bN Tryz.prog 48 cD.C := by
  refine bN.of (bQ (F := []) (S := []) (by simp) (by simp) cD.loops) cD.at cD.nm cD.bd ?_
  intro vs b S v news e hS
  unfold cD.C at e
  split at e
  rotate_left
  · cases e
  cases e
  rw [cD.eq]
  unfold cD.H
  simp (maxSteps := 4000000) only [go_sem, reduceEqDiff, Nat.reduceLT, reduceAdd, reduceSub, reduceLeDiff, reduceReplicate, reduceToNat]
  rename_i _ l v
  rw [aA]
  unfold cD.L1
  have hr := hS
  unfold roomy at hr
  refine lF (σ := Nat) (fun k => .int .i64 k) (fun k => []) (fun k => l.length - k) (fun k => k ≤ l.length ∧ v ∉ l.take k) 0 rfl rfl ⟨Nat.zero_le _, by simp⟩ ?_
  rintro I back k ⟨hk, hall⟩
  simp only [go_sem, reduceEqDiff, Nat.reduceLT, reduceAdd, reduceSub, reduceLeDiff, reduceReplicate, reduceToNat]
  refine ⟨fun hlt => ⟨by omega, fun h => ?_, fun h => ?_⟩, fun hge => ?_⟩
  · have : v ∈ l := by rw [← h]; exact lJ l k 0 (by omega)
    rw [decide_eq_true this]; exact aH rfl rfl
  · refine back (k + 1) (by omega) (by rw [eS (by omega)]) rfl ⟨by omega, fun hm => ?_⟩
    rw [iH l k 0 (by omega), List.mem_append, List.mem_singleton] at hm
    rcases hm with hm | hm
    · exact hall hm
    · exact h hm.symm
  · obtain rfl : k = l.length := by omega
    rw [List.take_length] at hall
    rw [decide_eq_false hall]; exact aH rfl rfl
end Lam
namespace Lam
open Go Go.Proofs
def cC.loops : Nat → bU
 | 4 => ⟨[8, 10], [false, false], [0, 1, 5, 9], [(3, none), (2, some [30, 32])], [], []⟩
 | 10 => ⟨[], [], [], [(4, none), (3, some [53, 56]), (2, none), (2, some [58, 60]), (2, none), (3, some [62, 65])], [], []⟩
 | _ => ⟨[], [], [], [], [], []⟩
def cC.L1 (c : Ctx) (J1 : List AObj → Prop) (K : AOut → List AObj → Prop) (lv : List AV) (h0 : List AObj) (n0 : Nat) (c0 : AV) (c1 : AV) (c5 : AV) (c9 : AV) : Prop :=
 ∃ I : Nat → List AV → List AObj → Prop, (∃ n, I n lv h0) ∧ ∀ n h, ∀ t8, ∀ t10, I n [t8, t10] h →
 runD (binD aB .lss t10 (.int .i64 300)) h fun t29 h =>
 aL (fun (J2 : AV → AV → List AObj → Prop) =>
 bF t29 true
 (runD (binD cN .eql c9 (.int .i64 0)) h fun t32 h =>
 J2 (.bool true) t32 h)
 (J2 (.bool false) .und h))
 (fun t30 t32 h => runD (bT t30 t32 (.bool false)) h fun t33 h =>
 bE t33
 (aP false c (.fn (.func 46) [] []) [c0, t8] h (fun t39 h =>
 runD (aW t39 0) h fun t40 h =>
 runD (aW t39 1) h fun t41 h =>
 cS bA h fun t11 h =>
 runH (aR bA h t11 t40) h fun _ h =>
 aP false c (.fn (.func 47) [] []) [c0, t8] h (fun t45 h =>
 runD (aW t45 0) h fun t46 h =>
 runD (aW t45 1) h fun t47 h =>
 runD (binD cN .neq t41 (.int .i64 0)) h fun t49 h =>
 bE t49
 (K (.ret (.int .i64 1)) h)
 (runD (aC bA t11 0) h fun t50 h =>
 runD (fitD aB (aD h t50)) h fun t51 h =>
 runD (binD aB .eql t51 (.int .i64 0)) h fun t52 h =>
 aL (fun (J3 : AV → AV → List AObj → Prop) =>
 bF t52 true
 (aP false c (.fn (.func 48) [] []) [c5, t8] h (fun t56 h =>
 J3 (.bool true) t56 h)
 (fun v h => K (.pan v) h))
 (J3 (.bool false) .und h))
 (fun t53 t56 h => runD (bT t53 t56 (.bool false)) h fun t57 h =>
 aL (fun (J4 : AV → AV → List AObj → Prop) =>
 bF t57 true
 (runD (binD cN .eql t47 (.int .i64 0)) h fun t60 h =>
 J4 (.bool true) t60 h)
 (J4 (.bool false) .und h))
 (fun t58 t60 h => runD (bT t58 t60 (.bool false)) h fun t61 h =>
 aL (fun (J5 : AV → AV → List AObj → Prop) =>
 bF t61 true
 (runD (binD cE .leq t46 c1) h fun t65 h =>
 J5 (.bool true) t65 h)
 (J5 (.bool false) .und h))
 (fun t62 t65 h => runD (bT t62 t65 (.bool false)) h fun t66 h =>
 bE t66
 (K (.ret (.int .i64 1)) h)
 (runD (aC bA t11 0) h fun t67 h =>
 runD (fitD aB (aD h t67)) h fun t68 h =>
 runD (binD aB .eql t68 (.int .i64 0)) h fun t69 h =>
 bE t69
 (K (.ret (.int .i64 0)) h)
 (aP false c (.fn (.func 49) [] []) [c0, t8, c1, (.int .i64 0)] h (fun t74 h =>
 runD (aW t74 0) h fun t75 h =>
 runD (aW t74 1) h fun t76 h =>
 runD (binD cN .neq t76 (.int .i64 0)) h fun t78 h =>
 bE t78
 (K (.ret (.int .i64 1)) h)
 (runD (binD aB .add t10 (.int .i64 1)) h fun t35 h =>
 (∃ m, m < n ∧ I m (AV.norms n0 h [t75, t35]) (cJ n0 h)) ∧ AV.norms n0 h [c0, c1, c5, c9] = [c0, c1, c5, c9]))
 (fun v h => K (.pan v) h))))))))
 (fun v h => K (.pan v) h))
 (fun v h => K (.pan v) h))
 (J1 h))
def cC.H (c : Ctx) (t0 : AV) (t1 : AV) (h : List AObj) (K : AOut → List AObj → Prop) : Prop :=
 aP false c (.fn (.func 24) [] []) [t0] h (fun t19 h =>
 runD (aW t19 0) h fun t20 h =>
 runD (aW t19 1) h fun t21 h =>
 aP false c (.fn (.func 38) [] []) [t0] h (fun t24 h =>
 runD (aW t24 0) h fun t25 h =>
 runD (aW t24 1) h fun t26 h =>
 runD (aW t24 2) h fun t27 h =>
 aL (fun (J1 : List AObj → Prop) =>
 dM [false, false] [t26, (.int .i64 0)] h fun lv h => cC.L1 c J1 K (AV.norms h.length h lv) (cJ h.length h) h.length (AV.norm h.length h t0) (AV.norm h.length h t1) (AV.norm h.length h t20) (AV.norm h.length h t27))
 (fun h => K (.ret (.int .i64 0)) h))
 (fun v h => K (.pan v) h))
 (fun v h => K (.pan v) h)
theorem cC.eq (F : List (FuncId × aE)) (S : List (FuncId × Con)) (t0 t1 : AV) (h : List AObj) (K : AOut → List AObj → Prop) : funW (ctx F S cC.loops) Tryz.f23 [t0, t1] h K = cC.H (ctx F S cC.loops) t0 t1 h K := by kernel_rfl
theorem cC.at : Tryz.prog.funcs[23]? = some Tryz.f23 := by kernel_rfl
theorem cC.nm : (Tryz.f23.name == "runtime.NumGoroutine") = false := by kernel_rfl
theorem cC.bd : Tryz.f23.body.isNone = false := by kernel_rfl
end Lam
namespace Lam
open Go Go.Proofs
def cL.loops : Nat → bU
 | 4 => ⟨[9], [false], [4, 5, 7], [(3, none), (3, some [23, 26])], [], []⟩
 | _ => ⟨[], [], [], [], [], []⟩
def cL.L1 (c : Ctx) (J1 : AV → AV → List AObj → Prop) (K : AOut → List AObj → Prop) (lv : List AV) (h0 : List AObj) (n0 : Nat) (c4 : AV) (c5 : AV) (c7 : AV) : Prop :=
 ∃ I : Nat → List AV → List AObj → Prop, (∃ n, I n lv h0) ∧ ∀ n h, ∀ t9, I n [t9] h →
 runD (binD aB .lss t9 (.int .i64 2000)) h fun t22 h =>
 aL (fun (J2 : AV → AV → List AObj → Prop) =>
 bF t22 true
 (runD (aC aU c5 1) h fun t24 h =>
 runD (fitD aB (aD h t24)) h fun t25 h =>
 runD (binD aB .neq t25 (.int .i64 8)) h fun t26 h =>
 J2 (.bool true) t26 h)
 (J2 (.bool false) .und h))
 (fun t23 t26 h => runD (bT t23 t26 (.bool false)) h fun t27 h =>
 bE t27
 (runD (fitD aM (aD h c7)) h fun t31 h =>
 runD (fitD aU (aD h c5)) h fun t32 h =>
 aP false c (.fn (.func 14) [] []) [t31, t32] h (fun t33 h =>
 runD (aW t33 0) h fun t34 h =>
 runD (aW t33 1) h fun t35 h =>
 runH (aR aM h c7 t34) h fun _ h =>
 runH (aR aU h c5 t35) h fun _ h =>
 runD (binD aB .add t9 (.int .i64 1)) h fun t29 h =>
 (∃ m, m < n ∧ I m (AV.norms n0 h [t29]) (cJ n0 h)) ∧ AV.norms n0 h [c4, c5, c7] = [c4, c5, c7])
 (fun v h => K (.pan v) h))
 (J1 c4 c5 h))
def cL.H (c : Ctx) (t0 : AV) (t1 : AV) (h : List AObj) (K : AOut → List AObj → Prop) : Prop :=
 cS aU h fun t4 h =>
 aP false c (.fn (.func 27) [] []) [t0, t1] h (fun t13 h =>
 runD (aW t13 0) h fun t14 h =>
 runD (aW t13 1) h fun t15 h =>
 cS aU h fun t5 h =>
 runH (aR aU h t5 t14) h fun _ h =>
 aP false c (.fn (.func 28) [] []) [t0] h (fun t18 h =>
 runD (aW t18 0) h fun t19 h =>
 runD (aW t18 1) h fun t20 h =>
 cS aM h fun t7 h =>
 runH (aR aM h t7 t19) h fun _ h =>
 aL (fun (J1 : AV → AV → List AObj → Prop) =>
 dM [false] [(.int .i64 0)] h fun lv h => cL.L1 c J1 K (AV.norms h.length h lv) (cJ h.length h) h.length (AV.norm h.length h t4) (AV.norm h.length h t5) (AV.norm h.length h t7))
 (fun t4 t5 h => runD (fitD aU (aD h t5)) h fun t36 h =>
 runH (aR aU h t4 t36) h fun _ h =>
 dA (fitD aU (aD h t4)) fun r0 => K (.ret r0) h))
 (fun v h => K (.pan v) h))
 (fun v h => K (.pan v) h)
theorem cL.eq (F : List (FuncId × aE)) (S : List (FuncId × Con)) (t0 t1 : AV) (h : List AObj) (K : AOut → List AObj → Prop) : funW (ctx F S cL.loops) Tryz.f25 [t0, t1] h K = cL.H (ctx F S cL.loops) t0 t1 h K := by kernel_rfl
theorem cL.at : Tryz.prog.funcs[25]? = some Tryz.f25 := by kernel_rfl
theorem cL.nm : (Tryz.f25.name == "runtime.NumGoroutine") = false := by kernel_rfl
theorem cL.bd : Tryz.f25.body.isNone = false := by kernel_rfl
end Lam
namespace Lam
open Go Go.Proofs
def rG (w : List Int) : List Int := (lA (eL w) w).getD []
theorem aJB (w : List Int) : ∃ e, pS w = .tup [.sl false (.ints .i64 (rG w)), .int .i64 e] := by
  unfold rG pS
  cases lA (eL w) w with
  | none => exact ⟨_, rfl⟩
  | some l => exact ⟨_, rfl⟩
theorem aHK (w : List Int) : (rG w).length ≤ w.length / 16 := by
  unfold rG
  cases h : lA (eL w) w with
  | none => exact Nat.zero_le _
  | some l => exact (mX h).2.2.2.1
theorem aJC {w l : List Int} {key : bD} {k : Nat} {b : Int} (h : dJ w b = none) : mG w l key (k + 1) b = true := by unfold mG; rw [h]
theorem aJD {w l : List Int} {key : bD} {k : Nat} {b : Int} {n : Nd} (h : dJ w b = some n) (h0 : n.level = 0) : mG w l key (k + 1) b = (decide (b ∈ l) && (match lowO w n with
    | none => false
    | some low => !ltB key low)) := by unfold mG; rw [h]; simp only; rw [if_pos h0] <;> rfl
theorem aMh {w l : List Int} {key : bD} {k : Nat} {b : Int} {n : Nd} (h : dJ w b = some n) (h0 : n.level ≠ 0) (hd : lS w b key 0 = none) : mG w l key (k + 1) b = true := by unfold mG; rw [h]; simp only; rw [if_neg h0, hd]
theorem aMi {w l : List Int} {key : bD} {k : Nat} {b t : Int} {n : Nd} (h : dJ w b = some n) (h0 : n.level ≠ 0) (hd : lS w b key 0 = some t) : mG w l key (k + 1) b = mG w l key k t := by
  show (match dJ w b with
    | none => true
    | some n => _) = _
  rw [h]; simp only; rw [if_neg h0, hd]
def vY (w : List Int) (key : bD) : Int := if eL w = true ∧ mG w (rG w) key 300 (w.getD 3 0) = true then 1 else 0
def cC.C : aE
  | [.sl _ (.ints .i64 w), .str key] => some (false, pD (iI w) (.int .i64 (vY w key)))
  | _ => none
theorem cC.spec : bN Tryz.prog 23 cC.C := by
  refine bN.of (bQ (F := [(24, eF.C), (38, eB.C), (46, cK.C), (47, dG.C), (48, cD.C), (49, eC.C)]) (S := []) (by simpa using ⟨eF.spec, eB.spec, cK.spec, dG.spec, cD.spec, eC.spec⟩) (by simp) cC.loops) cC.at cC.nm cC.bd ?_
  intro vs b S v news e hS
  unfold cC.C at e
  split at e
  rotate_left
  · cases e
  cases e
  rw [cC.eq]
  unfold cC.H
  simp (maxSteps := 4000000) only [go_sem, reduceEqDiff, Nat.reduceLT, reduceAdd, reduceSub, reduceLeDiff, reduceReplicate, reduceToNat, eF.C, eB.C, cK.C, dG.C, cD.C, eC.C]
  rename_i w key
  have hr := iI.roomy hS
  have hw := hS.1
  obtain ⟨el, hlv⟩ := aJB w
  have hll := aHK w
  have hrl : roomy (rG w).length := by unfold roomy; omega
  unfold vY
  generalize rG w = l at *
  cases hb : eL w with
  | false =>
    have hv : kQ w = .tup [.int .i64 0, .int .i64 0, .int .i64 80] := by unfold kQ; rw [hb]; rfl
    simp only [hlv, hv, aA, decide_false, decide_true, aA, gq, reduceEq, reduceLT, reduceLE, implies_true, reduceCtorEq, if_true, if_false, go_sem, reduceEqDiff, Nat.reduceLT, reduceAdd, reduceSub, reduceLeDiff, reduceReplicate, reduceToNat]
    refine ⟨hS, hr, ?_⟩
    unfold cC.L1
    refine pP (σ := Nat) (fun k => .int .i64 0) (fun k => .int .i64 k) (fun k => []) (fun k => 0) (fun k => True) 0 rfl rfl trivial ?_
    intro I back k hk
    by_cases hk3 : (k : Int) < 300
    · simp only [hk3, aA, decide_false, decide_true, aA, gq, reduceEq, reduceLT, reduceLE, implies_true, reduceCtorEq, if_true, if_false, go_sem, reduceEqDiff, Nat.reduceLT, reduceAdd, reduceSub, reduceLeDiff, reduceReplicate, reduceToNat]
      exact aH (by rw [if_neg (fun h => by cases h.1)]; rfl) rfl
    · simp only [hk3, aA, decide_false, decide_true, aA, gq, reduceEq, reduceLT, reduceLE, implies_true, reduceCtorEq, if_true, if_false, go_sem, reduceEqDiff, Nat.reduceLT, reduceAdd, reduceSub, reduceLeDiff, reduceReplicate, reduceToNat]
      exact aH (by rw [if_neg (fun h => by cases h.1)]; rfl) rfl
  | true =>
    have hv : kQ w = .tup [.int .i64 (w.getD 1 0), .int .i64 (w.getD 3 0), .int .i64 0] := by unfold kQ; rw [hb]; rfl
    simp only [hlv, hv, aA, decide_false, decide_true, aA, gq, reduceEq, reduceLT, reduceLE, implies_true, reduceCtorEq, if_true, if_false, go_sem, reduceEqDiff, Nat.reduceLT, reduceAdd, reduceSub, reduceLeDiff, reduceReplicate, reduceToNat]
    refine ⟨hS, hr, ?_⟩
    obtain ⟨N, hN⟩ : ∃ N : Nat, N = 300 := ⟨_, rfl⟩
    rw [← hN]
    obtain ⟨Q, hQ⟩ : ∃ Q, mG w l key N (w.getD 3 0) = Q := ⟨_, rfl⟩
    rw [hQ]
    unfold cC.L1
    refine pP (σ := Nat × Int) (fun s => .int .i64 s.2) (fun s => .int .i64 s.1) (fun s => []) (fun s => N - s.1) (fun s => s.1 ≤ N ∧ mG w l key (N - s.1) s.2 = Q) (0, w.getD 3 0) rfl rfl ⟨by simp only; omega, hQ⟩ ?_
    rintro I back ⟨k, at_⟩ ⟨hk, hland⟩
    simp only at hk hland ⊢
    by_cases hk3 : k < N
    rotate_left
    · obtain rfl : k = N := by omega
      clear back
      rw [Nat.sub_self] at hland
      have hl0 : Q = false := hland.symm
      have d1 : decide ((k : Int) < 300) = false := decide_eq_false (by omega)
      simp only [hl0, d1, aA, decide_false, decide_true, aA, gq, reduceEq, reduceLT, reduceLE, implies_true, reduceCtorEq, if_true, if_false, go_sem, reduceEqDiff, Nat.reduceLT, reduceAdd, reduceSub, reduceLeDiff, reduceReplicate, reduceToNat]
      exact aH rfl rfl
    have d1 : decide ((k : Int) < 300) = true := decide_eq_true (by omega)
    obtain ⟨e2, h2⟩ := aIm w at_
    obtain ⟨m, hm⟩ : ∃ m, N - k = m + 1 := ⟨N - 1 - k, by omega⟩
    have hb : ∀ t, mG w l key m t = Q → _ := fun t ht => @back (N - k) _ [] (k + 1, t) (by simp only; omega) rfl rfl ⟨by simp only; omega, by simp only; rw [show N - (k + 1) = m by omega]; exact ht⟩
    clear back
    rw [hm] at hland
    cases hn : dJ w at_ with
    | none =>
      obtain ⟨e, he, h⟩ := nV hn
      rw [aJC hn] at hland
      simp only [cK.C, dG.C, h, h2, d1, jL, he, ← hland, decide_false, decide_true, aA, aA, gq, reduceEq, reduceLT, reduceLE, implies_true, reduceCtorEq, if_true, if_false, go_sem, reduceEqDiff, Nat.reduceLT, reduceAdd, reduceSub, reduceLeDiff, reduceReplicate, reduceToNat]
      exact ⟨hr, hS, aH rfl rfl⟩
    | some n =>
      by_cases h0 : n.level = 0
      · rw [aJD hn h0] at hland
        obtain ⟨n1, n2, n3, n4, n5⟩ := n
        simp only at h0
        subst h0
        clear hb
        cases hl : lowO w ⟨0, n2, n3, n4, n5⟩ with
        | none =>
          have hv : lowV w at_ = .tup [.str [], .int .i64 110] := by unfold lowV; rw [hn]; simp only [Option.bind_some, hl]
          rw [hl] at hland
          simp only [Bool.and_false] at hland
          subst hland
          cases hin : decide (at_ ∈ l) with
          | true =>
            simp only [cK.C, dG.C, cD.C, iS hn, Nd.V, hv, hin, d1, decide_false, decide_true, aA, aA, gq, reduceEq, reduceLT, reduceLE, implies_true, reduceCtorEq, if_true, if_false, go_sem, reduceEqDiff, Nat.reduceLT, reduceAdd, reduceSub, reduceLeDiff, reduceReplicate, reduceToNat]
            exact ⟨hr, hS, hrl, aH rfl rfl⟩
          | false =>
            simp only [cK.C, dG.C, cD.C, iS hn, Nd.V, hv, hin, d1, decide_false, decide_true, aA, aA, gq, reduceEq, reduceLT, reduceLE, implies_true, reduceCtorEq, if_true, if_false, go_sem, reduceEqDiff, Nat.reduceLT, reduceAdd, reduceSub, reduceLeDiff, reduceReplicate, reduceToNat]
            exact ⟨hr, hS, hrl, aH rfl rfl⟩
        | some low =>
          have hv : lowV w at_ = .tup [.str low, .int .i64 0] := by unfold lowV; rw [hn]; simp only [Option.bind_some, hl]
          rw [hl] at hland
          simp only at hland
          cases hin : decide (at_ ∈ l) with
          | true =>
            cases hlt : ltB key low with
            | true =>
              rw [hin, hlt] at hland
              subst hland
              simp only [cK.C, dG.C, cD.C, iS hn, Nd.V, hv, hin, hlt, d1, decide_false, decide_true, aA, aA, gq, reduceEq, reduceLT, reduceLE, implies_true, reduceCtorEq, if_true, if_false, go_sem, reduceEqDiff, Nat.reduceLT, reduceAdd, reduceSub, reduceLeDiff, reduceReplicate, reduceToNat]
              exact ⟨hr, hS, hrl, aH rfl rfl⟩
            | false =>
              rw [hin, hlt] at hland
              subst hland
              simp only [cK.C, dG.C, cD.C, iS hn, Nd.V, hv, hin, hlt, d1, decide_false, decide_true, aA, aA, gq, reduceEq, reduceLT, reduceLE, implies_true, reduceCtorEq, if_true, if_false, go_sem, reduceEqDiff, Nat.reduceLT, reduceAdd, reduceSub, reduceLeDiff, reduceReplicate, reduceToNat]
              exact ⟨hr, hS, hrl, aH rfl rfl⟩
          | false =>
            rw [hin, Bool.false_and] at hland
            subst hland
            simp only [cK.C, dG.C, cD.C, iS hn, Nd.V, hv, hin, d1, decide_false, decide_true, aA, aA, gq, reduceEq, reduceLT, reduceLE, implies_true, reduceCtorEq, if_true, if_false, go_sem, reduceEqDiff, Nat.reduceLT, reduceAdd, reduceSub, reduceLeDiff, reduceReplicate, reduceToNat]
            exact ⟨hr, hS, hrl, aH rfl rfl⟩
      · cases hd : lS w at_ key 0 with
        | none =>
          have hv : nW w at_ key 0 = .tup [.int .i64 0, .int .i64 90] := by unfold nW; rw [hd]
          rw [aMh hn h0 hd] at hland
          rw [← hland]
          obtain ⟨n1, n2, n3, n4, n5⟩ := n
          simp only at h0
          simp only [cK.C, dG.C, eC.C, iS hn, Nd.V, h2, hv, h0, d1, decide_false, decide_true, aA, aA, gq, reduceEq, reduceLT, reduceLE, implies_true, reduceCtorEq, if_true, if_false, go_sem, reduceEqDiff, Nat.reduceLT, reduceAdd, reduceSub, reduceLeDiff, reduceReplicate, reduceToNat]
          exact ⟨hr, hS, hS, aH rfl rfl⟩
        | some t =>
          have hv : nW w at_ key 0 = .tup [.int .i64 t, .int .i64 0] := by unfold nW; rw [hd]
          rw [aMi hn h0 hd] at hland
          have hb2 := hb t hland
          clear hb
          obtain ⟨n1, n2, n3, n4, n5⟩ := n
          simp only at h0
          simp only [cK.C, dG.C, eC.C, iS hn, Nd.V, h2, hv, h0, d1, eS (show k < 4611686018427387904 by omega), decide_false, decide_true, aA, aA, gq, reduceEq, reduceLT, reduceLE, implies_true, reduceCtorEq, if_true, if_false, go_sem, reduceEqDiff, Nat.reduceLT, reduceAdd, reduceSub, reduceLeDiff, reduceReplicate, reduceToNat] at hb2 ⊢
          exact ⟨hr, hS, hS, hb2⟩
end Lam
namespace Lam
open Go Go.Proofs
def begR (w : List Int) (key : bD) : Rd := if key ≠ [] ∧ key.length ≤ 21 then rd0 w key else rdZ
theorem aLe (w : List Int) (key : bD) : ∃ e, mV w key = .tup [(begR w key).V, .int .i64 e] := by
  unfold mV begR
  by_cases h : key ≠ [] ∧ key.length ≤ 21
  · rw [if_pos h, if_pos h]; exact ⟨_, rfl⟩
  · rw [if_neg h, if_neg h]; exact ⟨_, rfl⟩
theorem aNg (w : List Int) (key : bD) : FewS (begR w key).seek := by
  unfold begR
  split
  · exact aIo
  · exact aIo
theorem aNh {w : List Int} (h1 : w.length ≤ 1000) (h2 : w.length % 16 = 0) : newM w = .tup [memV w w [], .int .i64 0] := by
  have hs : szB w.length = true := by
    unfold szB
    rw [decide_eq_true (by omega), Int.tmod_eq_emod_of_nonneg (by omega), decide_eq_true (by omega)]; rfl
  unfold newM
  rw [hs]; rfl
theorem aLf {w : List Int} (hw : w.length ≤ 1000) (hi : i64s w) (r : Rd) (h : FewS r.seek) : (kP w w [] ∧ iI w ∧ r.seek.refs.length ≤ 200) ∧ nX ⟨w, w, []⟩ r = (⟨w, w, []⟩, iF w r) :=
  ⟨⟨⟨by unfold roomy; omega, by unfold roomy; omega, by unfold roomy; decide⟩, ⟨by omega, hi⟩, Nat.le_trans h.1 (by decide)⟩, aHJ w r⟩
def uU (w : List Int) (key : bD) : Rd := seqR w (begR w key) 2000
def cL.C : aE
  | [.sl _ (.ints .i64 w), .str key] => some (false, pD (w.length ≤ 1000 ∧ w.length % 16 = 0 ∧ i64s w) (uU w key).V)
  | _ => none
theorem cL.spec : bN Tryz.prog 25 cL.C := by
  refine bN.of (bQ (F := [(27, fB.C), (28, gU.C), (14, fR.C)]) (S := []) (by simpa using ⟨fB.spec, gU.spec, fR.spec⟩) (by simp) cL.loops) cL.at cL.nm cL.bd ?_
  intro vs b S v news e hS
  unfold cL.C at e
  split at e
  rotate_left
  · cases e
  cases e
  rw [cL.eq]
  unfold cL.H
  simp (maxSteps := 4000000) only [go_sem, reduceEqDiff, Nat.reduceLT, reduceAdd, reduceSub, reduceLeDiff, reduceReplicate, reduceToNat, fB.C, gU.C, fR.C]
  rename_i w key
  obtain ⟨hw, h16, hi⟩ := hS
  have hr : roomy w.length := by unfold roomy; omega
  obtain ⟨eb, hbg⟩ := aLe w key
  have hfew := aNg w key
  unfold uU
  generalize begR w key = r0 at *
  have hst : ∀ k, _ := fun k => aLf hw hi _ (aIp (w := w) hfew k)
  have hnx : ∀ k, iF w (seqR w r0 k) = seqR w r0 (k + 1) := fun _ => rfl
  obtain ⟨N, hN⟩ : ∃ N : Nat, N = 2000 := ⟨_, rfl⟩
  rw [← hN]
  have hend : ∀ k, k ≤ N → (seqR w r0 k).phase = 8 → seqR w r0 N = seqR w r0 k := fun k hk h => aDy h hk
  have h0 : seqR w r0 0 = r0 := rfl
  have hnm := aNh hw h16
  generalize seqR w r0 = f at *
  obtain ⟨Z, hZ⟩ : ∃ Z, f N = Z := ⟨_, rfl⟩
  rw [hZ] at hend ⊢
  clear hfew
  obtain ⟨z1, z2, z3, z4, ⟨v1, v2, v3, v4, v5⟩, z5, z6⟩ := Z
  simp only [hbg, hnm, memV, aA, gq, reduceEq, reduceLT, reduceLE, implies_true, reduceCtorEq, if_true, if_false, go_sem, reduceEqDiff, Nat.reduceLT, reduceAdd, reduceSub, reduceLeDiff, reduceReplicate, reduceToNat]
  obtain ⟨r1, r2, r3, r4, ⟨s1, s2, s3, s4, s5⟩, r5, r6⟩ := r0
  simp only [Rd.V, Sk.V, aA, gq, reduceEq, reduceLT, reduceLE, implies_true, reduceCtorEq, if_true, if_false, go_sem, reduceEqDiff, Nat.reduceLT, reduceAdd, reduceSub, reduceLeDiff, reduceReplicate, reduceToNat]
  refine ⟨hr, hr, ?_⟩
  unfold cL.L1
  refine lF (σ := Nat) (fun k => .int .i64 k) (fun k => [.box rdZ.V, .box (f k).V, .box (memV w w [])]) (fun k => N - k) (fun k => k ≤ N) 0 rfl (by rw [h0]; rfl) (Nat.zero_le _) ?_
  intro I back k hk
  simp only
  obtain ⟨hst, hsv⟩ := hst k
  have hb : k < N → _ := fun h => @back (N - k) _ _ (k + 1) (by omega) rfl rfl (by omega)
  have hend := hend k hk
  rw [hnx] at hsv
  clear back hnx
  by_cases hkN : k < N
  · have d1 : decide ((k : Int) < 2000) = true := decide_eq_true (by omega)
    generalize f (k + 1) = y at *
    generalize f k = x at *
    obtain ⟨x1, x2, x3, x4, ⟨y1, y2, y3, y4, y5⟩, x5, x6⟩ := x
    simp only at hst hend
    by_cases h8 : x2 = 8
    · subst h8
      have hend := hend rfl
      clear hb hst hsv
      simp only [Rd.mk.injEq, Sk.mk.injEq] at hend
      obtain ⟨rfl, rfl, rfl, rfl, ⟨rfl, rfl, rfl, rfl, rfl⟩, rfl, rfl⟩ := hend
      simp only [rdZ, Rd.V, Sk.V, skZ, memV, d1, decide_false, decide_true, aA, aA, gq, reduceEq, reduceLT, reduceLE, implies_true, reduceCtorEq, if_true, if_false, go_sem, reduceEqDiff, Nat.reduceLT, reduceAdd, reduceSub, reduceLeDiff, reduceReplicate, reduceToNat]
      exact aH rfl rfl
    · have hb := hb hkN
      obtain ⟨a1, a2, a3, a4, ⟨b1, b2, b3, b4, b5⟩, a5, a6⟩ := y
      simp only [fR.C, hsv, Mm.V, rdZ, Rd.V, Sk.V, skZ, memV, d1, h8, eS (show k < 4611686018427387904 by omega), decide_false, decide_true, aA, aA, gq, reduceEq, reduceLT, reduceLE, implies_true, reduceCtorEq, if_true, if_false, go_sem, reduceEqDiff, Nat.reduceLT, reduceAdd, reduceSub, reduceLeDiff, reduceReplicate, reduceToNat] at hb ⊢
      exact ⟨hst, hb⟩
  · obtain rfl : k = N := by omega
    have d1 : decide ((k : Int) < 2000) = false := decide_eq_false (by omega)
    clear hb hend hst hsv
    rw [hZ]
    simp only [rdZ, Rd.V, Sk.V, skZ, memV, d1, decide_false, decide_true, aA, aA, gq, reduceEq, reduceLT, reduceLE, implies_true, reduceCtorEq, if_true, if_false, go_sem, reduceEqDiff, Nat.reduceLT, reduceAdd, reduceSub, reduceLeDiff, reduceReplicate, reduceToNat]
    exact aH rfl rfl
end Lam
namespace Lam
open Go Go.Proofs
theorem aEV (w : List Int) : ∀ k, seqR w rdZ k = rdZ
  | 0 => rfl
  | k + 1 => by
    show iF w (seqR w rdZ k) = rdZ
    rw [aEV w k]
    unfold iF
    rw [if_neg (by decide), if_neg (by decide), if_neg (by decide), if_neg (by decide), if_neg (by decide), if_neg (by decide), if_neg (by decide)]
theorem aGT {w : List Int} {key : bD} (h : ¬(key ≠ [] ∧ key.length ≤ 21)) : uU w key = rdZ := by
  unfold uU begR
  rw [if_neg h]; exact aEV w _
theorem aJE {w l : List Int} {key : bD} (h : iV (eL w) w = some l) (hl : vY w key ≠ 0) : mG w l key 300 (w.getD 3 0) = true := by
  unfold vY rG at hl
  rw [(pT h).1] at hl
  by_cases hc : eL w = true ∧ mG w ((some l).getD []) key 300 (w.getD 3 0) = true
  · exact hc.2
  · rw [if_neg hc] at hl; exact absurd rfl hl
theorem aIq {w l : List Int} {key : bD} (hw : w.length ≤ 1000) (h : iV (eL w) w = some l) (hk : key ≠ [] ∧ key.length ≤ 21) (hl : vY w key ≠ 0) : ∃ a c d e, uU w key = ⟨a, 8, c, d, e, (aAM (getP (allP w l) key)).2, (aAM (getP (allP w l) key)).1⟩ := by
  have hll := (mX (pT h).1).2.2.2.1
  obtain ⟨h1, h2⟩ := aSr h (by omega) (aJE h hl) 2000 (by omega)
  have e : uU w key = seqR w (rd0 w key) 2000 := by unfold uU begR; rw [if_pos hk]
  rw [e]
  generalize seqR w (rd0 w key) 2000 = r at *
  obtain ⟨r1, r2, r3, r4, r5, r6, r7⟩ := r
  simp only at h1 h2
  subst h1
  rw [← h2]
  exact ⟨r1, r3, r4, r5, rfl⟩
theorem aEW {w : List Int} (hw : w.length ≤ 1000) : ∃ P e, aDx w = .tup [.sl false (.pairs P), .int .i64 e] ∧ roomy P.length ∧ (e = 0 → ∃ l, iV (eL w) w = some l ∧ P = allP w l) := by
  unfold aDx
  cases h : iV (eL w) w with
  | none => exact ⟨[], 110, rfl, by unfold roomy; decide, fun h => by omega⟩
  | some l =>
    have hll := (mX (pT h).1).2.2.2.1
    have hal := aCk w l
    exact ⟨allP w l, 0, rfl, by unfold roomy; omega, fun _ => ⟨l, rfl, rfl⟩⟩
end Lam
namespace Lam
open Go Go.Proofs
def bZ.loops : Nat → bU
 | 4 => ⟨[5], [false], [0, 1], [], [], []⟩
 | _ => ⟨[], [], [], [], [], []⟩
def bZ.L1 (c : Ctx) (J1 : List AObj → Prop) (K : AOut → List AObj → Prop) (lv : List AV) (h0 : List AObj) (n0 : Nat) (c0 : AV) (c1 : AV) : Prop :=
 ∃ I : Nat → List AV → List AObj → Prop, (∃ n, I n lv h0) ∧ ∀ n h, ∀ t5, I n [t5] h →
 runD (lenD iE h c0) h fun t13 h =>
 runD (binD aB .lss t5 t13) h fun t14 h =>
 bE t14
 (runD (aG iE h c0 t5) h fun t19 h =>
 runD (fitD lT (aD h t19)) h fun t20 h =>
 runD (aG iE h c1 t5) h fun t23 h =>
 runD (fitD lT (aD h t23)) h fun t24 h =>
 runD (binD lT .neq t20 t24) h fun t25 h =>
 bE t25
 (K (.ret (.bool false)) h)
 (runD (binD aB .add t5 (.int .i64 1)) h fun t16 h =>
 (∃ m, m < n ∧ I m (AV.norms n0 h [t16]) (cJ n0 h)) ∧ AV.norms n0 h [c0, c1] = [c0, c1]))
 (J1 h)
def bZ.H (c : Ctx) (t0 : AV) (t1 : AV) (h : List AObj) (K : AOut → List AObj → Prop) : Prop :=
 runD (lenD iE h t0) h fun t7 h =>
 runD (lenD iE h t1) h fun t9 h =>
 runD (binD aB .neq t7 t9) h fun t10 h =>
 bE t10
 (K (.ret (.bool false)) h)
 (aL (fun (J1 : List AObj → Prop) =>
 dM [false] [(.int .i64 0)] h fun lv h => bZ.L1 c J1 K (AV.norms h.length h lv) (cJ h.length h) h.length (AV.norm h.length h t0) (AV.norm h.length h t1))
 (fun h => K (.ret (.bool true)) h))
theorem bZ.eq (F : List (FuncId × aE)) (S : List (FuncId × Con)) (t0 t1 : AV) (h : List AObj) (K : AOut → List AObj → Prop) : funW (ctx F S bZ.loops) Tryz.f20 [t0, t1] h K = bZ.H (ctx F S bZ.loops) t0 t1 h K := by kernel_rfl
theorem bZ.at : Tryz.prog.funcs[20]? = some Tryz.f20 := by kernel_rfl
theorem bZ.nm : (Tryz.f20.name == "runtime.NumGoroutine") = false := by kernel_rfl
theorem bZ.bd : Tryz.f20.body.isNone = false := by kernel_rfl
end Lam
namespace Lam
open Go Go.Proofs
def bZ.C : aE
  | [.sl _ (.pairs a), .sl _ (.pairs b)] => some (false, pD (roomy a.length) (.bool (decide (a = b))))
  | _ => none
theorem bZ.spec : bN Tryz.prog 20 bZ.C := by
  refine bN.of (bQ (F := []) (S := []) (by simp) (by simp) bZ.loops) bZ.at bZ.nm bZ.bd ?_
  intro vs b S v news e hS
  unfold bZ.C at e
  split at e
  rotate_left
  · cases e
  cases e
  rw [bZ.eq]
  unfold bZ.H
  simp (maxSteps := 4000000) only [go_sem, reduceEqDiff, Nat.reduceLT, reduceAdd, reduceSub, reduceLeDiff, reduceReplicate, reduceToNat]
  rename_i a _ b
  unfold roomy at hS
  refine ⟨fun hne => ?_, fun heq => ?_⟩
  · have : decide (a = b) = false := by rw [decide_eq_false_iff_not]; rintro rfl; exact hne rfl
    rw [this]; exact aH rfl rfl
  rw [aA]
  unfold bZ.L1
  have hlen : a.length = b.length := by omega
  refine lF (fun k : Nat => .int .i64 k) (fun _ => []) (fun k => a.length - k) (fun k => k ≤ a.length ∧ ∀ i, i < k → a.getD i ⟨[], []⟩ = b.getD i ⟨[], []⟩) 0 rfl rfl ⟨Nat.zero_le _, fun i hi => absurd hi (Nat.not_lt_zero i)⟩ ?_
  rintro I back k ⟨hk, hall⟩
  simp only [go_sem, reduceEqDiff, Nat.reduceLT, reduceAdd, reduceSub, reduceLeDiff, reduceReplicate, reduceToNat]
  have hp : ∀ x y : oG, (decide (x.key = y.key) && decide (x.val = y.val)) = decide (x = y) := fun x y => by
    obtain ⟨x1, x2⟩ := x
    obtain ⟨y1, y2⟩ := y
    rw [Bool.eq_iff_iff]
    simp only [Bool.and_eq_true, decide_eq_true_eq, oG.mk.injEq]
  simp only [hp, decide_eq_true_eq, decide_eq_false_iff_not]
  refine ⟨fun hlt => ⟨by omega, by omega, fun h0 => ?_, fun h0 => ?_⟩, fun hge => ?_⟩
  · have : decide (a = b) = false := by rw [decide_eq_false_iff_not]; rintro rfl; exact h0 rfl
    rw [this]; exact aH rfl rfl
  · refine back (k + 1) (by omega) (by rw [eS (by omega)]) rfl ⟨by omega, fun i hi => ?_⟩
    by_cases e : i = k
    · subst e; exact h0
    · exact hall i (by omega)
  · rw [decide_eq_true (aSf ⟨[], []⟩ hlen fun i hi => hall i (by omega))]; exact aH rfl rfl
end Lam
namespace Lam
open Go Go.Proofs
def fC.loops : Nat → bU
 | 2 => ⟨[], [], [], [(4, none), (3, some [18, 21]), (2, none), (4, some [23, 27]), (2, none), (4, some [29, 33]), (2, none), (3, some [35, 38])], [], []⟩
 | 6 => ⟨[], [], [], [(3, none), (2, some [53, 55]), (2, none), (4, some [57, 61]), (2, none), (4, some [63, 67]), (2, none), (4, some [69, 73])], [], []⟩
 | 10 => ⟨[], [], [], [(2, none), (5, some [83, 88]), (2, none), (5, some [90, 95]), (2, none), (5, some [97, 102])], [], []⟩
 | _ => ⟨[], [], [], [], [], []⟩
def fC.H (c : Ctx) (t0 : AV) (t1 : AV) (t2 : AV) (h : List AObj) (K : AOut → List AObj → Prop) : Prop :=
 aP false c (.fn (.func 11) [] []) [] h (fun t14 h =>
 runD (lenD aK h t0) h fun t16 h =>
 runD (binD aB .gtr t16 (.int .i64 1000)) h fun t17 h =>
 aL (fun (J1 : AV → AV → List AObj → Prop) =>
 bF t17 false
 (runD (lenD aK h t1) h fun t20 h =>
 runD (binD aB .gtr t20 (.int .i64 1000)) h fun t21 h =>
 J1 (.bool false) t21 h)
 (J1 (.bool true) .und h))
 (fun t18 t21 h => runD (bT t18 (.bool true) t21) h fun t22 h =>
 aL (fun (J2 : AV → AV → List AObj → Prop) =>
 bF t22 false
 (runD (lenD aK h t0) h fun t25 h =>
 runD (binD aB .rem t25 (.int .i64 16)) h fun t26 h =>
 runD (binD aB .neq t26 (.int .i64 0)) h fun t27 h =>
 J2 (.bool false) t27 h)
 (J2 (.bool true) .und h))
 (fun t23 t27 h => runD (bT t23 (.bool true) t27) h fun t28 h =>
 aL (fun (J3 : AV → AV → List AObj → Prop) =>
 bF t28 false
 (runD (lenD aK h t1) h fun t31 h =>
 runD (binD aB .rem t31 (.int .i64 16)) h fun t32 h =>
 runD (binD aB .neq t32 (.int .i64 0)) h fun t33 h =>
 J3 (.bool false) t33 h)
 (J3 (.bool true) .und h))
 (fun t29 t33 h => runD (bT t29 (.bool true) t33) h fun t34 h =>
 aL (fun (J4 : AV → AV → List AObj → Prop) =>
 bF t34 false
 (runD (lenD cE h t2) h fun t37 h =>
 runD (binD aB .gtr t37 (.int .i64 100)) h fun t38 h =>
 J4 (.bool false) t38 h)
 (J4 (.bool true) .und h))
 (fun t35 t38 h => runD (bT t35 (.bool true) t38) h fun t39 h =>
 bE t39
 (K (.ret t14) h)
 (aP false c (.fn (.func 26) [] []) [t0] h (fun t43 h =>
 runD (aW t43 0) h fun t44 h =>
 runD (aW t43 1) h fun t45 h =>
 aP false c (.fn (.func 26) [] []) [t1] h (fun t48 h =>
 runD (aW t48 0) h fun t49 h =>
 runD (aW t48 1) h fun t50 h =>
 runD (binD cN .neq t45 (.int .i64 0)) h fun t52 h =>
 aL (fun (J5 : AV → AV → List AObj → Prop) =>
 bF t52 false
 (runD (binD cN .neq t50 (.int .i64 0)) h fun t55 h =>
 J5 (.bool false) t55 h)
 (J5 (.bool true) .und h))
 (fun t53 t55 h => runD (bT t53 (.bool true) t55) h fun t56 h =>
 aL (fun (J6 : AV → AV → List AObj → Prop) =>
 bF t56 false
 (aP false c (.fn (.func 20) [] []) [t44, t49] h (fun t60 h =>
 runD (unD .not t60) h fun t61 h =>
 J6 (.bool false) t61 h)
 (fun v h => K (.pan v) h))
 (J6 (.bool true) .und h))
 (fun t57 t61 h => runD (bT t57 (.bool true) t61) h fun t62 h =>
 aL (fun (J7 : AV → AV → List AObj → Prop) =>
 bF t62 false
 (aP false c (.fn (.func 23) [] []) [t0, t2] h (fun t66 h =>
 runD (binD aB .eql t66 (.int .i64 0)) h fun t67 h =>
 J7 (.bool false) t67 h)
 (fun v h => K (.pan v) h))
 (J7 (.bool true) .und h))
 (fun t63 t67 h => runD (bT t63 (.bool true) t67) h fun t68 h =>
 aL (fun (J8 : AV → AV → List AObj → Prop) =>
 bF t68 false
 (aP false c (.fn (.func 23) [] []) [t1, t2] h (fun t72 h =>
 runD (binD aB .eql t72 (.int .i64 0)) h fun t73 h =>
 J8 (.bool false) t73 h)
 (fun v h => K (.pan v) h))
 (J8 (.bool true) .und h))
 (fun t69 t73 h => runD (bT t69 (.bool true) t73) h fun t74 h =>
 bE t74
 (K (.ret t14) h)
 (aP false c (.fn (.func 25) [] []) [t0, t2] h (fun t78 h =>
 cS aU h fun t12 h =>
 runH (aR aU h t12 t78) h fun _ h =>
 aP false c (.fn (.func 25) [] []) [t1, t2] h (fun t81 h =>
 cS aU h fun t13 h =>
 runH (aR aU h t13 t81) h fun _ h =>
 aL (fun (J9 : AV → AV → List AObj → Prop) =>
 bF t14 true
 (runD (aC aU t12 6) h fun t84 h =>
 runD (fitD lB (aD h t84)) h fun t85 h =>
 runD (aC aU t13 6) h fun t86 h =>
 runD (fitD lB (aD h t86)) h fun t87 h =>
 runD (binD lB .eql t85 t87) h fun t88 h =>
 J9 (.bool true) t88 h)
 (J9 (.bool false) .und h))
 (fun t83 t88 h => runD (bT t83 t88 (.bool false)) h fun t89 h =>
 aL (fun (J10 : AV → AV → List AObj → Prop) =>
 bF t89 true
 (runD (aC aU t12 5) h fun t91 h =>
 runD (fitD cE (aD h t91)) h fun t92 h =>
 runD (aC aU t13 5) h fun t93 h =>
 runD (fitD cE (aD h t93)) h fun t94 h =>
 runD (binD cE .eql t92 t94) h fun t95 h =>
 J10 (.bool true) t95 h)
 (J10 (.bool false) .und h))
 (fun t90 t95 h => runD (bT t90 t95 (.bool false)) h fun t96 h =>
 aL (fun (J11 : AV → AV → List AObj → Prop) =>
 bF t96 true
 (runD (aC aU t12 1) h fun t98 h =>
 runD (fitD aB (aD h t98)) h fun t99 h =>
 runD (aC aU t13 1) h fun t100 h =>
 runD (fitD aB (aD h t100)) h fun t101 h =>
 runD (binD aB .eql t99 t101) h fun t102 h =>
 J11 (.bool true) t102 h)
 (J11 (.bool false) .und h))
 (fun t97 t102 h => runD (bT t97 t102 (.bool false)) h fun t103 h =>
 K (.ret t103) h))))
 (fun v h => K (.pan v) h))
 (fun v h => K (.pan v) h)))))))
 (fun v h => K (.pan v) h))
 (fun v h => K (.pan v) h)))))))
 (fun v h => K (.pan v) h)
theorem fC.eq (F : List (FuncId × aE)) (S : List (FuncId × Con)) (t0 t1 t2 : AV) (h : List AObj) (K : AOut → List AObj → Prop) : funW (ctx F S fC.loops) Tryz.f6 [t0, t1, t2] h K = fC.H (ctx F S fC.loops) t0 t1 t2 h K := by kernel_rfl
end Lam
namespace Lam
open Go Go.Proofs
abbrev qQ : Ctx := ctx [(11, cI.C), (26, fM.C), (20, bZ.C), (23, cC.C), (25, cL.C)] [] fC.loops
set_option maxHeartbeats 1000000 in
theorem aGU (words : List Int) (other : List Int) (key : bD) (w_words : wfL (.ints .i64 words)) (n_words : words.length ≤ maxLen) (w_other : wfL (.ints .i64 other)) (n_other : other.length ≤ maxLen) : fC.H qQ (.sl false (.ints .i64 words)) (.sl false (.ints .i64 other)) (.str key) [] Told := by
  unfold fC.H
  simp (maxSteps := 4000000) only [go_sem, reduceEqDiff, Nat.reduceLT, reduceAdd, reduceSub, reduceLeDiff, reduceReplicate, reduceToNat, cI.C, fM.C, bZ.C, cC.C, cL.C]
  have hi := aHZ w_words
  have ho := aHZ w_other
  have hs : ∀ w : List Int, i64s w → w.length ≤ 1000 → iI w := fun w h1 h2 => ⟨by omega, h1⟩
  refine ⟨fun _ => by decide, fun _ => by decide, fun _ => rfl, fun hg => ?_⟩
  simp only [Bool.or_eq_false_iff, decide_eq_false_iff_not, Bool.not_eq_false', decide_eq_true_eq] at hg
  obtain ⟨⟨⟨⟨g1, g2⟩, g3⟩, g4⟩, g5⟩ := hg
  have hw : words.length ≤ 1000 := by omega
  have hw2 : other.length ≤ 1000 := by omega
  have h16 : words.length % 16 = 0 := by rw [Int.tmod_eq_emod_of_nonneg (by omega)] at g3; omega
  have h162 : other.length % 16 = 0 := by rw [Int.tmod_eq_emod_of_nonneg (by omega)] at g4; omega
  have hS := hs words hi hw
  have hS2 := hs other ho hw2
  obtain ⟨P, e, hp, hrP, hl⟩ := aEW hw
  obtain ⟨P2, e2, hp2, hrP2, hl2⟩ := aEW hw2
  refine ⟨hS, ?_⟩
  simp only [hp, hp2, aA, aA, gq, reduceEq, reduceLT, reduceLE, implies_true, reduceCtorEq, if_true, if_false, go_sem, reduceEqDiff, Nat.reduceLT, reduceAdd, reduceSub, reduceLeDiff, reduceReplicate, reduceToNat]
  refine ⟨hS2, ?_⟩
  by_cases h1 : e = 0
  rotate_left
  · simp only [h1, decide_false, aA, aA, gq, reduceEq, reduceLT, reduceLE, implies_true, reduceCtorEq, if_true, if_false, go_sem, reduceEqDiff, Nat.reduceLT, reduceAdd, reduceSub, reduceLeDiff, reduceReplicate, reduceToNat]
    exact rfl
  by_cases h2 : e2 = 0
  rotate_left
  · simp only [h1, h2, decide_false, aA, aA, gq, reduceEq, reduceLT, reduceLE, implies_true, reduceCtorEq, if_true, if_false, go_sem, reduceEqDiff, Nat.reduceLT, reduceAdd, reduceSub, reduceLeDiff, reduceReplicate, reduceToNat]
    exact rfl
  subst h1
  subst h2
  by_cases h3 : P = P2
  rotate_left
  · simp only [bZ.C, h3, decide_false, aA, aA, gq, reduceEq, reduceLT, reduceLE, implies_true, reduceCtorEq, if_true, if_false, go_sem, reduceEqDiff, Nat.reduceLT, reduceAdd, reduceSub, reduceLeDiff, reduceReplicate, reduceToNat]
    exact ⟨hrP, rfl⟩
  by_cases h4 : vY words key = 0
  · subst h3
    simp only [bZ.C, h4, decide_false, aA, aA, gq, reduceEq, reduceLT, reduceLE, implies_true, reduceCtorEq, if_true, if_false, go_sem, reduceEqDiff, Nat.reduceLT, reduceAdd, reduceSub, reduceLeDiff, reduceReplicate, reduceToNat]
    exact ⟨hrP, hS, rfl⟩
  by_cases h5 : vY other key = 0
  · subst h3
    simp only [bZ.C, h4, h5, decide_false, aA, aA, gq, reduceEq, reduceLT, reduceLE, implies_true, reduceCtorEq, if_true, if_false, go_sem, reduceEqDiff, Nat.reduceLT, reduceAdd, reduceSub, reduceLeDiff, reduceReplicate, reduceToNat]
    exact ⟨hrP, hS, hS2, rfl⟩
  obtain ⟨l, hlA, rfl⟩ := hl rfl
  obtain ⟨l2, hlB, rfl⟩ := hl2 rfl
  have hsame : ∃ a c d s1 s2 s3 s4 s5 p v f a' c' d' r1 r2 r3 r4 r5, uU words key = ⟨a, p, c, d, ⟨s1, s2, s3, s4, s5⟩, v, f⟩ ∧ uU other key = ⟨a', p, c', d', ⟨r1, r2, r3, r4, r5⟩, v, f⟩ := by
    by_cases hk : key ≠ [] ∧ key.length ≤ 21
    · obtain ⟨a, c, d, ⟨s1, s2, s3, s4, s5⟩, h⟩ := aIq hw hlA hk h4
      obtain ⟨a', c', d', ⟨r1, r2, r3, r4, r5⟩, h'⟩ := aIq hw2 hlB hk h5
      rw [← h3] at h'
      exact ⟨a, c, d, s1, s2, s3, s4, s5, 8, _, _, a', c', d', r1, r2, r3, r4, r5, h, h'⟩
    · rw [aGT hk, aGT hk]
      exact ⟨_, _, _, _, _, _, _, _, _, _, _, _, _, _, _, _, _, _, _, rfl, rfl⟩
  obtain ⟨a, c, d, s1, s2, s3, s4, s5, p, v, f, a', c', d', r1, r2, r3, r4, r5, x1, x2⟩ := hsame
  rw [← h3]
  generalize allP words l = P at *
  simp only [bZ.C, h4, h5, x1, x2, Rd.V, Sk.V, decide_false, aA, aA, gq, reduceEq, reduceLT, reduceLE, implies_true, reduceCtorEq, if_true, if_false, go_sem, reduceEqDiff, Nat.reduceLT, reduceAdd, reduceSub, reduceLeDiff, reduceReplicate, reduceToNat]
  exact ⟨hrP, hS, hS2, ⟨hw, h16, hi⟩, ⟨hw2, h162, ho⟩, rfl⟩
theorem ReadAgain_ok : Ok Tryz.prog qQ := bQ (by simpa using ⟨cI.spec, fM.spec, bZ.spec, cC.spec, cL.spec⟩) (by simp) _
theorem ReadAgain_law (words : Lst) (other : Lst) (key : bD) (k_words : words.kind = (.int .i64)) (w_words : wfL words) (n_words : words.len ≤ maxLen) (k_other : other.kind = (.int .i64)) (w_other : wfL other) (n_other : other.len ≤ maxLen) : funW qQ Tryz.f6 [(.sl false words), (.sl false other), (.str key)] [] Told := by
  obtain ⟨words, rfl⟩ := aDe k_words
  obtain ⟨other, rfl⟩ := aDe k_other
  rw [qQ, fC.eq]
  exact aGU words other key w_words n_words w_other n_other
end Lam
